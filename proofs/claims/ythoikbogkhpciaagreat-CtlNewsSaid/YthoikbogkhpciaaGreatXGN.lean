/- CtlNews: of all plans it is told whether there may be a fabric; of all Ops whether they are orders; of what isn't there nothing is told. Conditions: the arguments are of their types. -/
import Derived.Test.YthoikbogkhpciaaGreatXGM
set_option linter.unusedVariables false
set_option linter.unusedSimpArgs false
set_option maxRecDepth 100000
namespace Go.Proofs.YthoikbogkhpciaaGreatE
open Go Go.Proofs
def env_lNews : Nat → Ann
  | 3 => ⟨.nil, [], true⟩
  | 9 => ⟨.op 0 [] <| .op 1 [] <| .op 2 [] <| .op 3 [] <| .op 4 [] <| .op 5 [] <| .op 6 [] <| .op 7 [] <| .op 8 [] <| .op 9 [] <| .op 10 [] <| .op 11 [] <| .op 12 [] <| .op 13 [] <| .op 14 [] <| .op 15 [] <| .op 18 [] <| .op 16 [18] <| .op 17 [18] <| .op 19 [] <| .op 20 [] <| .op 21 [] <| .nil, [0, 1, 3, 7, 7, 31, 63, 127, 255, 511, 255, 1279, 4095, 8191, 16383, 32767, 65535, 131071, 32767, 524287, 1048575, 2097151], false⟩
  | 18 => ⟨.op 0 [] <| .op 1 [] <| .op 2 [] <| .op 6 [] <| .op 7 [] <| .op 8 [] <| .op 3 [6, 8] <| .op 4 [6, 8] <| .op 5 [] <| .op 9 [] <| .op 10 [] <| .op 11 [] <| .op 12 [] <| .op 13 [] <| .op 14 [] <| .op 15 [] <| .op 16 [] <| .op 17 [] <| .op 18 [] <| .op 19 [] <| .op 20 [] <| .op 21 [] <| .op 22 [] <| .op 23 [] <| .op 24 [] <| .op 25 [] <| .op 26 [] <| .op 27 [] <| .op 28 [] <| .op 29 [] <| .op 30 [] <| .op 31 [] <| .op 32 [] <| .op 33 [] <| .op 34 [] <| .op 35 [] <| .op 36 [] <| .op 37 [] <| .op 38 [] <| .op 39 [] <| .op 40 [] <| .op 41 [] <| .op 42 [] <| .op 43 [] <| .op 44 [] <| .op 45 [] <| .op 46 [] <| .op 47 [] <| .op 48 [] <| .op 49 [] <| .op 50 [] <| .op 51 [] <| .op 52 [] <| .op 55 [] <| .op 53 [] <| .op 54 [] <| .op 56 [] <| .op 57 [] <| .op 58 [] <| .op 59 [] <| .op 62 [] <| .op 63 [] <| .op 60 [63] <| .op 61 [] <| .op 64 [] <| .op 65 [] <| .op 66 [] <| .nil, [0, 0, 0, 4, 15, 31, 0, 0, 0, 479, 1023, 2047, 4095, 8191, 16383, 32767, 65535, 131071, 131071, 393215, 1048575, 2097151, 4194303, 8388607, 16777215, 33554431, 67108863, 134217727, 268435455, 536870911, 1073741823, 2147483647, 4294967295, 8589934591, 17179869183, 34359738367, 34359738367, 103079215103, 274877906943, 549755813887, 1099511627775, 2199023255551, 4398046511103, 8796093022207, 17592186044415, 35184372088831, 70368744177663, 140737488355327, 281474976710655, 562949953421311, 1125899906842623, 2251799813685247, 4503599627370495, 9007199254740991, 18014398509481983, 4503599627370495, 72057594037927935, 144115188075855871, 288230376151711743, 576460752303423487, 1152921504606846975, 2305843009213693951, 576460752303423487, 5188146770730811391, 18446744073709551615, 36893488147419103231, 73786976294838206463], false⟩
  | _ => ⟨.nil, [], false⟩
def env_cMembersY : Nat → Ann
  | 4 => ⟨.op 0 [] <| .op 1 [] <| .op 2 [] <| .op 3 [] <| .op 4 [] <| .op 5 [] <| .op 6 [3] <| .op 7 [] <| .op 8 [] <| .nil, [0, 1, 3, 7, 0, 0, 48, 127, 255], false⟩
  | _ => ⟨.nil, [], false⟩
section
variable {h h' : Heap} {F : Fb} {M : MemS}
theorem cRing_no (H : FabAt h F) {a b : Int} (hb : ¬ ((0 ≤ a ∧ a < F.P) ∧ (0 ≤ b ∧ b < F.P))) : HCalls Tryz.prog 39 #[.pointer (some ⟨F.fb, 0, none⟩), .int .i64 a, .int .i64 b] h (fun v h' => v = .pointer none ∧ h' = h) := by
  refine xcalls env0 Tryz.func39 rfl (by kernel_rfl) rfl (by kernel_rfl) ?_
  refine (cHas_spec H a).mono ?_
  rintro v h1 ⟨rfl, rfl⟩
  refine xif_of (fun g => ?_) (fun g => ?_)
  · exact ⟨rfl, rfl⟩
  refine (cHas_spec H b).mono ?_
  rintro v h1 ⟨rfl, rfl⟩
  have g : (0 ≤ a ∧ a < F.P) := by simpa using g
  refine xif_true ?_ ?_
  · cases e : (decide (0 ≤ b) && decide (b < (F.P : Int)))
    · rfl
    · exact absurd ⟨g, by simpa using e⟩ hb
  exact ⟨rfl, rfl⟩
theorem cStand_no (H : FabAt h F) {a : Int} (hb : ¬ (0 ≤ a ∧ a < F.P)) : HCalls Tryz.prog 30 #[.pointer (some ⟨F.fb, 0, none⟩), .int .i64 a] h (fun v h' => v = .agg #[.int .i64 0, .int .u32 0] ∧ Ext h h') := by
  refine xcalls env0 Tryz.func30 rfl (by kernel_rfl) rfl (by kernel_rfl) ?_
  intro b0 h1 n1
  refine (cHas_spec (H.ext n1.ext) a).mono ?_
  rintro v h2 ⟨rfl, rfl⟩
  refine xif_true ?_ ?_
  · cases e : (decide (0 ≤ a) && decide (a < (F.P : Int)))
    · rfl
    · exact absurd (by simpa using e) hb
  refine ⟨rfl, rfl, canset_blk n1.this rfl, fun h3 s3 => ?_⟩
  have hb3 : h3[b0]? = some (.cells [Value.int .i64 0, Value.int .u32 0].toArray _ (0, 0)) := s3.put n1.this
  exact ⟨[.int .i64 0, .int .u32 0], rfl, reads_all hb3, rfl, n1.ext.stored s3 (n1.ge (Ext.refl _))⟩
theorem cTake_noP (H : FabAt h F) {a who : Int} (hb : ¬ (0 ≤ a ∧ a < F.P)) : HCalls Tryz.prog 25 #[.pointer (some ⟨F.fb, 0, none⟩), .int .i64 a, .int .i64 who] h (fun v h' => v = .bool false ∧ h' = h) := by
  refine xcalls env0 Tryz.func25 rfl (by kernel_rfl) rfl (by kernel_rfl) ?_
  refine (cHas_spec H a).mono ?_
  rintro v h1 ⟨rfl, rfl⟩
  refine xif_false ?_ ?_
  · cases e : (decide (0 ≤ a) && decide (a < (F.P : Int)))
    · rfl
    · exact absurd (by simpa using e) hb
  exact ⟨rfl, rfl⟩
theorem mTake_noW (H : MemAt h F.mb F.cb F.lb M) {i : Nat} {who : Int} (hi : i < M.locks.length) (hw : who < 0) : HCalls Tryz.prog 67 #[.pointer (some ⟨F.mb, 0, none⟩), .int .i64 i, .int .i64 who] h (fun v h' => v = .bool false ∧ h' = h) := by
  refine xcalls env0 Tryz.func67 rfl (by kernel_rfl) rfl (by kernel_rfl) ?_
  refine (mLock_spec H i).mono ?_
  rintro v h1 ⟨rfl, rfl⟩
  have e : (decide (0 ≤ (i : Int)) && decide ((i : Int) < M.locks.length)) = true := by
    rw [decide_eq_true (by omega), decide_eq_true (by omega)]; rfl
  refine xif_true e ?_
  refine xif_false (decide_eq_false ?_) ?_
  · show ¬ who ≥ 0
    omega
  exact ⟨rfl, rfl⟩
theorem cTake_noW (H : FabAt h F) (HM : MemAt h F.mb F.cb F.lb M) {p : Nat} (hp : p < F.P) {who : Int} (hi : p < M.locks.length) (hw : who < 0) : HCalls Tryz.prog 25 #[.pointer (some ⟨F.fb, 0, none⟩), .int .i64 p, .int .i64 who] h (fun v h' => v = .bool false ∧ h' = h) := by
  obtain ⟨RA, rc, hb', hr⟩ := H.blk
  refine xcalls env0 Tryz.func25 rfl (by kernel_rfl) rfl (by kernel_rfl) ?_
  refine (cHas_spec H p).mono ?_
  rintro v h1 ⟨rfl, rfl⟩
  refine xif_true (has_yes hp) ?_
  repeat (first | refine ⟨_, cell_blk (hb') rfl, ?_⟩)
  refine (mTake_noW HM hi hw).mono ?_
  rintro v h1 ⟨rfl, rfl⟩
  exact ⟨rfl, rfl⟩
theorem cMembers_no (H : FabAt h F) {vid : Int} (hf : findV vid F.vls 0 < 0) : HCalls Tryz.prog 35 #[.pointer (some ⟨F.fb, 0, none⟩), .int .i64 vid] h (fun v h' => v = .int .u64 0 ∧ Ext h h') := by
  refine xcalls env_cMembersY Tryz.func35 rfl (by kernel_rfl) rfl (by kernel_rfl) ?_
  refine (cVlan_spec H vid).mono ?_
  rintro v h1 ⟨rfl, x1⟩
  refine xif_true (decide_eq_true hf) ?_
  exact ⟨rfl, x1⟩
end
theorem findV_none {vid : Int} : ∀ (l : List Vl) (i : Nat), (∀ w ∈ l, w.vid ≠ vid) → findV vid l i = -1
  | [], _, _ => rfl
  | w :: l, i, h => by
    unfold findV
    rw [if_neg (h w (.head _))]
    exact findV_none l (i + 1) fun w hw => h w (.tail _ hw)
theorem vChk_pos {all : Int} : ∀ (l : List Vl) (last : Int), vChk all l last = 0 → ∀ v ∈ l, 1 ≤ v.vid
  | [], _, _, v, hv => by cases hv
  | w :: l, last, h, v, hv => by
    unfold vChk at h
    by_cases g : (w.vid < 1 ∨ 4094 < w.vid) ∨ w.vid ≤ last
    · rw [if_pos g] at h; cases h
    · rw [if_neg g] at h
      by_cases g2 : withinM w.mem all = false
      · rw [if_pos g2] at h; cases h
      · rw [if_neg g2] at h
        by_cases g3 : withinM w.unt w.mem = false
        · rw [if_pos g3] at h; cases h
        · rw [if_neg g3] at h
          rcases List.mem_cons.1 hv with rfl | hv
          · omega
          · exact vChk_pos l _ h v hv
theorem mCheckM_vids {P tries ring : Int} {rules : List Ru} {vls : List Vl} {s : Sz} (h : mCheckM P rules vls s tries ring = 0) : ∀ v ∈ vls, 1 ≤ v.vid := by
  obtain ⟨hP, _, hl, _⟩ := mCheckM_zero h
  unfold mCheckM at h
  by_cases a : vCheckM vls P ≠ 0
  · rw [if_pos a] at h; exact absurd h a
  · have a' : vCheckM vls P = 0 := Decidable.not_not.1 a
    unfold vCheckM at a'
    rw [if_neg (by omega), if_neg (by omega)] at a'
    exact vChk_pos _ _ a'
/-- The first ones of a list. -/
theorem Row.take {α : Type} {enc : α → List Value} {sz : Nat} {h : Heap} {A : Option Addr} {xs : List α} (H : Row enc sz h A xs) (n : Nat) : Row enc sz h A (xs.take n) := fun i x hx => H i x (by
  rw [List.getElem?_take] at hx
  split at hx
  · exact hx
  · cases hx)
theorem slice_front {A : Option Addr} {n m c sz : Nat} : Value.slice (if ((c : Nat) : Int).toNat = Int.toNat 0 then A else Option.map (fun (x : Addr) => x.add (Int.toNat 0 * sz)) A) ((if (n : Int) < (m : Int) then (n : Int) else (m : Int)).toNat - Int.toNat 0) (((c : Nat) : Int).toNat - Int.toNat 0) = Value.slice A (min m n) c := by
  have e1 : (if (n : Int) < (m : Int) then (n : Int) else (m : Int)).toNat - Int.toNat 0 = min m n := by split <;> omega
  have e2 : ((c : Nat) : Int).toNat - Int.toNat 0 = c := by omega
  rw [e1, e2]
  congr 1
  split
  · rfl
  · cases A with
    | none => rfl
    | some a => rw [Option.map_some]; show some (a.add (0 * sz)) = some a; rw [Nat.zero_mul]; congr 1
theorem lNews_spec {h : Heap} {A B : Option Addr} {na ca nb cb : Nat} {rules : List Ru} {vls : List Vl} {P tries ring normal short who : Int} {s : Sz} {o : Op17}
    (hra : Row encRu 2 h A rules) (hla : rules.length = na) (hna : na ≤ ca) (hca : ca ≤ 9223372036854775807) (hrb : Row encVl 3 h B vls) (hlb : vls.length = nb) (hnb : nb ≤ cb) (hcb : cb ≤ 9223372036854775807) (wf : ∀ v ∈ vls, SetWf v.mem ∧ SetWf v.unt) (wk : KeyWf o.kvid o.mac) :
    HCalls Tryz.prog 8 #[.agg (planV P (.slice A na ca) (.slice B nb cb) s tries ring normal short).toArray, .agg (encO17 o).toArray, .int .i64 who] h (fun v h' => v = .bool true ∧ Ext h h') := by
  subst hla hlb
  refine xcalls env_lNews Tryz.func8 rfl (by kernel_rfl) rfl (by kernel_rfl) ?_
  intro ib h1 n1 ob h2 n2
  have hob2 : h2[ob]? = some (.cells (encO17 o).toArray 58 (0, 0)) := n2.this
  have hib2 : h2[ib]? = some (.cells (planV P (.slice A rules.length ca) (.slice B vls.length cb) s tries ring normal short).toArray 28 (0, 0)) := n2.ext.blk n1.this
  have x2 := n1.ext.trans n2.ext
  have gib : h.size ≤ ib := n1.ge (Ext.refl _)
  refine ⟨Unit, fun _ => [(2, .int .i64 who), (3, .pointer (some ⟨ib, 0, none⟩)), (4, .pointer (some ⟨ob, 0, none⟩))], fun _ h' => Ext h2 h', ?_, ?_⟩
  · repeat (first | refine ⟨_, cell_blk (hib2) rfl, ?_⟩)
    refine xif_of (fun g => ?_) (fun g => ?_)
    · refine ⟨_, rfl, reads_all hib2, ?_⟩
      refine (r17Check_spec (x2.row hra) rfl (x2.row hrb) rfl (by omega) (by omega) wf).mono ?_
      rintro v h3 ⟨rfl, x3⟩
      refine xif_of (fun g2 => ?_) (fun g2 => ?_)
      · refine told19_spec.mono ?_
        rintro v h4 ⟨rfl, x4⟩
        exact ⟨rfl, (x2.trans x3).trans x4⟩
      · exact ⟨(), ⟨rfl, rfl, rfl, trivial⟩, x3⟩
    · exact ⟨(), ⟨rfl, rfl, rfl, trivial⟩, Ext.refl _⟩
  rintro _ h3 x3
  have hib3 := x3.blk hib2
  have hob3 := x3.blk hob2
  have x03 := x2.trans x3
  repeat (first | refine ⟨_, cell_blk (hib3) rfl, ?_⟩)
  refine ⟨fun g => rfl, Int.le_refl _, ?_, ?_, Int.le_refl _, rfl, rfl, canset_blk hib3 rfl, fun h4 s4 => ?_⟩
  · show 0 ≤ if (20 : Int) < (vls.length : Int) then (20 : Int) else (vls.length : Int)
    split <;> omega
  · show (if (20 : Int) < (vls.length : Int) then (20 : Int) else (vls.length : Int)) ≤ (cb : Int)
    split <;> omega
  have s4' : Stored h3 ⟨ib, 2, none⟩ [.slice B (min vls.length 20) cb] h4 := by rw [← slice_front (n := 20) (sz := 3)]; exact s4
  have hib4 : h4[ib]? = some (.cells (planV P (.slice A rules.length ca) (.slice B (min vls.length 20) cb) s tries ring normal short).toArray 28 (0, 0)) := s4'.put hib3
  have x4 := x03.stored s4' gib
  have ne1 : ob ≠ ib := by have := n2.at_; have := blk_lt n1.this; omega
  have hob4 := s4'.blk hob3 ne1
  repeat (first | refine ⟨_, cell_blk (hib4) rfl, ?_⟩)
  refine ⟨fun g => rfl, Int.le_refl _, ?_, ?_, Int.le_refl _, rfl, rfl, canset_blk hib4 rfl, fun h5 s5 => ?_⟩
  · show 0 ≤ if (70 : Int) < (rules.length : Int) then (70 : Int) else (rules.length : Int)
    split <;> omega
  · show (if (70 : Int) < (rules.length : Int) then (70 : Int) else (rules.length : Int)) ≤ (ca : Int)
    split <;> omega
  have s5' : Stored h4 ⟨ib, 1, none⟩ [.slice A (min rules.length 70) ca] h5 := by rw [← slice_front (n := 70) (sz := 2)]; exact s5
  have hib5 : h5[ib]? = some (.cells (planV P (.slice A (min rules.length 70) ca) (.slice B (min vls.length 20) cb) s tries ring normal short).toArray 28 (0, 0)) := s5'.put hib4
  have x5 := x4.stored s5' gib
  have hob5 := s5'.blk hob4 ne1
  have hra5 := Row.take (x5.row hra) 70
  have hrb5 := Row.take (x5.row hrb) 20
  have lra : (rules.take 70).length = min rules.length 70 := by rw [List.length_take]; omega
  have lrb : (vls.take 20).length = min vls.length 20 := by rw [List.length_take]; omega
  have wf5 : ∀ v ∈ vls.take 20, SetWf v.mem ∧ SetWf v.unt := fun v hv => wf v (List.mem_of_mem_take hv)
  obtain ⟨rl, hrl⟩ : ∃ rl, rules.take 70 = rl := ⟨_, rfl⟩
  obtain ⟨vl, hvl⟩ : ∃ vl, vls.take 20 = vl := ⟨_, rfl⟩
  obtain ⟨nr, hnr⟩ : ∃ nr, min rules.length 70 = nr := ⟨_, rfl⟩
  obtain ⟨nv, hnv⟩ : ∃ nv, min vls.length 20 = nv := ⟨_, rfl⟩
  rw [hnr, hnv] at hib5
  rw [hrl, hnr] at lra
  rw [hvl, hnv] at lrb
  rw [hrl] at hra5
  rw [hvl] at hrb5 wf5
  have nr70 : nr ≤ 70 := by omega
  have nv20 : nv ≤ 20 := by omega
  refine ⟨_, rfl, reads_all hib5, ?_⟩
  refine (l17To_spec hra5 lra hrb5 lrb (by omega) (by omega)).mono ?_
  rintro v h6 ⟨A', c', B', d', rfl, oA, oB, x6⟩
  by_cases hck : mCheckM P rl vl s tries ring = 0
  rotate_left
  · refine (cMake_bad (oA.row encRu_len) lra (oB.row encVl_len) lrb (by omega) (by omega) wf5 hck).mono ?_
    rintro v h7 ⟨rfl, y7⟩
    have x67 := x6.trans y7
    have x7 := x5.trans x67
    refine ⟨_, rfl, reads_all (x67.blk hib5), ?_⟩
    refine (r17Check_spec (x67.row hra5) lra (x67.row hrb5) lrb (by omega) (by omega) wf5).mono ?_
    rintro v HX ⟨rfl, y0⟩
    have x8 := x7.trans y0
    have i8 := (x67.trans y0).blk hib5
    have o8 := (x67.trans y0).blk hob5
    refine told19_spec.mono ?_
    rintro v h9 ⟨rfl, y9⟩
    have i9 := y9.blk i8
    have x9 := x8.trans y9
    have x9r := (x67.trans y0).trans y9
    refine xif_false (by simp) ?_
    refine xif_false ?_ ?_
    · show (false != (mCheckM P rl vl s tries ring == 0)) = false
      rw [beq_eq_false_iff_ne.2 hck]; rfl
    refine ⟨_, rfl, reads_all i9, _, rfl, reads_all i9, ?_⟩
    refine (l17To_spec (x9r.row hra5) lra (x9r.row hrb5) lrb (by omega) (by omega)).mono ?_
    rintro v h10 ⟨A2, e2, B2, f2, rfl, oA2, oB2, y10⟩
    have i10 := y10.blk i9
    refine ⟨⟨reads_all i10, trivial⟩, ?_⟩
    refine (cBound_exact (oA2.row encRu_len) lra (oB2.row encVl_len) lrb (by omega) (by omega) wf5).mono ?_
    rintro v h11 ⟨rfl, y11⟩
    have i11 := y11.blk i10
    refine ⟨⟨reads_all i11, trivial⟩, ?_⟩
    have x11r := (x9r.trans y10).trans y11
    refine (rBound19_exact (x11r.row hra5) lra (x11r.row hrb5) lrb (by omega) (by omega) wf5).mono ?_
    rintro v h12 ⟨rfl, y12⟩
    refine xif_false (by simp) ?_
    refine cMem0_spec.mono ?_
    rintro v h13 ⟨rfl, rfl⟩
    refine cFdb0_spec.mono ?_
    rintro v h13 ⟨rfl, rfl⟩
    refine cRing0_spec.mono ?_
    rintro v h13 ⟨rfl, rfl⟩
    refine cShape0_spec.mono ?_
    rintro v h14 ⟨⟨w1, w2, w3, rfl⟩, y14⟩
    refine (cCommand0_spec (o := ⟨7, 0, 0, 0, 0, 0, 0, 0, 0, 0, 0, 0, 0, 0⟩)).mono ?_
    rintro v h15 ⟨rfl, y15⟩
    refine cTake0_spec.mono ?_
    rintro v h16 ⟨rfl, rfl⟩
    refine cFree0_spec.mono ?_
    rintro v h16 ⟨rfl, rfl⟩
    refine cStand0_spec.mono ?_
    rintro v h17 ⟨rfl, y17⟩
    refine cMembers0_spec.mono ?_
    rintro v h18 ⟨rfl, rfl⟩
    refine cUntagged0_spec.mono ?_
    rintro v h18 ⟨rfl, rfl⟩
    refine cPlan0_spec.mono ?_
    rintro v h19 ⟨rfl, y19⟩
    refine aStep0_spec.mono ?_
    rintro v h20 ⟨rfl, rfl⟩
    refine aOver0_spec.mono ?_
    rintro v h20 ⟨rfl, rfl⟩
    refine aAnswer0_spec.mono ?_
    rintro v h20 ⟨rfl, rfl⟩
    refine aLog0_spec.mono ?_
    rintro v h20 ⟨rfl, rfl⟩
    have yy := ((((y9.trans y10).trans y11).trans y12).trans y14).trans ((y15.trans y17).trans y19)
    refine xif_true (by simpa using hck) ?_
    exact ⟨rfl, x8.trans yy⟩
  · obtain ⟨hP, hlr, _, ok, ht, hr⟩ := mCheckM_zero hck
    obtain ⟨p, hp⟩ : ∃ p : Nat, P = (p : Int) := ⟨P.toNat, by omega⟩
    obtain ⟨r, hrr⟩ : ∃ r : Nat, ring = (r : Int) := ⟨ring.toNat, by omega⟩
    subst hp hrr
    refine (cMake_spec oA lra oB lrb (by omega) (by omega) wf5 hck ok ht.1 ht.2 (by omega) (by omega) (by omega) (by omega)).mono ?_
    rintro v h7 ⟨F, M, rfl, eP, eS, eV, Fr0⟩
    have x67 := x6.trans Fr0.ext
    have x7 := x5.trans x67
    have Fr := Fr0.mono (x5.trans x6)
    refine ⟨_, rfl, reads_all (x67.blk hib5), ?_⟩
    refine (r17Check_spec (x67.row hra5) lra (x67.row hrb5) lrb (by omega) (by omega) wf5).mono ?_
    rw [hck]
    rintro v HX ⟨rfl, y0⟩
    have x8 := x7.trans y0
    have i8 := (x67.trans y0).blk hib5
    have o8 := (x67.trans y0).blk hob5
    refine told19_spec.mono ?_
    rintro v h9 ⟨rfl, y9⟩
    have i9 := y9.blk i8
    have x9 := x8.trans y9
    have x9r := (x67.trans y0).trans y9
    refine ⟨_, rfl, reads_all i9, _, rfl, reads_all i9, ?_⟩
    refine (l17To_spec (x9r.row hra5) lra (x9r.row hrb5) lrb (by omega) (by omega)).mono ?_
    rintro v h10 ⟨A2, e2, B2, f2, rfl, oA2, oB2, y10⟩
    have i10 := y10.blk i9
    refine ⟨⟨reads_all i10, trivial⟩, ?_⟩
    refine (cBound_exact (oA2.row encRu_len) lra (oB2.row encVl_len) lrb (by omega) (by omega) wf5).mono ?_
    rintro v h11 ⟨rfl, y11⟩
    have i11 := y11.blk i10
    refine ⟨⟨reads_all i11, trivial⟩, ?_⟩
    have x11r := (x9r.trans y10).trans y11
    refine (rBound19_exact (x11r.row hra5) lra (x11r.row hrb5) lrb (by omega) (by omega) wf5).mono ?_
    rintro v h12 ⟨rfl, y12⟩
    refine xif_false (by simp) ?_
    refine cMem0_spec.mono ?_
    rintro v h13 ⟨rfl, rfl⟩
    refine cFdb0_spec.mono ?_
    rintro v h13 ⟨rfl, rfl⟩
    refine cRing0_spec.mono ?_
    rintro v h13 ⟨rfl, rfl⟩
    refine cShape0_spec.mono ?_
    rintro v h14 ⟨⟨w1, w2, w3, rfl⟩, y14⟩
    refine (cCommand0_spec (o := ⟨7, 0, 0, 0, 0, 0, 0, 0, 0, 0, 0, 0, 0, 0⟩)).mono ?_
    rintro v h15 ⟨rfl, y15⟩
    refine cTake0_spec.mono ?_
    rintro v h16 ⟨rfl, rfl⟩
    refine cFree0_spec.mono ?_
    rintro v h16 ⟨rfl, rfl⟩
    refine cStand0_spec.mono ?_
    rintro v h17 ⟨rfl, y17⟩
    refine cMembers0_spec.mono ?_
    rintro v h18 ⟨rfl, rfl⟩
    refine cUntagged0_spec.mono ?_
    rintro v h18 ⟨rfl, rfl⟩
    refine cPlan0_spec.mono ?_
    rintro v h19 ⟨rfl, y19⟩
    refine aStep0_spec.mono ?_
    rintro v h20 ⟨rfl, rfl⟩
    refine aOver0_spec.mono ?_
    rintro v h20 ⟨rfl, rfl⟩
    refine aAnswer0_spec.mono ?_
    rintro v h20 ⟨rfl, rfl⟩
    refine aLog0_spec.mono ?_
    rintro v h20 ⟨rfl, rfl⟩
    have yy := ((((y9.trans y10).trans y11).trans y12).trans y14).trans ((y15.trans y17).trans y19)
    have Fr2 := (Fr.of_ext y0).of_ext yy
    have x20 := x8.trans yy
    have i20 := yy.blk i8
    have o20 := yy.blk o8
    have Mt := Fr2.t
    have p1 := Fr2.fab.p1
    refine (cMem_spec Fr2.fab).mono ?_
    rintro v h21 ⟨rfl, rfl⟩
    refine (mTime_spec Fr2.mem).mono ?_
    rintro v h21 ⟨rfl, rfl⟩
    refine ⟨_, rfl, reads_all o20, _, rfl, reads_all i20, _, rfl, reads_all o20, ?_⟩
    refine (l17Op_spec o).mono ?_
    rintro v h22 ⟨rfl, y22⟩
    have o22 := y22.blk o20
    have i22 := y22.blk i20
    first | refine ⟨⟨reads_all i22, reads_all o22, trivial⟩, ?_⟩ | refine ⟨⟨reads_all o22, reads_all i22, trivial⟩, ?_⟩ | refine ⟨⟨reads_all o22, reads_all i22, reads_all o22, trivial⟩, ?_⟩
    have Fr3 := Fr2.of_ext y22
    refine (cCommand_any (who := who) (d := ⟨F.mb, ((F.P + 2 * F.vls.length : Nat) : Int), F.P, F.s, F.tries⟩) Fr3.fab Fr3.mem Fr3.dbk Fr3.sok wk Fr3.pr (by omega)).mono ?_
    rintro v h23 ⟨r23, y23⟩
    have o23 := y23.blk o22
    have i23 := y23.blk i22
    have Fr4 := Fr3.of_ext y23
    have x23 := (x20.trans y22).trans y23
    have nf : findV (-7) F.vls 0 < 0 := by
      rw [findV_none F.vls 0 (fun w hw => by have := mCheckM_vids hck w (by rw [← eV]; exact hw); omega)]
      decide
    have hl0 : 0 < M.locks.length := (List.getElem?_eq_some_iff.1 (Fr2.locks 0 (by omega))).1
    have may : ∀ g : Heap, Row encVl 3 g B vl → HCalls Tryz.prog 51 #[.agg (planV (p : Int) (.slice A nr ca) (.slice B nv cb) s tries (r : Int) normal short).toArray, .int .i64 who, .agg (encO17 o).toArray] g (fun v h' => v = .bool (mayC F who o) ∧ Ext g h') := fun g hr => by
      have := r19May_spec (F := F) (h := g) (A := A) (na := nr) (ca := ca) (cb := cb) (s := s) (tries := tries) (ring := (r : Int)) (normal := normal) (short := short) (who := who) (o := o) (rules := []) (vls := []) (nb := nv) (B := B) (by rw [eV]; exact hr) (by rw [eV]; exact lrb) (by omega) wk
      rw [eP] at this
      exact this
    cases hm : mayC F who o
    · rw [hm, if_neg (by decide)] at r23
      subst r23
      refine ⟨⟨reads_all o23, reads_all i23, trivial⟩, ?_⟩
      refine (may _ ((x67.trans (((y0.trans yy).trans y22).trans y23)).row hrb5)).mono ?_
      rintro v h24 ⟨rfl, y24⟩
      rw [hm]
      have i24 := y24.blk i23
      have Fr5 := Fr4.of_ext y24
      have x24 := x23.trans y24
      repeat (first | refine ⟨_, cell_blk (i24) rfl, ?_⟩)
      refine (cRing_no Fr5.fab (by omega)).mono ?_
      rintro v h25 ⟨rfl, rfl⟩
      repeat (first | refine ⟨_, cell_blk (i24) rfl, ?_⟩)
      refine (cRing_no Fr5.fab (by omega)).mono ?_
      rintro v h25 ⟨rfl, rfl⟩
      refine (cRing_spec Fr5.fab (a := 0) (b := 1) (by omega) (by omega)).mono ?_
      rintro v h25 ⟨rfl, rfl⟩
      refine (cStand_no Fr5.fab (by omega)).mono ?_
      rintro v h25 ⟨rfl, y25⟩
      have i25 := y25.blk i24
      have Fr6 := Fr5.of_ext y25
      repeat (first | refine ⟨_, cell_blk (i25) rfl, ?_⟩)
      refine (cTake_noP Fr6.fab (by omega)).mono ?_
      rintro v h26 ⟨rfl, rfl⟩
      refine (cTake_noW Fr6.fab Fr6.mem (p := 0) (by omega) hl0 (by decide)).mono ?_
      rintro v h26 ⟨rfl, rfl⟩
      refine (cMembers_no Fr6.fab nf).mono ?_
      rintro v h26 ⟨rfl, y26⟩
      have i26 := y26.blk i25
      have Fr7 := Fr6.of_ext y26
      refine (cMem_spec Fr7.fab).mono ?_
      rintro v h27 ⟨rfl, rfl⟩
      refine (mTime_spec Fr7.mem).mono ?_
      rintro v h27 ⟨rfl, rfl⟩
      refine xif_true (by simp) ?_
      repeat (first | refine ⟨_, cell_blk (i26) rfl, ?_⟩)
      refine (cPlan_spec Fr7.fab).mono ?_
      rintro v h28 ⟨A9, e9, B9, f9, rfl, _, _, y28⟩
      have i28 := y28.blk i26
      refine ⟨⟨cell_blk i28 rfl, trivial⟩, ?_⟩
      refine ⟨congrArg Value.bool (by rw [eP]; simp), ((x24.trans y25).trans y26).trans y28⟩
    · rw [hm, if_pos rfl] at r23
      obtain ⟨ap, rfl⟩ := r23
      refine ⟨⟨reads_all o23, reads_all i23, trivial⟩, ?_⟩
      refine (may _ ((x67.trans (((y0.trans yy).trans y22).trans y23)).row hrb5)).mono ?_
      rintro v h24 ⟨rfl, y24⟩
      rw [hm]
      have i24 := y24.blk i23
      have Fr5 := Fr4.of_ext y24
      have x24 := x23.trans y24
      repeat (first | refine ⟨_, cell_blk (i24) rfl, ?_⟩)
      refine (cRing_no Fr5.fab (by omega)).mono ?_
      rintro v h25 ⟨rfl, rfl⟩
      repeat (first | refine ⟨_, cell_blk (i24) rfl, ?_⟩)
      refine (cRing_no Fr5.fab (by omega)).mono ?_
      rintro v h25 ⟨rfl, rfl⟩
      refine (cRing_spec Fr5.fab (a := 0) (b := 1) (by omega) (by omega)).mono ?_
      rintro v h25 ⟨rfl, rfl⟩
      refine (cStand_no Fr5.fab (by omega)).mono ?_
      rintro v h25 ⟨rfl, y25⟩
      have i25 := y25.blk i24
      have Fr6 := Fr5.of_ext y25
      repeat (first | refine ⟨_, cell_blk (i25) rfl, ?_⟩)
      refine (cTake_noP Fr6.fab (by omega)).mono ?_
      rintro v h26 ⟨rfl, rfl⟩
      refine (cTake_noW Fr6.fab Fr6.mem (p := 0) (by omega) hl0 (by decide)).mono ?_
      rintro v h26 ⟨rfl, rfl⟩
      refine (cMembers_no Fr6.fab nf).mono ?_
      rintro v h26 ⟨rfl, y26⟩
      have i26 := y26.blk i25
      have Fr7 := Fr6.of_ext y26
      refine (cMem_spec Fr7.fab).mono ?_
      rintro v h27 ⟨rfl, rfl⟩
      refine (mTime_spec Fr7.mem).mono ?_
      rintro v h27 ⟨rfl, rfl⟩
      refine xif_true (by simp) ?_
      repeat (first | refine ⟨_, cell_blk (i26) rfl, ?_⟩)
      refine (cPlan_spec Fr7.fab).mono ?_
      rintro v h28 ⟨A9, e9, B9, f9, rfl, _, _, y28⟩
      have i28 := y28.blk i26
      refine ⟨⟨cell_blk i28 rfl, trivial⟩, ?_⟩
      refine ⟨congrArg Value.bool (by rw [eP]; simp), ((x24.trans y25).trans y26).trans y28⟩
end Go.Proofs.YthoikbogkhpciaaGreatE
