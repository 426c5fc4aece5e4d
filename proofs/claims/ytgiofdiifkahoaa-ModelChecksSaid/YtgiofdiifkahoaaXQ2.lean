/- What the law ModelChecks answers: yes; of a model that isn't there nothing is told. Conditions: the arguments are of their types. -/
import Derived.Test.YtgiofdiifkahoaaXQ1
import Derived.Test.YtgiofdiifkahoaaXP2
set_option linter.unusedVariables false
set_option linter.unusedSimpArgs false
set_option maxRecDepth 100000
namespace Go.Proofs.YtgiofdiifkahoaaE
open Go Go.Proofs
def env_mNewn : Nat → Ann
  | 7 => ⟨.op 0 [] <| .op 1 [] <| .op 3 [] <| .op 4 [] <| .op 2 [4] <| .op 6 [] <| .op 5 [] <| .op 7 [] <| .op 8 [] <| .op 9 [] <| .nil, [0, 1, 3, 0, 8, 31, 31, 127, 255, 511], false⟩
  | 8 => ⟨.op 0 [] <| .op 1 [] <| .op 2 [] <| .op 4 [] <| .op 5 [] <| .op 7 [] <| .alt (.op 3 [0, 5] <| .alt (.op 6 [0, 2] <| .op 8 [0, 2, 5] <| .op 9 [] <| .op 10 [] <| .op 11 [] <| .op 12 [] <| .nil) (.op 8 [0, 2, 5] <| .op 6 [0, 2] <| .op 9 [] <| .op 10 [] <| .op 11 [] <| .op 12 [] <| .nil)) (.alt (.op 6 [0, 2] <| .alt (.op 3 [0, 5] <| .op 8 [0, 2, 5] <| .op 9 [] <| .op 10 [] <| .op 11 [] <| .op 12 [] <| .nil) (.op 8 [0, 2, 5] <| .op 3 [0, 5] <| .op 9 [] <| .op 10 [] <| .op 11 [] <| .op 12 [] <| .nil)) (.op 8 [0, 2, 5] <| .alt (.op 3 [0, 5] <| .op 6 [0, 2] <| .op 9 [] <| .op 10 [] <| .op 11 [] <| .op 12 [] <| .nil) (.op 6 [0, 2] <| .op 3 [0, 5] <| .op 9 [] <| .op 10 [] <| .op 11 [] <| .op 12 [] <| .nil))), [0, 0, 2, 6, 0, 16, 48, 0, 0, 511, 1023, 2047, 4095], false⟩
  | _ => ⟨.nil, [], false⟩
def env_mDon : Nat → Ann
  | 5 => ⟨.op 0 [] <| .op 1 [] <| .op 2 [] <| .op 3 [] <| .op 4 [] <| .op 5 [] <| .op 6 [] <| .op 7 [] <| .op 8 [] <| .op 9 [] <| .nil, [0, 1, 3, 7, 0, 16, 63, 127, 255, 511], false⟩
  | _ => ⟨.nil, [], false⟩
def env_mCopy : Nat → Ann
  | 3 => ⟨.op 0 [] <| .op 1 [] <| .op 2 [] <| .op 3 [] <| .op 4 [] <| .op 5 [] <| .op 6 [] <| .op 7 [] <| .op 9 [] <| .op 10 [] <| .op 11 [] <| .op 12 [] <| .op 14 [] <| .op 15 [] <| .op 16 [] <| .op 17 [] <| .alt (.op 8 [3, 12, 17] <| .alt (.op 13 [3, 17] <| .alt (.op 18 [3] <| .op 19 [3, 7, 12, 17] <| .op 20 [] <| .op 21 [] <| .op 22 [] <| .nil) (.op 19 [3, 7, 12, 17] <| .op 18 [3] <| .op 20 [] <| .op 21 [] <| .op 22 [] <| .nil)) (.op 19 [3, 7, 12, 17] <| .op 13 [3, 17] <| .op 18 [3] <| .op 20 [] <| .op 21 [] <| .op 22 [] <| .nil)) (.op 19 [3, 7, 12, 17] <| .op 8 [3, 12, 17] <| .op 13 [3, 17] <| .op 18 [3] <| .op 20 [] <| .op 21 [] <| .op 22 [] <| .nil), [0, 1, 3, 7, 0, 16, 48, 112, 240, 0, 512, 1536, 3584, 8176, 0, 16384, 49152, 114688, 262128, 0, 1048575, 2097151, 4194303], false⟩
  | 7 => ⟨.op 0 [] <| .op 1 [] <| .op 2 [] <| .op 3 [] <| .op 4 [] <| .op 5 [] <| .op 6 [3, 4] <| .op 7 [] <| .nil, [0, 1, 3, 7, 0, 0, 32, 127], false⟩
  | _ => ⟨.nil, [], false⟩
def env_mShapen : Nat → Ann
  | 4 => ⟨.op 0 [] <| .op 1 [] <| .op 2 [] <| .op 3 [] <| .op 4 [] <| .op 5 [] <| .op 6 [] <| .op 7 [] <| .op 8 [] <| .op 9 [] <| .op 10 [] <| .op 11 [] <| .op 12 [] <| .op 13 [] <| .nil, [0, 1, 3, 7, 15, 31, 0, 64, 192, 448, 960, 1984, 4095, 0], false⟩
  | 7 => ⟨.op 0 [] <| .op 1 [] <| .op 2 [] <| .op 3 [] <| .op 4 [] <| .op 5 [] <| .op 6 [] <| .op 7 [] <| .op 8 [] <| .op 9 [] <| .op 10 [] <| .op 11 [] <| .op 12 [] <| .op 13 [] <| .op 14 [] <| .op 15 [] <| .op 16 [] <| .op 17 [] <| .op 18 [] <| .op 19 [1] <| .op 20 [1] <| .op 21 [] <| .op 22 [] <| .op 23 [] <| .nil, [0, 1, 0, 0, 0, 16, 48, 112, 240, 496, 1016, 0, 0, 4096, 12288, 28672, 61440, 126976, 260096, 524284, 1048572, 2097151, 4194303, 8388607], false⟩
  | _ => ⟨.nil, [], false⟩
def env_lChecks17 : Nat → Ann
  | 8 => ⟨.nil, [], true⟩
  | _ => ⟨.nil, [], false⟩
section
variable {h : Heap}
theorem row_upto {α : Type} {enc : α → List Value} {sz : Nat} {A : Option Addr} {xs : List α} (H : Row enc sz h A xs) (n : Nat) {q : Prop} {inst : Decidable q} {f : Addr → Addr} (hf : ∀ a, f a = a) : Row enc sz h (@ite _ q inst A (Option.map f A)) (xs.take n) := by
  have e : (@ite _ q inst A (Option.map f A)) = A := by
    split
    · rfl
    · cases A with
      | none => rfl
      | some a => rw [Option.map_some, hf]
  rw [e]
  intro i x hx
  rw [List.getElem?_take] at hx
  split at hx
  · exact H i x hx
  · cases hx
theorem l3Few_spec {A : Option Addr} {n c : Nat} {l : List Vl} (hl : l.length = n) (hc : n ≤ c) : HCalls Try.prog 20 #[.slice A n c] h (fun v h' => ∃ A' c', v = .slice A' (l.take 20).length c' ∧ (∀ g, Row encVl 3 g A l → Row encVl 3 g A' (l.take 20)) ∧ h' = h) := by
  subst hl
  refine xcalls env0 Try.func20 rfl (by kernel_rfl) rfl (by kernel_rfl) ?_
  refine ⟨fun _ => rfl, by decide, ?_, ?_, Int.le_refl _, ?_⟩
  · split <;> omega
  · split <;> omega
  · have hlen : (if (20 : Int) < (l.length : Int) then (20 : Int) else (l.length : Int)).toNat - Int.toNat 0 = (l.take 20).length := by
      rw [List.length_take]
      split <;> omega
    exact ⟨_, _, Eq.trans rfl (congrArg (fun b : Nat => Value.slice (if (c : Int).toNat = Int.toNat 0 then A else Option.map (fun x => x.add (Int.toNat 0 * 3)) A) b ((c : Int).toNat - Int.toNat 0)) hlen), fun g hr => row_upto hr 20 fun a => add_zero' a, rfl⟩
theorem mHas_nil (n : Int) : HCalls Try.prog 48 #[.pointer none, .int .i64 n] h (fun v h' => v = .bool false ∧ h' = h) := by
  refine xcalls env0 Try.func48 rfl (by kernel_rfl) rfl (by kernel_rfl) ?_
  exact ⟨rfl, rfl⟩
theorem mMay_nil (o : Op17) (hk : o.kind = 0) : HCalls Try.prog 39 #[.pointer none, .agg (encO17 o).toArray] h (fun v h' => v = .bool false ∧ Ext h h') := by
  refine xcalls env0 Try.func39 rfl (by kernel_rfl) rfl (by kernel_rfl) ?_
  intro ob h1 n1
  have hb : h1[ob]? = some (.cells (encO17 o).toArray 55 (0, 0)) := n1.this
  refine ⟨_, cell_blk hb rfl, ?_⟩
  have hq : (o.kind == 0) = true := by simp [hk]
  refine xif_true hq ?_
  refine xif_true hq ?_
  refine ⟨_, cell_blk hb rfl, ?_⟩
  refine (mHas_nil _).mono ?_
  rintro v h2 ⟨rfl, rfl⟩
  exact ⟨rfl, n1.ext⟩
theorem mDo_nil (o : Op17) (hk : o.kind = 0) : HCalls Try.prog 12 #[.pointer none, .agg (encO17 o).toArray] h (fun v h' => v = .int .i64 (-1) ∧ Ext h h') := by
  refine xcalls env_mDon Try.func12 rfl (by kernel_rfl) rfl (by kernel_rfl) ?_
  intro ob h1 n1
  have hb : h1[ob]? = some (.cells (encO17 o).toArray 55 (0, 0)) := n1.this
  refine ⟨_, rfl, reads_all hb, ?_⟩
  refine (mMay_nil o hk).mono ?_
  rintro v h2 ⟨rfl, x2⟩
  exact ⟨rfl, n1.ext.trans x2⟩
theorem mCopy_nil : HCalls Try.prog 23 #[.pointer none] h (fun v h' => v = .pointer none ∧ h' = h) := by
  refine xcalls env_mCopy Try.func23 rfl (by kernel_rfl) rfl (by kernel_rfl) ?_
  exact ⟨rfl, rfl⟩
theorem mVlans_nil : HCalls Try.prog 18 #[.pointer none] h (fun v h' => v = .slice none 0 0 ∧ h' = h) := by
  refine xcalls env0 Try.func18 rfl (by kernel_rfl) rfl (by kernel_rfl) ?_
  exact ⟨rfl, rfl⟩
theorem mList_nil : HCalls Try.prog 24 #[.pointer none] h (fun v h' => v = .slice none 0 0 ∧ h' = h) := by
  refine xcalls env0 Try.func24 rfl (by kernel_rfl) rfl (by kernel_rfl) ?_
  exact ⟨rfl, rfl⟩
theorem mQueue_nil (a b : Int) : HCalls Try.prog 15 #[.pointer none, .int .i64 a, .int .i64 b] h (fun v h' => v = .slice none 0 0 ∧ h' = h) := by
  refine xcalls env0 Try.func15 rfl (by kernel_rfl) rfl (by kernel_rfl) ?_
  refine (mHas_nil _).mono ?_
  rintro v h2 ⟨rfl, rfl⟩
  exact ⟨rfl, rfl⟩
theorem mBucket_nil (a b : Int) : HCalls Try.prog 25 #[.pointer none, .int .i64 a, .int .i64 b] h (fun v h' => v = .slice none 0 0 ∧ h' = h) := by
  refine xcalls env0 Try.func25 rfl (by kernel_rfl) rfl (by kernel_rfl) ?_
  exact ⟨rfl, rfl⟩
theorem mShape_nil : HCalls Try.prog 26 #[.pointer none] h (fun v h' => v = .agg #[.slice none 0 0, .slice none 0 0, .slice none 0 0, .slice none 0 0] ∧ Ext h h') := by
  refine xcalls env_mShapen Try.func26 rfl (by kernel_rfl) rfl (by kernel_rfl) ?_
  intro b1 h1 n1
  refine ⟨rfl, rfl, canset_blk n1.this rfl, fun h2 s2 => ?_⟩
  have hb : h2[b1]? = some (.cells [.slice none 0 0, .slice none 0 0, .slice none 0 0, .slice none 0 0].toArray 81 (0, 0)) := s2.put n1.this
  exact ⟨_, rfl, reads_all hb, rfl, n1.ext.stored s2 (n1.ge (Ext.refl _))⟩
theorem mStand_nil (a : Int) : HCalls Try.prog 17 #[.pointer none, .int .i64 a] h (fun v h' => v = .agg #[.int .i64 0, .int .u32 0] ∧ Ext h h') := by
  refine xcalls env0 Try.func17 rfl (by kernel_rfl) rfl (by kernel_rfl) ?_
  intro b1 h1 n1
  refine (mHas_nil a).mono ?_
  rintro v h2 ⟨rfl, rfl⟩
  refine ⟨rfl, rfl, canset_blk n1.this rfl, fun h3 s3 => ?_⟩
  have hb : h3[b1]? = some (.cells [.int .i64 0, .int .u32 0].toArray 62 (0, 0)) := s3.put n1.this
  exact ⟨_, rfl, reads_all hb, rfl, n1.ext.stored s3 (n1.ge (Ext.refl _))⟩
theorem mNew_bad {A B : Option Addr} {na ca nb cb : Nat} {rules : List Ru} {vls : List Vl} {ports tries ring normal short : Int} {s : Sz} (hra : Row encRu 2 h A rules) (hla : rules.length = na) (hrb : Row encVl 3 h B vls) (hlb : vls.length = nb) (hn : na ≤ 1000000) (hn2 : nb ≤ 1000000) (wf : ∀ v ∈ vls, SetWf v.mem ∧ SetWf v.unt) (hc : mCheckM ports rules vls s tries ring ≠ 0) :
    HCalls Try.prog 9 #[.agg (planV ports (.slice A na ca) (.slice B nb cb) s tries ring normal short).toArray] h (fun v h' => v = .tuple #[.pointer none, .int .i64 (mCheckM ports rules vls s tries ring)] ∧ Ext h h') := by
  refine xcalls env_mNewn Try.func9 rfl (by kernel_rfl) rfl (by kernel_rfl) ?_
  intro ib h1 n1
  have hib : h1[ib]? = some (.cells (planV ports (.slice A na ca) (.slice B nb cb) s tries ring normal short).toArray 40 (0, 0)) := n1.this
  refine ⟨_, rfl, reads_all hib, ?_⟩
  refine (mCheck_spec (n1.ext.row hra) hla (n1.ext.row hrb) hlb hn hn2 wf).mono ?_
  rintro v h2 ⟨rfl, x2⟩
  refine xif_true (by simpa using hc) ?_
  exact ⟨rfl, n1.ext.trans x2⟩
theorem lChecks17_spec {A B : Option Addr} {na ca nb cb : Nat} {rules : List Ru} {vls : List Vl} {P tries ring normal short : Int} {s : Sz}
    (hra : Row encRu 2 h A rules) (hla : rules.length = na) (hca : na ≤ ca) (hrb : Row encVl 3 h B vls) (hlb : vls.length = nb) (hcb : nb ≤ cb) (wf : ∀ v ∈ vls, SetWf v.mem ∧ SetWf v.unt) :
    HCalls Try.prog 6 #[.agg (planV P (.slice A na ca) (.slice B nb cb) s tries ring normal short).toArray] h (fun v h' => v = .bool true ∧ Ext h h') := by
  refine xcalls env_lChecks17 Try.func6 rfl (by kernel_rfl) rfl (by kernel_rfl) ?_
  intro pb h1 n1
  have hpb1 := n1.this
  have x1 := n1.ext
  have pg : h.size ≤ pb := n1.ge (Ext.refl _)
  refine ⟨_, cell_blk hpb1 rfl, ?_⟩
  refine (l3Few_spec hlb hcb).mono ?_
  rintro v h2 ⟨B2, d2, rfl, rB2, rfl⟩
  refine ⟨rfl, rfl, canset_blk hpb1 rfl, fun h3 s3 => ?_⟩
  have hpb3 : h3[pb]? = some (.cells (planV P (.slice A na ca) (.slice B2 (vls.take 20).length d2) s tries ring normal short).toArray 28 (0, 0)) := s3.put hpb1
  have x3 := x1.stored s3 pg
  subst hla
  have hlen : (if (70 : Int) < (rules.length : Int) then (70 : Int) else (rules.length : Int)).toNat - Int.toNat 0 = (rules.take 70).length := by
    rw [List.length_take]
    split <;> omega
  refine ⟨_, cell_blk hpb3 rfl, _, cell_blk hpb3 rfl, fun _ => rfl, by decide, (by split <;> omega), (by split <;> omega), Int.le_refl _, rfl, rfl, canset_blk hpb3 rfl, fun h4 s4 => ?_⟩
  have s4' : Stored h3 ⟨pb, 1, none⟩ [.slice (if (ca : Int).toNat = Int.toNat 0 then A else Option.map (fun x => x.add (Int.toNat 0 * 2)) A) ((if (70 : Int) < (rules.length : Int) then (70 : Int) else (rules.length : Int)).toNat - Int.toNat 0) ((ca : Int).toNat - Int.toNat 0)] h4 := s4
  rw [hlen] at s4'
  have rA4 : Row encRu 2 h (if (ca : Int).toNat = Int.toNat 0 then A else Option.map (fun x => x.add (Int.toNat 0 * 2)) A) (rules.take 70) := row_upto hra 70 fun a => add_zero' a
  obtain ⟨A4, hA4⟩ : ∃ A4, (if (ca : Int).toNat = Int.toNat 0 then A else Option.map (fun x => x.add (Int.toNat 0 * 2)) A) = A4 := ⟨_, rfl⟩
  obtain ⟨c4, hc4⟩ : ∃ c4, (ca : Int).toNat - Int.toNat 0 = c4 := ⟨_, rfl⟩
  rw [hA4, hc4] at s4'
  rw [hA4] at rA4
  have hpb4 : h4[pb]? = some (.cells (planV P (.slice A4 (rules.take 70).length c4) (.slice B2 (vls.take 20).length d2) s tries ring normal short).toArray 28 (0, 0)) := s4'.put hpb3
  have x4 := x3.stored s4 pg
  have rB4 : Row encVl 3 h4 B2 (vls.take 20) := rB2 _ (x4.row hrb)
  have wf4 : ∀ v ∈ vls.take 20, SetWf v.mem ∧ SetWf v.unt := fun v hv => wf v (List.mem_of_mem_take hv)
  have ra := List.length_take_le 70 rules
  have rb := List.length_take_le 20 vls
  generalize rules.take 70 = R at *
  generalize vls.take 20 = V at *
  refine ⟨_, rfl, reads_all hpb4, ?_⟩
  refine (r17Check_spec (x4.row rA4) rfl rB4 rfl (by omega) (by omega) wf4).mono ?_
  rintro v h5 ⟨rfl, x5⟩
  have hpb5 := x5.blk hpb4
  refine ⟨_, rfl, reads_all hpb5, ?_⟩
  have x05 := x4.trans x5
  refine (l17To_spec (x05.row rA4) rfl (x5.row rB4) rfl (by omega) (by omega)).mono ?_
  rintro v h6 ⟨A6, c6, B6, d6, rfl, oR6, oV6, x6⟩
  have x06 := x05.trans x6
  have hpb6 := x6.blk hpb5
  have new : HCalls Try.prog 9 #[.agg (planV P (.slice A6 R.length c6) (.slice B6 V.length d6) s tries ring normal short).toArray] h6 (fun v h' => ∃ q, v = .tuple #[.pointer q, .int .i64 (mCheckM P R V s tries ring)] ∧ (q.isSome = true ↔ mCheckM P R V s tries ring = 0) ∧ Ext h6 h') := by
    by_cases hc : mCheckM P R V s tries ring = 0
    · have h1 : vCheckM V P = 0 := by
        unfold mCheckM at hc
        by_cases e : vCheckM V P ≠ 0
        · rw [if_pos e] at hc; exact absurd hc e
        · simpa using e
      have h2 : 2 ≤ P ∧ P ≤ 64 := by
        unfold vCheckM at h1
        by_cases e : P < 2 ∨ 64 < P
        · rw [if_pos e] at h1; cases h1
        · omega
      have h3 : s.Ok := by
        unfold mCheckM at hc
        rw [if_neg (by simpa using h1)] at hc
        by_cases e : (R.length : Int) ≠ P ∨ (R.any fun r => !rightR r) = true ∨ rightM s = false
        · rw [if_pos e] at hc; cases hc
        · have : rightM s = true := by
            cases hr : rightM s with
            | true => rfl
            | false => exact absurd (.inr (.inr hr)) e
          exact rightM_ok.1 this
      refine (mNew_ok oR6 rfl oV6 rfl (by omega) (by omega) wf4 hc h2 h3).mono ?_
      rintro v h7 ⟨m, D, rfl, _, x7⟩
      exact ⟨_, by rw [hc], by simp [hc], x7⟩
    · refine (mNew_bad (oR6.row encRu_len) rfl (oV6.row encVl_len) rfl (by omega) (by omega) wf4 hc).mono ?_
      rintro v h7 ⟨rfl, x7⟩
      exact ⟨none, rfl, by simp [hc], x7⟩
  refine new.mono ?_
  rintro v h7 ⟨q, rfl, hq, x7⟩
  have x07 := x06.trans x7
  refine ⟨Unit, fun _ => [(6, .pointer none)], fun _ h' => Ext h h', ?_, ?_⟩
  · refine (told17_spec).mono ?_
    rintro v h8 ⟨rfl, x8⟩
    have hpb8 := (x7.trans x8).blk hpb6
    refine ⟨_, rfl, reads_all hpb8, ?_⟩
    have x08 := x07.trans x8
    refine (l17To_spec (x08.row rA4) rfl ((x5.trans (x6.trans (x7.trans x8))).row rB4) rfl (by omega) (by omega)).mono ?_
    rintro v h9 ⟨A9, c9, B9, d9, rfl, oR9, oV9, x9⟩
    refine (mCheck_spec (oR9.row encRu_len) rfl (oV9.row encVl_len) rfl (by omega) (by omega) wf4).mono ?_
    rintro v h10 ⟨rfl, x10⟩
    refine xif_of (fun e => absurd e (by simp)) (fun _ => ?_)
    refine xif_of (fun e => absurd e (by simp)) (fun _ => ?_)
    cases q with
    | none =>
      have hne : ¬ mCheckM P R V s tries ring = 0 := fun e => by have := hq.2 e; cases this
      refine xif_of (fun e => ?_) (fun _ => ?_)
      · exact absurd e (by simp [hne])
      · exact ⟨(), ⟨rfl, trivial⟩, x08.trans (x9.trans x10)⟩
    | some a =>
      have heq : mCheckM P R V s tries ring = 0 := hq.1 rfl
      refine xif_of (fun e => ?_) (fun _ => ?_)
      · exact absurd e (by simp [heq])
      · exact ⟨(), ⟨rfl, trivial⟩, x08.trans (x9.trans x10)⟩
  rintro _ h8 x8
  refine (mDo_nil (opZ 0 0 0 0 0) rfl).mono ?_
  rintro v h9 ⟨rfl, x9⟩
  refine mCopy_nil.mono ?_
  rintro v h10 ⟨rfl, rfl⟩
  refine mVlans_nil.mono ?_
  rintro v h11 ⟨rfl, rfl⟩
  refine mList_nil.mono ?_
  rintro v h12 ⟨rfl, rfl⟩
  refine (mQueue_nil 0 0).mono ?_
  rintro v h13 ⟨rfl, rfl⟩
  refine (mBucket_nil 0 0).mono ?_
  rintro v h14 ⟨rfl, rfl⟩
  refine mShape_nil.mono ?_
  rintro v h15 ⟨rfl, x15⟩
  refine (mStand_nil 0).mono ?_
  rintro v h16 ⟨rfl, x16⟩
  exact ⟨rfl, x8.trans (x9.trans (x15.trans x16))⟩
end
end Go.Proofs.YtgiofdiifkahoaaE
