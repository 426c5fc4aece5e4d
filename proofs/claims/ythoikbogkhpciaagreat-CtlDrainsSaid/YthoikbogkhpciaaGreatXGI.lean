/- CtlDrains: behind a SetState to another state than Forwarding nothing waits for the port, all that waited was taken, in order, ring by ring; behind one to Forwarding all waits as it did. Conditions: the arguments are of their types. -/
import Derived.Test.YthoikbogkhpciaaGreatXGH
set_option linter.unusedVariables false
set_option linter.unusedSimpArgs false
set_option maxRecDepth 100000
namespace Go.Proofs.YthoikbogkhpciaaGreatE
open Go Go.Proofs
def env_lDrains : Nat → Ann
  | 5 => ⟨.op 0 [] <| .op 1 [] <| .op 2 [] <| .op 3 [] <| .op 4 [] <| .op 5 [] <| .op 6 [] <| .op 7 [] <| .op 8 [] <| .op 9 [] <| .op 10 [] <| .op 11 [] <| .op 12 [] <| .op 13 [] <| .op 14 [] <| .nil, [0, 1, 3, 0, 8, 24, 63, 127, 0, 256, 768, 1792, 3840, 255, 16383], false⟩
  | 11 => ⟨.op 0 [] <| .op 1 [] <| .op 2 [] <| .op 3 [] <| .op 4 [] <| .op 5 [] <| .op 6 [] <| .op 7 [] <| .op 8 [] <| .op 9 [] <| .op 10 [] <| .op 11 [] <| .op 12 [] <| .op 13 [] <| .op 14 [] <| .op 15 [] <| .op 16 [] <| .op 17 [] <| .op 18 [] <| .op 19 [] <| .op 20 [] <| .op 21 [] <| .op 22 [] <| .op 23 [] <| .nil, [0, 0, 3, 7, 15, 31, 0, 64, 192, 511, 1023, 0, 0, 6144, 14336, 30720, 63488, 0, 131072, 393216, 1046528, 2095104, 2047, 8388607], false⟩
  | 12 => ⟨.nil, [], true⟩
  | 16 => ⟨.nil, [], true⟩
  | 28 => ⟨.op 0 [] <| .op 1 [] <| .op 2 [] <| .op 3 [] <| .op 4 [] <| .op 5 [] <| .op 6 [] <| .op 7 [] <| .op 8 [] <| .op 9 [] <| .op 10 [] <| .op 11 [] <| .op 12 [] <| .op 13 [] <| .op 14 [] <| .op 15 [] <| .op 16 [] <| .op 17 [] <| .op 18 [] <| .op 19 [] <| .op 20 [] <| .op 21 [] <| .op 22 [] <| .op 23 [] <| .op 24 [] <| .op 25 [] <| .op 26 [] <| .op 27 [] <| .op 28 [] <| .op 29 [] <| .op 30 [] <| .op 31 [] <| .op 32 [] <| .op 33 [] <| .op 34 [] <| .op 35 [] <| .op 36 [] <| .op 37 [] <| .op 38 [] <| .op 39 [] <| .op 40 [] <| .op 41 [] <| .op 42 [] <| .op 43 [] <| .op 44 [] <| .op 45 [] <| .op 46 [] <| .op 47 [] <| .nil, [0, 0, 2, 7, 15, 31, 31, 127, 255, 511, 1023, 2047, 4095, 8191, 16383, 16383, 65535, 131071, 262143, 524287, 16383, 2097151, 4194303, 8388607, 16777215, 16777215, 67108863, 134217727, 268435455, 536870911, 16777215, 2147483647, 4294967295, 8589934591, 17179869183, 17179869183, 68719476735, 137438953471, 274877906943, 17179869183, 17179869183, 1666447310847, 3865470566399, 17179869183, 17059610099711, 34651796144127, 70368744177663, 140737488355327], false⟩
  | 31 => ⟨.nil, [], true⟩
  | 36 => ⟨.op 0 [] <| .op 1 [] <| .op 2 [] <| .op 3 [] <| .op 4 [] <| .op 5 [] <| .op 8 [] <| .op 9 [] <| .op 10 [] <| .op 11 [] <| .op 12 [] <| .op 6 [11] <| .op 7 [11] <| .op 13 [] <| .op 14 [] <| .op 15 [] <| .op 16 [] <| .op 17 [] <| .op 18 [] <| .op 19 [] <| .op 20 [] <| .op 21 [] <| .op 22 [] <| .op 23 [] <| .op 24 [] <| .op 25 [] <| .op 26 [] <| .nil, [0, 1, 3, 7, 7, 7, 63, 127, 7, 7, 775, 1799, 3847, 8191, 16383, 32767, 65535, 131071, 262143, 524287, 524287, 524287, 4194303, 8388607, 16777215, 33554431, 67108863], false⟩
  | _ => ⟨.nil, [], false⟩
def encI2 (x : Int × Int) : List Value := [.int .i64 x.1, .int .i64 x.2]
theorem encI2_len (x : Int × Int) : (encI2 x).length = 2 := rfl
/-- What was put so far, and what a law keeps of it. -/
def DrI (hs ws : Nat) (F : Fb) (M : MemS) (q wb n others : Nat) (h' : Heap) : Prop :=
  ∃ M' L An cn, WsAt h' ws wb F.P An cn (fun a => L a q) ∧ Rings h' hs F M' L no2 no2 ∧ FabAt h' F ∧ MemAt h' F.mb F.cb F.lb M' ∧ M'.locks = M.locks ∧ M'.cells.length = M.cells.length ∧ (∀ k, k < F.b0 → M'.cells[k]? = M.cells[k]?) ∧ M'.t ≤ 20000 + 3 * n ∧ others = cntO L q F.P F.P ∧ others ≤ n ∧ (∀ a b y, y ∈ L a b → 0 ≤ y ∧ y ≤ 40)
/-- A port was set: how all is at the end. -/
theorem setD_over {h0 g : Heap} {B : Nat} {F : Fb} {ab q : Nat} {who : Int} {o : Op17} {M0 : MemS} {L0 : Nat → Nat → List Int} (H : SetD h0 B F ab q who o M0 L0 (stepsD L0 q F.P o.state) g) :
    ChgT B TyD h0 g ∧ ∃ x M L es, x.next = .nilFunc ∧ M.t = M0.t + stepsD L0 q F.P o.state ∧ FinD q L0 L F.P o.state es ∧ CaL g B F ab x [q] M es ∧ Rings g B F M L no2 no2 := by
  have h4 : 4 ≤ stepsD L0 q F.P o.state := by unfold stepsD; split <;> omega
  obtain ⟨cg, y, M', hT, _, _, H⟩ := H
  rcases H with ⟨hk2, _⟩ | ⟨_, _, _, j, p, L, es, hj, hp2, D, hrem, H⟩ | ⟨_, _, _, hk1, _⟩ | ⟨hl, hn, _, L, es, D, S', W'⟩
  · omega
  · exfalso
    obtain ⟨m, hm⟩ : ∃ m, F.P - j = m + 1 := ⟨F.P - j - 1, by omega⟩
    rw [hm, remE_succ] at hrem
    rcases H with ⟨rfl, _⟩ | ⟨hp, _, _, _, _, _, _, _, _, _, ph, _⟩
    · omega
    · have : L j q ≠ [] := by
        rcases ph with ⟨g, _⟩ | ⟨_, _, g⟩ | ⟨_, _, y, r, g, _⟩
        · omega
        · exact g
        · rw [g]; simp
      have : 0 < (L j q).length := List.length_pos_iff.2 this
      omega
  · omega
  · exact ⟨cg, y, M', L, es, hn, hT, D, S', W'⟩
theorem lDrains_spec {h : Heap} {A B C : Option Addr} {na ca nb cb no co : Nat} {rules : List Ru} {vls : List Vl} {waits : List (Int × Int)} {to : Int × Int} {P tries ring normal short : Int} {s : Sz}
    (hra : Row encRu 2 h A rules) (hla : rules.length = na) (hrb : Row encVl 3 h B vls) (hlb : vls.length = nb) (hro : Row encI2 2 h C waits) (hlo : waits.length = no) (wf : ∀ v ∈ vls, SetWf v.mem ∧ SetWf v.unt) :
    HCalls Tryz.prog 7 #[.agg (planV P (.slice A na ca) (.slice B nb cb) s tries ring normal short).toArray, .slice C no co, .agg (encI2 to).toArray] h (fun v h' => v = .bool true ∧ Ext h h') := by
  subst hlo
  refine xcalls env_lDrains Tryz.func7 rfl (by kernel_rfl) rfl (by kernel_rfl) ?_
  intro ib h1 n1 tb h2 n2
  have htb2 : h2[tb]? = some (.cells (encI2 to).toArray 87 (0, 0)) := n2.this
  have x2 := n1.ext.trans n2.ext
  refine ⟨_, rfl, reads_all (n2.ext.blk n1.this), ?_⟩
  refine (rPFix_spec (x2.row hra) hla (x2.row hrb) hlb wf).mono ?_
  rintro v h3 ⟨A1, c1, B1, d1, rfl, oR, oV, x3⟩
  have oR : OwnA encRu 2 _ h2.size h3 A1 c1 (fixRules P rules) := oR
  have oV : OwnA encVl 3 _ h2.size h3 B1 d1 (fixVlans P vls) := oV
  have hib3 := x3.blk (n2.ext.blk n1.this)
  refine ⟨rfl, rfl, canset_blk hib3 rfl, fun h4 s4 => ?_⟩
  have hib4 : h4[ib]? = some (.cells (planV (fixPorts P) (.slice A1 (fixPorts P).toNat c1) (.slice B1 (fixVlans P vls).length d1) (fixSz s) (fixTries tries) (fixRing ring) normal short).toArray 28 (0, 0)) := s4.put hib3
  have x4 : Ext h h4 := (x2.trans x3).stored s4 (n1.ge (Ext.refl _))
  have c4 : Chg [(ib, 28)] h3 h4 := s4.chg hib3 (.head _)
  have htb4 := c4.blk (x3.blk htb2) (by simp)
  have oR4 := oR.chg c4 (fun b _ => by simp)
  have oV4 := oV.chg c4 (fun b _ => by simp)
  refine ⟨_, rfl, reads_all hib4, ?_⟩
  refine (lMake_fix2 (oR4.row encRu_len) (oV4.row encVl_len) wf).mono ?_
  rintro v h5 ⟨F, M, rfl, eP, eS, p8, Fr0, eV⟩
  have Fr := Fr0.mono x4
  have x45 := Fr0.ext
  have p1 := Fr.fab.p1
  have p2 := Fr.fab.p2
  have s2 := Fr.fab.s2
  have Mt := Fr.t
  refine told19_spec.mono ?_
  rintro v h6 ⟨rfl, x6⟩
  have Fr6 := Fr.of_ext x6
  have x46 := x45.trans x6
  have hib6 := x46.blk hib4
  have htb6 := x46.blk htb4
  rw [eP] at hib6
  have rb : ∀ g : Heap, Row encRu 2 g A1 (fixRules P rules) → Row encVl 3 g B1 (fixVlans P vls) → HCalls Tryz.prog 28 #[.agg (planV (F.P : Int) (.slice A1 (F.P : Int).toNat c1) (.slice B1 (fixVlans P vls).length d1) (fixSz s) (fixTries tries) (fixRing ring) normal short).toArray] g (fun v h' => ∃ n : Nat, 64 ≤ n ∧ n < 100000 ∧ 64 + (F.P : Int) * (16 + 8 * fixRing ring) ≤ (n : Int) ∧ v = .int .i64 (n : Int) ∧ Ext g h') := fun g r1 r2 => by
    rw [← eP]
    exact rBound19_big r1 r2 wf
  have glb : F.lb < h6.size := by obtain ⟨cs, hc⟩ := Fr6.mem.lenl; exact blk_lt hc
  repeat (first | refine ⟨_, cell_blk (hib6) rfl, ?_⟩ | refine ⟨_, cell_blk (htb6) rfl, ?_⟩)
  obtain ⟨q, hq⟩ : ∃ q : Nat, to.1 % 18446744073709551616 % (F.P : Int) = q := ⟨_, (Int.toNat_of_nonneg (Int.emod_nonneg _ (by omega))).symm⟩
  have hqP : q < F.P := by have := Int.emod_lt_of_pos (to.1 % 18446744073709551616) (show (0 : Int) < F.P by omega); omega
  refine ⟨by decide, by decide, _, cell_blk htb6 rfl, ?_⟩
  repeat (first | refine ⟨_, cell_blk (hib6) rfl, ?_⟩)
  refine ⟨?_, by decide, by decide, _, cell_blk htb6 rfl, ?_⟩
  · rw [wrap_u64 (by omega) (by omega)]; omega
  refine ⟨by decide, ?_⟩
  repeat (first | refine ⟨_, cell_blk (hib6) rfl, ?_⟩)
  refine ⟨Int.natCast_nonneg _, Int.le_refl _, ?_, ?_, ?_⟩
  · show (24 : Int) * (F.P : Int) ≤ 140737488355328
    omega
  · show (F.P : Int) ≤ 9223372036854775807
    omega
  intro wb h7 n7
  obtain ⟨st, hst⟩ : ∃ st, to.2 % 18446744073709551616 % 5 = st := ⟨_, rfl⟩
  have st5 : rightSt st = true := decide_eq_true (by omega)
  have W7 : WsAt h7 h6.size wb F.P (fun _ => none) (fun _ => 0) (fun _ => []) := by
    refine ⟨?_, fun a _ => .inl ⟨rfl, rfl, rfl⟩, fun a b k _ _ _ e => by cases e⟩
    have := n7.this
    rw [Int.toNat_natCast] at this
    have e : (List.range F.P).map (fun a => Value.slice (none : Option Addr) ([] : List Int).length 0) = (List.replicate F.P [Value.slice none 0 0]).flatten := by
      rw [List.map_const', List.length_range]
      clear this
      induction F.P with
      | zero => rfl
      | succ n ih => rw [List.replicate_succ, List.replicate_succ, List.flatten_cons, ← ih]; rfl
    rw [e]
    exact this
  have x7 : Ext h h7 := Fr6.ext.trans n7.ext
  have Fr7 := Fr6.of_ext n7.ext
  refine ⟨Nat, fun n => [(3, .pointer (some ⟨ib, 0, none⟩)), (7, .pointer (some ⟨F.fb, 0, none⟩)), (8, .int .i64 q), (9, .int .i64 st), (10, .slice (some ⟨wb, 0, none⟩) F.P F.P), (11, .int .i64 (n : Int))], fun n h' => DrI h.size h6.size F M q wb 40 n h' ∧ ChgT h.size (90 :: TyD) h7 h', ?_, ?_⟩
  · refine ⟨Nat × Nat, fun z => [(1, .slice C waits.length co), (3, .pointer (some ⟨ib, 0, none⟩)), (7, .pointer (some ⟨F.fb, 0, none⟩)), (8, .int .i64 q), (9, .int .i64 st), (10, .slice (some ⟨wb, 0, none⟩) F.P F.P), (11, .int .i64 (z.2 : Int)), (12, .int .i64 (z.1 : Int))], fun z h' => z.1 ≤ 40 ∧ DrI h.size h6.size F M q wb z.1 z.2 h' ∧ ChgT h.size (90 :: TyD) h7 h', fun z => 40 - z.1, (0, 0),
      ⟨rfl, rfl, rfl, congrArg (fun z => some (Value.int .i64 z)) (mod_put (by omega) (by omega) hq), congrArg (fun z => some (Value.int .i64 z)) ((modn_eq to.2 5 (by decide) (by decide)).trans hst), rfl, rfl, rfl, trivial⟩, ⟨by omega, ⟨M, fun _ _ => [], _, _, W7, (rings_fresh Fr7), Fr7.fab, Fr7.mem, rfl, rfl, fun _ _ => rfl, by omega, (cntO_nil _).symm, Nat.zero_le _, fun a b y hy => by simp at hy⟩, ChgT.refl _⟩, ?_⟩
    rintro ⟨i, others⟩ h8 ⟨hi, D, c8⟩
    have hi : i ≤ 40 := hi
    have fin : ∀ n, n ≤ 40 → DrI h.size h6.size F M q wb n others h8 → DrI h.size h6.size F M q wb 40 others h8 := by
      rintro n hn ⟨M', L, An, cn, W8, R8, fab8, mem8, hlk, hcl, hlow, hT, hoth, hon, hval⟩
      exact ⟨M', L, An, cn, W8, R8, fab8, mem8, hlk, hcl, hlow, by omega, hoth, by omega, hval⟩
    have hib8 := c8.typ _ _ _ _ (n7.ext.blk hib6) (by decide)
    have x8 : Ext h h8 := c8.ext x7
    refine xif_of (fun g1 => ?_) (fun g1 => ?_)
    · have g1 : (i : Int) < (waits.length : Int) := of_decide_eq_true g1
      refine xif_of (fun g2 => ?_) (fun g2 => ?_)
      · have g2 : (i : Int) < 40 := of_decide_eq_true g2
        obtain ⟨M', L, An, cn, W8, R8, fab8, mem8, hlk, hcl, hlow, hT, hoth, hon, hval⟩ := D
        obtain ⟨y, hy⟩ : ∃ y, waits[i]? = some y := ⟨waits[i]'(by omega), List.getElem?_eq_getElem (by omega)⟩
        obtain ⟨ad, had, hrd⟩ := (x8.row hro) i y hy
        have e0 : cell h8 ((ad.add (i * 2)).add 0) = some (.int .i64 y.1) := hrd.get 0 rfl
        have e1 : cell h8 ((ad.add (i * 2)).add 1) = some (.int .i64 y.2) := hrd.get 1 rfl
        obtain ⟨a, hqa⟩ : ∃ a : Nat, y.1 % 18446744073709551616 % (F.P : Int) = a := ⟨_, (Int.toNat_of_nonneg (Int.emod_nonneg _ (by omega))).symm⟩
        have ha : a < F.P := by have := Int.emod_lt_of_pos (y.1 % 18446744073709551616) (show (0 : Int) < F.P by omega); omega
        obtain ⟨b, hqb⟩ : ∃ b : Nat, y.2 % 18446744073709551616 % (F.P : Int) = b := ⟨_, (Int.toNat_of_nonneg (Int.emod_nonneg _ (by omega))).symm⟩
        have hb : b < F.P := by have := Int.emod_lt_of_pos (y.2 % 18446744073709551616) (show (0 : Int) < F.P by omega); omega
        refine ⟨Unit, fun _ => [(1, .slice C waits.length co), (3, .pointer (some ⟨ib, 0, none⟩)), (7, .pointer (some ⟨F.fb, 0, none⟩)), (8, .int .i64 q), (9, .int .i64 st), (10, .slice (some ⟨wb, 0, none⟩) F.P F.P), (11, .int .i64 (others : Int)), (12, .int .i64 (i : Int)), (13, .int .i64 (a : Int)), (14, .int .i64 (b : Int))], fun _ h' => h' = h8, ?_, ?_⟩
        · refine ⟨ad, had, Int.natCast_nonneg i, g1, by decide, by decide, _, e0, ?_⟩
          repeat (first | refine ⟨_, cell_blk (hib8) rfl, ?_⟩)
          refine ⟨?_, ?_⟩
          · rw [wrap_u64 (by omega) (by omega)]; omega
          refine ⟨ad, had, Int.natCast_nonneg i, g1, by decide, by decide, _, e1, ?_⟩
          repeat (first | refine ⟨_, cell_blk (hib8) rfl, ?_⟩)
          refine ⟨?_, ?_⟩
          · rw [wrap_u64 (by omega) (by omega)]; omega
          exact ⟨(), ⟨rfl, rfl, rfl, rfl, rfl, rfl, rfl, rfl, congrArg (fun z => some (Value.int .i64 z)) (mod_put (by omega) (by omega) hqa), congrArg (fun z => some (Value.int .i64 z)) (mod_put (by omega) (by omega) hqb), trivial⟩, rfl⟩
        rintro _ h9 rfl
        have hy1 : IntKind.i64.wrap ((i : Int) + 1) = ((i + 1 : Nat) : Int) := wrap_add1 i (by omega)
        have fy : (0 : Int) ≤ IntKind.i64.wrap ((i : Int) + 1) ∧ IntKind.i64.wrap ((i : Int) + 1) ≤ 40 := by rw [hy1]; omega
        refine (lPut_spec R8 fab8 mem8 Fr.g1 Fr.g2 Fr.g3 x8.size ha hb (y := IntKind.i64.wrap ((i : Int) + 1)) fy.1 (by omega) (by omega)).mono ?_
        rintro v h10 ⟨M2, pb, N2, fab10, mem10, gpb, c10, H10⟩
        have W10 : WsAt h10 h6.size wb F.P An cn (fun a => L a q) := W8.chg c10 (by simp [ML]) (fun k hk hm => by simp [ML] at hm; omega)
        have f10 : ChgT h.size (90 :: TyD) h9 h10 := c10.chgT x8.size fun p hp => by
          simp [ML] at hp
          rcases hp with rfl | rfl | rfl | rfl | rfl
          · exact ⟨Nat.le_trans x8.size gpb, by simp [TyD]⟩
          · exact ⟨R8.ge a b ha hb, by simp [TyD]⟩
          · exact ⟨Fr.g1, by simp [TyD, TyC]⟩
          · exact ⟨Fr.g2, by simp [TyD, TyC]⟩
          · exact ⟨Fr.g3, by simp [TyD, TyC]⟩
        have hlk2 : M2.locks = M.locks := N2.locks.trans hlk
        have hcl2 : M2.cells.length = M.cells.length := N2.len.trans hcl
        have hlow2 : ∀ k, k < F.b0 → M2.cells[k]? = M.cells[k]? := fun k hk => (N2.low k hk).trans (hlow k hk)
        have hT2 : M2.t ≤ 20000 + 3 * (i + 1) := by have := N2.t3; omega
        rcases H10 with ⟨rfl, R10⟩ | ⟨rfl, R10⟩
        · have hvalN : ∀ a' b' z, z ∈ up2 L a b (L a b ++ [IntKind.i64.wrap ((i : Int) + 1)]) a' b' → 0 ≤ z ∧ z ≤ 40 := fun a' b' z hz => by
            by_cases k : a' = a ∧ b' = b
            · obtain ⟨rfl, rfl⟩ := k
              rw [up2_self] at hz
              rcases List.mem_append.1 hz with hz | hz
              · exact hval _ _ _ hz
              · rw [List.mem_singleton] at hz
                rw [hz]; exact fy
            · rw [up2_ne k] at hz
              exact hval _ _ _ hz
          refine xif_of (fun g => ?_) (fun g => ?_)
          · have g : ((b : Int) == (q : Int)) = true := g
            have e : b = q := by have := beq_iff_eq.1 g; omega
            rw [e] at R10 hvalN
            have h610 : h6.size ≤ h10.size := Nat.le_trans (Nat.le_trans n7.ext.size c8.size) c10.size
            have ead : (⟨wb, 0, none⟩ : Addr).add (((a : Int)).toNat * 1) = ⟨wb, a, none⟩ := by rw [Int.toNat_natCast, Nat.mul_one, add_lit, Nat.zero_add]
            have hcell : cell h10 ((⟨wb, 0, none⟩ : Addr).add (((a : Int)).toNat * 1)) = some (.slice (An a) (L a q).length (cn a)) := by rw [ead]; exact W10.cell ha
            have hlen64 : (L a q).length ≤ 64 := by
              obtain ⟨R, _, Q, _⟩ := R8.ring a q ha hqP
              exact Nat.le_trans Q.len s2
            refine ⟨_, rfl, Int.natCast_nonneg a, Int.ofNat_lt.2 ha, _, hcell, ?_⟩
            intro nb h11 n11
            have n11' : New h10 h11 nb (.cells (encI (IntKind.i64.wrap ((i : Int) + 1))).toArray 3) := n11
            refine xappend_one' inInfo inZero rfl (by decide) encI_len encI_one (W10.own a ha) n11' rfl (by show ((L a q).length + 1) * 8 ≤ 140737488355328; omega) h610 fun A' c' h12 o12 K12 fr12 => ?_
            obtain ⟨l12, cl12, hl12⟩ := K12.toChg (W10.own a ha)
            have nin : ∀ k T', T' ≠ 3 → (k, T') ∉ l12 := fun k T' ne hm => ne (hl12 _ hm).1
            have b12 : h12[wb]? = _ := cl12.blk W10.blk (nin _ _ (by decide))
            refine ⟨_, rfl, Int.natCast_nonneg a, Int.ofNat_lt.2 ha, rfl, rfl, ?_, fun h13 s13 => ?_⟩
            · show CanSet h12 ((⟨wb, 0, none⟩ : Addr).add (((a : Int)).toNat * 1)) 1
              rw [ead]
              refine canset_blk b12 ?_
              show Nat.ble (a + 1) ((List.range F.P).map _).length = true
              rw [List.length_map, List.length_range]
              exact Nat.ble_eq_true_of_le ha
            have s13' : Stored h12 ((⟨wb, 0, none⟩ : Addr).add (((a : Int)).toNat * 1)) [.slice A' ((L a q).length + 1) c'] h13 := s13
            rw [ead] at s13'
            have W13 := W10.put ha h610 o12 K12 fr12 rfl s13'
            have e2 : (fun a' => up2 L a q (L a q ++ [IntKind.i64.wrap ((i : Int) + 1)]) a' q) = upf (fun a' => L a' q) a (L a q ++ [IntKind.i64.wrap ((i : Int) + 1)]) := by
              funext a'
              by_cases k : a' = a
              · subst k; rw [up2_self, upf_self]
              · rw [up2_ne (by omega), upf_ne k]
            rw [← e2] at W13
            have c13 : Chg [(wb, 90)] h12 h13 := s13'.chg b12 (.head _)
            have gwb : h.size ≤ wb := n7.ge Fr6.ext
            have f12 : ChgT h.size (90 :: TyD) h10 h12 := cl12.chgT (Nat.le_trans x8.size c10.size) fun p hp => ⟨Nat.le_trans Fr6.ext.size (hl12 _ hp).2, by rw [(hl12 _ hp).1]; simp [TyD, TyC]⟩
            have f13 : ChgT h.size (90 :: TyD) h12 h13 := c13.chgT (Nat.le_trans (Nat.le_trans x8.size c10.size) cl12.size) fun p hp => by simp at hp; subst hp; exact ⟨gwb, by simp⟩
            refine ⟨(i + 1, others), ⟨rfl, rfl, rfl, rfl, rfl, rfl, rfl, slot_inc (by omega), trivial⟩, ⟨by show i + 1 ≤ 40; omega, ⟨M2, _, upf An a A', upf cn a c', W13, (R10.same (M' := M2) cl12 (fun k => nin _ _ (by decide)) rfl (fun _ _ => rfl)).same (M' := M2) c13 (by simp) rfl (fun _ _ => rfl), (fab10.chgT (f12.trans f13) (by decide) (by decide) (by decide) (by decide) (by decide)), (mem10.chg cl12 (nin _ _ (by decide)) (nin _ _ (by decide)) (fun hm => by have := (hl12 _ hm).2; have : h6.size ≤ F.lb := this; omega)).chg c13 (by simp) (by simp) (by simp), hlk2, hcl2, hlow2, hT2, ?_, by show others ≤ i + 1; omega, hvalN⟩, ((c8.trans f10).trans f12).trans f13⟩, by show 40 - (i + 1) < 40 - i; omega⟩
            · show others = _
              rw [cntO_up, if_neg (by omega), ← hoth]
              rfl
          · have g : ((b : Int) == (q : Int)) = false := g
            have e : b ≠ q := by have := beq_eq_false_iff_ne.1 g; omega
            refine ⟨(i + 1, others + 1), ⟨rfl, rfl, rfl, rfl, rfl, rfl, slot_inc (by omega), slot_inc (by omega), trivial⟩, ⟨by show i + 1 ≤ 40; omega, ⟨M2, _, An, cn, ?_, R10, fab10, mem10, hlk2, hcl2, hlow2, hT2, ?_, by show others + 1 ≤ i + 1; omega, hvalN⟩, c8.trans f10⟩, by show 40 - (i + 1) < 40 - i; omega⟩
            · have e2 : (fun a' => up2 L a b (L a b ++ [IntKind.i64.wrap ((i : Int) + 1)]) a' q) = fun a' => L a' q := by
                funext a'
                rw [up2_ne (by omega)]
              rw [e2]
              exact W10
            · show others + 1 = _
              rw [cntO_up, if_pos ⟨ha, hb, e⟩, ← hoth]
        · exact ⟨(i + 1, others), ⟨rfl, rfl, rfl, rfl, rfl, rfl, rfl, slot_inc (by omega), trivial⟩, ⟨by show i + 1 ≤ 40; omega, ⟨M2, L, An, cn, W10, R10, fab10, mem10, hlk2, hcl2, hlow2, hT2, hoth, by show others ≤ i + 1; omega, hval⟩, c8.trans f10⟩, by show 40 - (i + 1) < 40 - i; omega⟩
      · exact ⟨others, ⟨rfl, rfl, rfl, rfl, rfl, rfl, trivial⟩, fin i hi D, c8⟩
    · exact ⟨others, ⟨rfl, rfl, rfl, rfl, rfl, rfl, trivial⟩, fin i hi D, c8⟩
  rintro others h8 ⟨⟨M', L, An, cn, W8, R8, fab8, mem8, hlk, hcl, hlow, hT, hoth, hon, hval⟩, c8⟩
  have hon' : others ≤ 40 := hon
  have x8 : Ext h h8 := c8.ext x7
  have hib7 := n7.ext.blk hib6
  have hib8 := c8.typ _ _ _ _ hib7 (by decide)
  obtain ⟨pl, hpl, hkeep⟩ := W8.keep F.P (Nat.le_refl _)
  have hz : M'.cells[q]? = some 0 := by rw [hlow q (by have := Fr.b0; omega)]; exact Fr.low q hqP
  have hlq : M'.locks[q]? = some (-1) := by rw [hlk]; exact Fr.locks q hqP
  refine (cCommand_port (F := { F with prot := pl }) (B := h.size) (who := 3) (p := q) (o := ⟨8, (q : Int), 0, 0, st, 0, 0, 0, 0, 0, 0, 0, 0, 0⟩) (fab8.withP pl) mem8 Fr.g1 Fr.g2 Fr.g3 x8.size (fun p hp => ⟨(hpl p hp).1, fun e => by have := (hpl p hp).2; have e : p.1 = F.lb := e; omega⟩) (by decide) rfl rfl hqP st5 (by omega)).mono ?_
  rintro v h9 ⟨ab, x, rfl, S, xo, xw, xh, xf, xp, xn, x9⟩
  have hib9 := x9.blk hib8
  refine ⟨_, rfl, reads_all hib9, ?_⟩
  have oR9 := (((oR4.ext x46).ext n7.ext).chgT c8 (by decide)).ext x9
  have oV9 := (((oV4.ext x46).ext n7.ext).chgT c8 (by decide)).ext x9
  refine (rb _ (oR9.row encRu_len) (oV9.row encVl_len)).mono ?_
  rintro v h10 ⟨n, n0, n1, nb, rfl, x10⟩
  have hLS : ∀ a b, a < F.P → b < F.P → (L a b).length ≤ F.S := fun a b ha hb => by
    obtain ⟨R, _, Q, _⟩ := R8.ring a b ha hb
    exact Q.len
  have hL64 : ∀ a b, a < F.P → b < F.P → (L a b).length ≤ 64 := fun a b ha hb => Nat.le_trans (hLS a b ha hb) s2
  have hpk := pendK_len (L := L) (q := q) (P := F.P) (fun a ha => hL64 a q ha hqP) F.P 0 (by omega)
  have hrm := remE_le (L := L) (q := q) (P := F.P) (S := F.S) (fun a ha => hLS a q ha hqP) F.P 0 (by omega)
  have hrn : (3 * F.S + 1) * F.P ≤ F.P * (16 + 8 * F.S) := by
    rw [Nat.mul_comm F.P]
    exact Nat.mul_le_mul_right _ (by omega)
  have hnb : 64 + F.P * (16 + 8 * F.S) ≤ n := by
    rw [eS] at nb
    have e : ((F.P * (16 + 8 * F.S) : Nat) : Int) = (F.P : Int) * (16 + 8 * (F.S : Int)) := by push_cast; rfl
    omega
  have hst4 : 4 ≤ stepsD L q F.P st := by unfold stepsD; split <;> omega
  have hsn : stepsD L q F.P st ≤ n := by unfold stepsD; split <;> omega
  have S10 := S.ext x10
  have Q0 : SetD h10 h.size { F with prot := pl } ab q 3 ⟨8, (q : Int), 0, 0, st, 0, 0, 0, 0, 0, 0, 0, 0, 0⟩ M' L 0 h10 := ⟨ChgT.refl _, x, M', rfl, xo, xw, .inl ⟨by omega, ⟨_, S10⟩, ((R8.ext x9).ext x10).withP pl, rfl, xp, xf, xh, rfl, .inl ⟨rfl, xn⟩⟩⟩
  refine (lFinish_spec (n := stepsD L q F.P st) (by omega) hsn n1 Q0 (fun k hk g Q => setD_step (F := { F with prot := pl }) hqP Fr.b0 rfl rfl st5 hlq hz (by show (pendK L q F.P 0).length ≤ 9000; omega) (by omega) hk Q) (fun g Q => ?_)).mono ?_
  · obtain ⟨_, y, M2, L2, es, hn, _, _, S', _⟩ := setD_over Q
    exact aOver_nil S'.raw hn
  rintro v h11 ⟨rfl, Q⟩
  obtain ⟨c11, y, M2, L2, es, hn, hT2, D2, S11, R11⟩ := setD_over Q
  have D2 : FinD q L L2 F.P st es := D2
  have hT2 : M2.t = M'.t + stepsD L q F.P st := hT2
  obtain ⟨E0, gs, he, em0, ea0, emg, ek⟩ := D2.log
  have hem : ∀ e ∈ es, 0 < e.mark := fun e hm => by
    rw [he] at hm
    rcases List.mem_cons.1 hm with hm | hm
    · rw [hm]; exact em0
    · exact emg e hm
  have hesl : es.length = 1 + gs.length := by rw [he, List.length_cons]; omega
  have hgsl : gs.length ≤ 64 * F.P := by
    have := congrArg List.length ek
    rw [List.length_map] at this
    rw [this]
    split
    · exact Nat.zero_le _
    · exact hpk
  refine (aLog_all S11 hem (by omega) (by omega)).mono ?_
  rintro v h12 ⟨LA, lc, rfl, o12, x12⟩
  have S12 := S11.ext x12
  have R12 : Rings h12 h.size F M2 L2 no2 no2 := by
    have := R11.ext x12
    exact ⟨this.ring, this.inj, this.ge, this.len, this.big⟩
  have c1012 : ChgT h.size TyD h8 h12 := ((((x9.trans x10).chgT x8.size).trans c11).trans (x12.chgT S11.hB))
  have W12 : WsAt h12 h6.size wb F.P An cn (fun a => L a q) := W8.after hkeep (by rw [c1012.typ _ _ _ _ W8.blk (by decide), W8.blk]) (fun p hp => (S12.prot p hp).1)
  have hib12 := c1012.typ _ _ _ _ hib8 (by decide)
  have x12a : Ext h h12 := c1012.ext x8
  have hL2S : ∀ a b, a < F.P → b < F.P → (L2 a b).length ≤ 64 := fun a b ha hb => by
    obtain ⟨R, _, Q, _⟩ := R12.ring a b ha hb
    exact Nat.le_trans Q.len s2
  have fab12 : FabAt h12 F := ⟨S12.fab.blk, S12.fab.rules, S12.fab.vls, S12.fab.p1, S12.fab.p2, S12.fab.s1, S12.fab.s2, S12.fab.r1, S12.fab.v1⟩
  have ht12 : M2.t < 900000 := by omega
  have hww : ∀ z : Int, 0 ≤ z → z ≤ 40 → IntKind.i64.wrap z = z := fun z h1 h2 => wrap_i64 (by omega) (by omega)
  have rowS : ∀ (L : Nat → Nat → List Int) (i m : Nat), rowO L q i (m + 1) = rowO L q i m + (if m = q then 0 else (L i m).length) := fun _ _ _ => rfl
  refine ⟨Nat × Nat × Nat, fun z => [(3, .pointer (some ⟨ib, 0, none⟩)), (7, .pointer (some ⟨F.fb, 0, none⟩)), (8, .int .i64 q), (9, .int .i64 st), (10, .slice (some ⟨wb, 0, none⟩) F.P F.P), (11, .int .i64 (others : Int)), (16, .slice LA es.length lc), (17, .int .i64 (z.2.1 : Int)), (18, .int .i64 (z.2.2 : Int)), (19, .int .i64 (z.1 : Int))],
    fun z h' => h' = h12 ∧ z.1 ≤ F.P ∧ (es.drop z.2.1).map keyH = (if st = 4 then [] else pendK L q (F.P - z.1) z.1) ∧ z.2.1 ≤ es.length ∧ z.2.2 = cntO L2 q F.P z.1, fun z => F.P - z.1, (0, 1, 0), ⟨rfl, rfl, rfl, rfl, rfl, rfl, rfl, rfl, rfl, rfl, trivial⟩, ⟨rfl, Nat.zero_le _, ?_, by show 1 ≤ es.length; omega, rfl⟩, ?_⟩
  · show (es.drop 1).map keyH = _
    rw [he]
    exact ek
  rintro ⟨i, at_, rest⟩ h13 ⟨rfl, hi, hat, hal, hrest⟩
  simp only at hi hat hal hrest
  repeat (first | refine ⟨_, cell_blk (hib12) rfl, ?_⟩)
  refine xif_of (fun g => ?_) (fun g => ?_)
  · have g : (i : Int) < (F.P : Int) := of_decide_eq_true g
    have hiP : i < F.P := by omega
    obtain ⟨m, hm⟩ : ∃ m, F.P - i = m + 1 := ⟨F.P - i - 1, by omega⟩
    have hm' : F.P - (i + 1) = m := by omega
    have eai : (⟨wb, 0, none⟩ : Addr).add (((i : Int)).toNat * 1) = ⟨wb, i, none⟩ := by rw [Int.toNat_natCast, Nat.mul_one, add_lit, Nat.zero_add]
    have hci : cell h13 ((⟨wb, 0, none⟩ : Addr).add (((i : Int)).toNat * 1)) = some (.slice (An i) (L i q).length (cn i)) := by rw [eai]; exact W12.cell hiP
    refine ⟨Nat, fun at1 => [(3, .pointer (some ⟨ib, 0, none⟩)), (7, .pointer (some ⟨F.fb, 0, none⟩)), (8, .int .i64 q), (9, .int .i64 st), (10, .slice (some ⟨wb, 0, none⟩) F.P F.P), (11, .int .i64 (others : Int)), (16, .slice LA es.length lc), (17, .int .i64 (at1 : Int)), (18, .int .i64 (rest : Int)), (19, .int .i64 (i : Int))],
      fun at1 h' => h' = h13 ∧ (es.drop at1).map keyH = (if st = 4 then [] else pendK L q (F.P - (i + 1)) (i + 1)) ∧ at1 ≤ es.length, ?_, ?_⟩
    · refine ⟨Nat × Nat, fun z => [(3, .pointer (some ⟨ib, 0, none⟩)), (7, .pointer (some ⟨F.fb, 0, none⟩)), (8, .int .i64 q), (9, .int .i64 st), (10, .slice (some ⟨wb, 0, none⟩) F.P F.P), (11, .int .i64 (others : Int)), (16, .slice LA es.length lc), (17, .int .i64 (z.2 : Int)), (18, .int .i64 (rest : Int)), (19, .int .i64 (i : Int)), (20, .int .i64 (z.1 : Int))],
        fun z h' => h' = h13 ∧ z.1 ≤ (L i q).length ∧ (st = 4 → z.1 = 0) ∧ (es.drop z.2).map keyH = (if st = 4 then [] else ((L i q).drop z.1).map (fun y => (11, (i : Int), (q : Int), IntKind.i64.wrap y)) ++ pendK L q (F.P - (i + 1)) (i + 1)) ∧ z.2 ≤ es.length, fun z => (L i q).length - z.1, (0, at_), ⟨rfl, rfl, rfl, rfl, rfl, rfl, rfl, rfl, rfl, rfl, rfl, trivial⟩, ⟨rfl, Nat.zero_le _, fun _ => rfl, ?_, hal⟩, ?_⟩
      · show (es.drop at_).map keyH = _
        rw [hat, hm, hm', pendK_succ]
        rfl
      rintro ⟨k, at2⟩ h14 ⟨rfl, hk, hk4, hat2, hal2⟩
      simp only at hk hk4 hat2 hal2
      refine ⟨_, rfl, Int.natCast_nonneg i, Int.ofNat_lt.2 hiP, _, hci, ?_⟩
      refine xif_of (fun g2 => ?_) (fun g2 => ?_)
      · have g2 : (k : Int) < ((L i q).length : Int) := of_decide_eq_true g2
        refine xif_of (fun g3 => ?_) (fun g3 => ?_)
        · have g3 : (st != 4) = true := g3
          have g3 : st ≠ 4 := by simpa using g3
          rw [if_neg g3] at hat2
          obtain ⟨yk, hyk⟩ : ∃ yk, (L i q)[k]? = some yk := ⟨_, List.getElem?_eq_getElem (by omega)⟩
          have hdk : (L i q).drop k = yk :: (L i q).drop (k + 1) := by
            rw [List.drop_eq_getElem_cons (by omega)]
            rw [List.getElem?_eq_getElem (by omega)] at hyk
            rw [Option.some.inj hyk]
          rw [hdk, List.map_cons, List.cons_append, List.map_drop] at hat2
          obtain ⟨ha1, ha2⟩ := drop_cons hat2
          rw [List.getElem?_map] at ha1
          obtain ⟨e, he1, he2⟩ := Option.map_eq_some_iff.1 ha1
          have k1 : e.op.kind = 11 := congrArg (fun z => z.1) he2
          have k2 : e.op.port = (i : Int) := congrArg (fun z => z.2.1) he2
          have k3 : e.op.to = (q : Int) := congrArg (fun z => z.2.2.1) he2
          have k4 : e.ans = IntKind.i64.wrap yk := congrArg (fun z => z.2.2.2) he2
          have hvy := hval i q yk (List.mem_of_getElem? hyk)
          rw [hww yk hvy.1 hvy.2] at k4
          have hatl : at2 < es.length := (List.getElem?_eq_some_iff.1 he1).1
          obtain ⟨al, hal1, hrd⟩ := o12.row encHe_len at2 e he1
          have ra : ∀ (f : Nat) (v : Value), (encHe e)[f]? = some v → cell h14 ((al.add (((at2 : Int)).toNat * 19)).add f) = some v := fun f v hf => by
            rw [Int.toNat_natCast]; exact hrd.get f hf
          have r0 : cell h14 (((al.add (((at2 : Int)).toNat * 19)).add 4).add 0) = some (.int .i64 e.op.kind) := by rw [add_add]; exact ra 4 _ rfl
          have r1 : cell h14 (((al.add (((at2 : Int)).toNat * 19)).add 4).add 1) = some (.int .i64 e.op.port) := by rw [add_add]; exact ra 5 _ rfl
          have r2 : cell h14 (((al.add (((at2 : Int)).toNat * 19)).add 4).add 2) = some (.int .i64 e.op.to) := by rw [add_add]; exact ra 6 _ rfl
          have r5 : cell h14 ((al.add (((at2 : Int)).toNat * 19)).add 18) = some (.int .i64 e.ans) := ra 18 _ rfl
          refine xif_false (decide_eq_false (show ¬ (at2 : Int) ≥ (es.length : Int) by omega)) ?_
          refine ⟨al, hal1, Int.natCast_nonneg at2, Int.ofNat_lt.2 hatl, _, r0, ?_⟩
          refine xif_false (by rw [k1]; rfl) ?_
          refine ⟨al, hal1, Int.natCast_nonneg at2, Int.ofNat_lt.2 hatl, _, r1, ?_⟩
          refine xif_false (by rw [k2]; simp) ?_
          refine ⟨al, hal1, Int.natCast_nonneg at2, Int.ofNat_lt.2 hatl, _, r2, ?_⟩
          refine xif_false (by rw [k3]; simp) ?_
          have hk64 := hL64 i q hiP hqP
          obtain ⟨aw, haw, hrw⟩ := (W12.own i hiP).row encI_len k yk hyk
          refine ⟨al, hal1, Int.natCast_nonneg at2, Int.ofNat_lt.2 hatl, _, r5, ?_⟩
          refine ⟨_, rfl, Int.natCast_nonneg i, Int.ofNat_lt.2 hiP, _, hci, ?_⟩
          refine ⟨aw, haw, Int.natCast_nonneg k, g2, _, hrw.cons, ?_⟩
          refine xif_false (by rw [k4]; simp) ?_
          refine ⟨(k + 1, at2 + 1), ⟨rfl, rfl, rfl, rfl, rfl, rfl, rfl, slot_inc (by omega), rfl, rfl, slot_inc (by omega), trivial⟩, ⟨rfl, by show k + 1 ≤ (L i q).length; omega, fun g => absurd g g3, ?_, by show at2 + 1 ≤ es.length; omega⟩, by show (L i q).length - (k + 1) < (L i q).length - k; omega⟩
          rw [if_neg g3, List.map_drop]
          exact ha2
        · have g3 : (st != 4) = false := g3
          have g3 : st = 4 := by simpa using g3
          exact ⟨at2, ⟨rfl, rfl, rfl, rfl, rfl, rfl, rfl, rfl, rfl, rfl, trivial⟩, rfl, by rw [if_pos g3] at hat2 ⊢; exact hat2, hal2⟩
      · have g2 : ¬ (k : Int) < ((L i q).length : Int) := of_decide_eq_false g2
        refine ⟨at2, ⟨rfl, rfl, rfl, rfl, rfl, rfl, rfl, rfl, rfl, rfl, trivial⟩, rfl, ?_, hal2⟩
        rw [hat2, List.drop_eq_nil_of_le (by omega)]
        rfl
    rintro at1 h14 ⟨rfl, hat1, hal1⟩
    refine ⟨Nat × Nat, fun z => [(3, .pointer (some ⟨ib, 0, none⟩)), (7, .pointer (some ⟨F.fb, 0, none⟩)), (8, .int .i64 q), (9, .int .i64 st), (10, .slice (some ⟨wb, 0, none⟩) F.P F.P), (11, .int .i64 (others : Int)), (16, .slice LA es.length lc), (17, .int .i64 (at1 : Int)), (18, .int .i64 (z.2 : Int)), (19, .int .i64 (i : Int)), (21, .int .i64 (z.1 : Int))],
      fun z h' => h' = h14 ∧ z.1 ≤ F.P ∧ z.2 = cntO L2 q F.P i + rowO L2 q i z.1, fun z => F.P - z.1, (0, rest), ⟨rfl, rfl, rfl, rfl, rfl, rfl, rfl, rfl, rfl, rfl, rfl, trivial⟩, ⟨rfl, Nat.zero_le _, by rw [hrest]; rfl⟩, ?_⟩
    rintro ⟨b, rs⟩ h15 ⟨rfl, hb, hrs⟩
    simp only at hb hrs
    have hcb := cntO_le (L := L2) (q := q) (P := F.P) (fun a b ha hb => hL2S a b ha hb) i hi
    have hci64 : 64 * F.P * i ≤ 64 * 8 * 8 := Nat.mul_le_mul (Nat.mul_le_mul_left _ p8) (by omega)
    have hrb2 := rowO_le (L := L2) (q := q) (i := i) (P := F.P) (fun b hb => hL2S i b hiP hb) b hb
    repeat (first | refine ⟨_, cell_blk (hib12) rfl, ?_⟩)
    refine xif_of (fun g4 => ?_) (fun g4 => ?_)
    · have g4 : (b : Int) < (F.P : Int) := of_decide_eq_true g4
      have hbP : b < F.P := by omega
      refine xif_of (fun g5 => ?_) (fun g5 => ?_)
      · have g5 : ((b : Int) != (q : Int)) = true := g5
        have g5 : b ≠ q := fun e => by rw [e] at g5; simp at g5
        refine (cRing_spec fab12 hiP hbP).mono ?_
        rintro v h16 ⟨rfl, rfl⟩
        refine (ring_len R12 S12.mem hiP hbP ht12).mono ?_
        rintro v h17 ⟨rfl, rfl⟩
        have hl := hL2S i b hiP hbP
        refine ⟨(b + 1, rs + (L2 i b).length), ⟨rfl, rfl, rfl, rfl, rfl, rfl, rfl, rfl, congrArg (fun z => some (Value.int .i64 z)) (wrap_add rs (L2 i b).length (by omega)), rfl, slot_inc (by omega), trivial⟩, ⟨rfl, by show b + 1 ≤ F.P; omega, ?_⟩, by show F.P - (b + 1) < F.P - b; omega⟩
        show rs + (L2 i b).length = cntO L2 q F.P i + rowO L2 q i (b + 1)
        rw [rowS, if_neg g5, hrs]
        omega
      · have g5 : ((b : Int) != (q : Int)) = false := g5
        have g5 : b = q := by have : (b : Int) = q := by simpa using g5
                              omega
        refine ⟨(b + 1, rs), ⟨rfl, rfl, rfl, rfl, rfl, rfl, rfl, rfl, rfl, rfl, slot_inc (by omega), trivial⟩, ⟨rfl, by show b + 1 ≤ F.P; omega, ?_⟩, by show F.P - (b + 1) < F.P - b; omega⟩
        show rs = cntO L2 q F.P i + rowO L2 q i (b + 1)
        rw [rowS, if_pos g5, hrs]
        rfl
    · have g4 : ¬ (b : Int) < (F.P : Int) := of_decide_eq_false g4
      have hbP : b = F.P := by omega
      have hrs' : rs = cntO L2 q F.P (i + 1) := by rw [hrs, hbP]; rfl
      refine xif_of (fun g5 => ?_) (fun g5 => ?_)
      · have g5 : (st == 4) = true := g5
        have g5 : st = 4 := by simpa using g5
        refine ⟨_, rfl, Int.natCast_nonneg i, Int.ofNat_lt.2 hiP, _, hci, ?_⟩
        refine (cRing_spec fab12 hiP hqP).mono ?_
        rintro v h16 ⟨rfl, rfl⟩
        refine ⟨⟨hci, trivial⟩, ?_⟩
        refine (ring_len R12 S12.mem hiP hqP ht12).mono ?_
        rintro v h17 ⟨rfl, rfl⟩
        try (refine ⟨⟨hci, trivial⟩, ?_⟩)
        rw [D2.all g5]
        refine xif_false (by simp) ?_
        refine xif_false (by rw [g5]; rfl) ?_
        exact ⟨(i + 1, at1, rs), ⟨rfl, rfl, rfl, rfl, rfl, rfl, rfl, rfl, rfl, slot_inc (by omega), trivial⟩, ⟨rfl, by show i + 1 ≤ F.P; omega, hat1, hal1, by show rs = cntO L q F.P (i + 1); rw [hrs', D2.all g5]⟩, by show F.P - (i + 1) < F.P - i; omega⟩
      · have g5 : (st == 4) = false := g5
        have g5 : st ≠ 4 := by simpa using g5
        refine xif_true (show (st != 4) = true by simpa using g5) ?_
        refine (cRing_spec fab12 hiP hqP).mono ?_
        rintro v h16 ⟨rfl, rfl⟩
        try (refine ⟨by ((repeat (first | refine ⟨cell_blk (hib12) rfl, ?_⟩)); exact trivial), ?_⟩)
        refine (ring_len R12 S12.mem hiP hqP ht12).mono ?_
        rintro v h17 ⟨rfl, rfl⟩
        try (refine ⟨by ((repeat (first | refine ⟨cell_blk (hib12) rfl, ?_⟩)); exact trivial), ?_⟩)
        rw [D2.low g5 i hiP]
        exact ⟨(i + 1, at1, rs), ⟨rfl, rfl, rfl, rfl, rfl, rfl, rfl, rfl, rfl, slot_inc (by omega), trivial⟩, ⟨rfl, by show i + 1 ≤ F.P; omega, hat1, hal1, hrs'⟩, by show F.P - (i + 1) < F.P - i; omega⟩
  · have g : ¬ (i : Int) < (F.P : Int) := of_decide_eq_false g
    have hiP : i = F.P := by omega
    have hd0 : (es.drop at_).map keyH = [] := by
      rw [hat, hiP, Nat.sub_self]
      split <;> rfl
    have hd1 : es.length ≤ at_ := by
      have := congrArg List.length hd0
      rw [List.length_map, List.length_drop, List.length_nil] at this
      omega
    have hae : at_ = es.length := by omega
    refine xif_true (beq_iff_eq.2 (show (at_ : Int) = (es.length : Int) by rw [hae])) ?_
    refine ⟨congrArg Value.bool (beq_iff_eq.2 (show (rest : Int) = (others : Int) from ?_)), x12a⟩
    rw [hrest, hiP, hoth, cntO_congr (L := L2) (L' := L) (fun a b hb => D2.oth a b hb) F.P]
end Go.Proofs.YthoikbogkhpciaaGreatE
