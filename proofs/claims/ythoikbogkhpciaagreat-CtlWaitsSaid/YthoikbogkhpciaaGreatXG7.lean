/- A VLAN is set, from the first lock to the last one: how all is, step by step. Conditions: all locks are free. -/
import Derived.Test.YthoikbogkhpciaaGreatXG5
set_option linter.unusedVariables false
set_option linter.unusedSimpArgs false
set_option maxRecDepth 100000
namespace Go.Proofs.YthoikbogkhpciaaGreatE
open Go Go.Proofs
def env_lFix19 : Nat → Ann
  | 5 => ⟨.nil, [], true⟩
  | 7 => ⟨.op 0 [] <| .op 1 [] <| .op 2 [] <| .op 3 [] <| .op 4 [] <| .op 5 [] <| .op 6 [] <| .op 7 [] <| .op 8 [] <| .op 9 [] <| .op 10 [] <| .op 11 [] <| .op 12 [] <| .op 13 [] <| .op 14 [] <| .op 15 [] <| .nil, [0, 1, 0, 4, 12, 0, 32, 96, 224, 508, 1020, 2047, 4095, 8191, 16383, 32767], false⟩
  | 8 => ⟨.nil, [], true⟩
  | 10 => ⟨.nil, [], true⟩
  | _ => ⟨.nil, [], false⟩
def env_cMembers : Nat → Ann
  | 4 => ⟨.op 0 [] <| .op 1 [] <| .op 2 [] <| .op 3 [] <| .op 4 [] <| .op 5 [] <| .op 6 [3] <| .op 7 [] <| .op 8 [] <| .nil, [0, 1, 3, 7, 0, 0, 48, 127, 255], false⟩
  | _ => ⟨.nil, [], false⟩
def env_cUntagged : Nat → Ann
  | 4 => ⟨.op 0 [] <| .op 1 [] <| .op 2 [] <| .op 3 [] <| .op 4 [] <| .op 5 [] <| .op 6 [3] <| .op 7 [] <| .op 8 [] <| .op 9 [] <| .nil, [0, 1, 3, 7, 0, 0, 48, 112, 255, 511], false⟩
  | _ => ⟨.nil, [], false⟩
theorem hasM_and {a b : Int} {q : Nat} (ha : SetWf a) (hb : SetWf b) : hasM (andM a b) q = (hasM a q && hasM b q) := by
  have e : (andM a b).toNat = a.toNat &&& b.toNat := by unfold andM; simp
  unfold hasM
  rw [e, Nat.testBit_and]
  cases decide (0 ≤ (q : Int) ∧ (q : Int) < 64) <;> simp
theorem hasM_all {P q : Nat} (hq : q < 64) : hasM (allM P) q = decide (q < P) := by
  unfold hasM
  rw [show decide (0 ≤ (q : Int) ∧ (q : Int) < 64) = true from decide_eq_true ⟨by omega, by omega⟩, Int.toNat_natCast, allM_bit hq, Bool.true_and]
  rw [Bool.eq_iff_iff, decide_eq_true_iff, decide_eq_true_iff]
  omega
theorem findV_mem {vid : Int} : ∀ (l : List Vl) (i : Nat), (∃ w ∈ l, w.vid = vid) → findV vid l i ≠ -1
  | [], _, ⟨_, h, _⟩ => by cases h
  | w :: l, i, ⟨y, hy, e⟩ => by
    unfold findV
    split
    · omega
    · rename_i hn
      rcases List.mem_cons.1 hy with h | h
      · subst h; exact absurd e hn
      · exact findV_mem l (i + 1) ⟨y, h, e⟩
/-- A VLAN is set: behind k steps. -/
def SetV (h0 : Heap) (B : Nat) (F : Fb) (ab : Nat) (M : MemS) (o : Op17) (who : Int) (i k : Nat) (h : Heap) : Prop :=
  ChgT B TyC h0 h ∧ ∃ x M' E, CaS h B F ab x (List.range F.P) M' E ∧ x.o = o ∧ x.who = who ∧ M'.t = M.t + k ∧ M'.locks.length = M.locks.length ∧ (∀ p, p < F.P → M'.locks[p]? = some (if p < x.held then who else -1)) ∧
    ((k ≤ F.P ∧ x.held = k ∧ M'.cells = M.cells ∧ x.next = .func (.func (if k < F.P then 69 else 114)) #[] #[]) ∨
     (k = F.P + 1 ∧ x.held = F.P ∧ M'.cells = M.cells.set (F.P + 2 * i + 1) (andM o.unt (andM o.mem (allM F.P))) ∧ x.next = .func (.func 158) #[] #[]) ∨
     ((E.ans = 1 ∧ 0 < E.mark) ∧ M'.cells = (M.cells.set (F.P + 2 * i + 1) (andM o.unt (andM o.mem (allM F.P)))).set (F.P + 2 * i) (andM o.mem (allM F.P)) ∧ ∃ j, k = F.P + 2 + j ∧ j ≤ F.P ∧ x.held = F.P - j ∧ x.next = if j < F.P then .func (.func 187) #[] #[] else .nilFunc))
theorem setV_step {h0 h : Heap} {B : Nat} {F : Fb} {ab : Nat} {M : MemS} {o : Op17} {who : Int} {i k : Nat} (hw : 0 ≤ who) (hk9 : o.kind = 9) (hi : findV o.vid F.vls 0 = (i : Int)) (hv : i < F.vls.length) (wm : SetWf o.mem) (wu : SetWf o.unt) (hc : F.P + 2 * i + 1 < M.cells.length) (ht : M.t < 800000) (hk : k < 2 * F.P + 2) (H : SetV h0 B F ab M o who i k h) :
    HCalls Tryz.prog 29 #[.pointer (some ⟨ab, 0, none⟩)] h (fun v h' => v = .bool (k + 1 == 2 * F.P + 2) ∧ SetV h0 B F ab M o who i (k + 1) h') := by
  obtain ⟨c0, x, M', E, S, xo, xw, hT, hL, hlk, H⟩ := H
  have p1 := S.fab.p1
  have p2 := S.fab.p2
  rcases H with ⟨hkP, hh, hcs, hn⟩ | ⟨hkP, hh, hcs, hn⟩ | ⟨hE, hcs, j, hkj, hj, hh, hn⟩
  · rcases Nat.lt_or_ge k F.P with h1 | h1
    · rw [if_pos h1] at hn
      have hl : M'.locks[k]? = some (-1) := by rw [hlk k h1, if_neg (by omega)]
      refine (aStep_of (cap := []) (K := fun _ => True) (x' := { x with held := x.held + 1 }) (M' := { M' with locks := M'.locks.set k x.who, t := M'.t + 1 }) (E' := E) (.func (.func (if k + 1 < F.P then 69 else 114)) #[] #[]) false S hn (.inr ⟨_, _, rfl, rfl⟩) ((aLock_spec S (p := k) (by rw [hh]; exact List.getElem?_range h1) h1 hl (by omega)).mono ?_) (fun _ _ _ _ => trivial)).mono ?_
      · rintro v h2 ⟨rfl, S1, c1⟩
        refine ⟨?_, S1, c1, trivial⟩
        rw [hh, List.length_range]
        by_cases h2 : k + 1 < F.P
        · rw [if_pos h2, if_pos h2]
        · rw [if_neg h2, if_neg h2, if_pos (by rw [xo]; exact hk9)]
      · rintro v h2 ⟨rfl, S1, c1, _⟩
        refine ⟨?_, c0.trans c1, _, _, _, S1, xo, xw, by show M'.t + 1 = M.t + (k + 1); omega, by show (M'.locks.set k x.who).length = _; rw [List.length_set]; exact hL, fun p hp => ?_, .inl ⟨h1, by show x.held + 1 = k + 1; rw [hh], hcs, rfl⟩⟩
        · rw [show (k + 1 == 2 * F.P + 2) = false from beq_eq_false_iff_ne.2 (by omega)]
        · show (M'.locks.set k x.who)[p]? = some (if p < x.held + 1 then who else -1)
          by_cases e : p = k
          · subst e
            rw [List.getElem?_set_self (List.getElem?_eq_some_iff.1 hl).1, if_pos (by omega), xw]
          · rw [List.getElem?_set_ne (Ne.symm e), hlk p hp]
            congr 1
            by_cases g : p < x.held
            · rw [if_pos g, if_pos (by omega)]
            · rw [if_neg g, if_neg (by omega)]
    · have e : k = F.P := by omega
      rw [if_neg (by omega)] at hn
      refine (aStep_of (cap := []) (K := fun _ => True) (x' := x) (M' := { M' with cells := M'.cells.set (F.P + 2 * i + 1) (andM x.o.unt (andM x.o.mem (allM F.P))), t := M'.t + 1 }) (E' := E) (.func (.func 158) #[] #[]) false S hn (.inr ⟨_, _, rfl, rfl⟩) ((aBare_spec S (i := i) (by rw [xo]; exact hi) hv (by rw [xo]; exact wm) (by rw [xo]; exact wu) (by rw [hcs]; exact hc) (by omega)).mono ?_) (fun _ _ _ _ => trivial)).mono ?_
      · rintro v h2 ⟨rfl, S1, c1⟩
        exact ⟨rfl, S1, c1, trivial⟩
      · rintro v h2 ⟨rfl, S1, c1, _⟩
        refine ⟨?_, c0.trans c1, _, _, _, S1, xo, xw, by show M'.t + 1 = M.t + (k + 1); omega, hL, hlk, .inr (.inl ⟨by omega, by rw [← e]; exact hh, ?_, rfl⟩)⟩
        · rw [show (k + 1 == 2 * F.P + 2) = false from beq_eq_false_iff_ne.2 (by omega)]
        · show M'.cells.set _ (andM x.o.unt (andM x.o.mem (allM F.P))) = _
          rw [hcs, xo]
  · refine (aStep_of (cap := []) (K := fun _ => True) (x' := x) (M' := { M' with cells := M'.cells.set (F.P + 2 * i) (andM x.o.mem (allM F.P)), t := M'.t + 1 }) (E' := { E with mark := ((M'.t + 1 : Nat) : Int), fin := ((M'.t + 1 : Nat) : Int), ans := 1 }) (.func (.func 187) #[] #[]) false S hn (.inr ⟨_, _, rfl, rfl⟩) ((aMembers_spec S (i := i) (by rw [xo]; exact hi) hv (by rw [xo]; exact wm) (by rw [hcs, List.length_set]; omega) (by omega)).mono ?_) (fun _ _ _ _ => trivial)).mono ?_
    · rintro v h2 ⟨rfl, S1, c1⟩
      exact ⟨rfl, S1, c1, trivial⟩
    · rintro v h2 ⟨rfl, S1, c1, _⟩
      refine ⟨?_, c0.trans c1, _, _, _, S1, xo, xw, by show M'.t + 1 = M.t + (k + 1); omega, hL, hlk, .inr (.inr ⟨⟨rfl, by show (0 : Int) < ((M'.t + 1 : Nat) : Int); omega⟩, ?_, 0, by omega, by omega, hh, by rw [if_pos (by omega)]⟩)⟩
      · rw [show (k + 1 == 2 * F.P + 2) = false from beq_eq_false_iff_ne.2 (by omega)]
      · show M'.cells.set _ (andM x.o.mem (allM F.P)) = _
        rw [hcs, xo]
  · have hjP : j < F.P := by omega
    rw [if_pos hjP] at hn
    obtain ⟨m, hm⟩ : ∃ m, F.P - j = m + 1 := ⟨F.P - j - 1, by omega⟩
    have hl : M'.locks[m]? = some x.who := by rw [hlk m (by omega), if_pos (by omega), xw]
    refine (aStep_of (cap := []) (K := fun _ => True) (x' := { x with held := m }) (M' := { M' with locks := M'.locks.set m (-1), t := M'.t + 1 }) (E' := E) (if 0 < m then .func (.func 187) #[] #[] else .nilFunc) (decide (m = 0)) S hn ?_ ((aUnlock_spec S (k := m) (by rw [hh, hm]) (p := m) (List.getElem?_range (by omega)) (by omega) hl (by omega)).mono ?_) (fun _ _ _ _ => trivial)).mono ?_
    · by_cases g : 0 < m
      · rw [if_pos g]
        exact .inr ⟨_, _, rfl, decide_eq_false (by omega)⟩
      · rw [if_neg g]
        exact .inl ⟨rfl, decide_eq_true (by omega)⟩
    · rintro v h2 ⟨rfl, S1, c1⟩
      exact ⟨rfl, S1, c1, trivial⟩
    · rintro v h2 ⟨rfl, S1, c1, _⟩
      refine ⟨?_, c0.trans c1, _, _, _, S1, xo, xw, by show M'.t + 1 = M.t + (k + 1); omega, by show (M'.locks.set m (-1)).length = _; rw [List.length_set]; exact hL, fun p hp => ?_, .inr (.inr ⟨hE, hcs, j + 1, by omega, by omega, by show m = F.P - (j + 1); omega, ?_⟩)⟩
      · congr 1
        rw [Bool.eq_iff_iff, decide_eq_true_iff, beq_iff_eq]
        omega
      · show (M'.locks.set m (-1))[p]? = some (if p < m then who else -1)
        by_cases e : p = m
        · subst e
          rw [List.getElem?_set_self (List.getElem?_eq_some_iff.1 hl).1, if_neg (by omega)]
        · rw [List.getElem?_set_ne (Ne.symm e), hlk p hp]
          congr 1
          by_cases g : p < m
          · rw [if_pos g, if_pos (by omega)]
          · rw [if_neg g, if_neg (by omega)]
      · show (if 0 < m then _ else _) = (if j + 1 < F.P then _ else _)
        by_cases g : 0 < m
        · rw [if_pos g, if_pos (by omega)]
        · rw [if_neg g, if_neg (by omega)]
section
variable {h : Heap} {F : Fb} {M : MemS}
theorem cMembers_spec (H : FabAt h F) (HM : MemAt h F.mb F.cb F.lb M) {vid : Int} {i : Nat} (hi : findV vid F.vls 0 = (i : Int)) (hv : i ≤ 1000) {y : Int} (hx : M.cells[F.P + 2 * i]? = some y) (ht : M.t < 1000000) : HCalls Tryz.prog 35 #[.pointer (some ⟨F.fb, 0, none⟩), .int .i64 vid] h (fun v h' => v = .int .u64 y ∧ MemAt h' F.mb F.cb F.lb { M with t := M.t + 1 } ∧ Chg (ML F.mb F.cb F.lb) h h') := by
  refine xcalls env_cMembers Tryz.func35 rfl (by kernel_rfl) rfl (by kernel_rfl) ?_
  refine (cVlan_spec H vid).mono ?_
  rintro v h1 ⟨rfl, x1⟩
  rw [hi]
  obtain ⟨RA, rc, hb', hr⟩ := (H.ext x1).blk
  repeat (first | refine ⟨_, cell_blk (hb') rfl, ?_⟩)
  refine (cVlanAt_fab (H.ext x1) (i := i) hv).mono ?_
  rintro v h2 ⟨rfl, rfl⟩
  try (refine ⟨by ((repeat (first | refine ⟨cell_blk (hb') rfl, ?_⟩)); exact trivial), ?_⟩)
  refine (mLoad_spec (HM.ext x1) hx ht).mono ?_
  rintro v h3 ⟨rfl, m3, c3⟩
  exact ⟨rfl, m3, (x1.chg _).trans (c3.mono (by first | (simp; done) | (intro p hp; simp [hp]; done) | (simp [ML]; done) | (intro p hp; simp [ML] at hp ⊢; rcases hp with h | h | h <;> simp [h]; done)))⟩
theorem cUntagged_spec (H : FabAt h F) (HM : MemAt h F.mb F.cb F.lb M) {vid : Int} {i : Nat} (hi : findV vid F.vls 0 = (i : Int)) (hv : i ≤ 1000) {y : Int} (hx : M.cells[F.P + 2 * i + 1]? = some y) (ht : M.t < 1000000) : HCalls Tryz.prog 36 #[.pointer (some ⟨F.fb, 0, none⟩), .int .i64 vid] h (fun v h' => v = .int .u64 y ∧ MemAt h' F.mb F.cb F.lb { M with t := M.t + 1 } ∧ Chg (ML F.mb F.cb F.lb) h h') := by
  have p2 := H.p2
  refine xcalls env_cUntagged Tryz.func36 rfl (by kernel_rfl) rfl (by kernel_rfl) ?_
  refine (cVlan_spec H vid).mono ?_
  rintro v h1 ⟨rfl, x1⟩
  rw [hi]
  obtain ⟨RA, rc, hb', hr⟩ := (H.ext x1).blk
  repeat (first | refine ⟨_, cell_blk (hb') rfl, ?_⟩)
  refine (cVlanAt_fab (H.ext x1) (i := i) hv).mono ?_
  rintro v h2 ⟨rfl, rfl⟩
  try (refine ⟨by ((repeat (first | refine ⟨cell_blk (hb') rfl, ?_⟩)); exact trivial), ?_⟩)
  refine (mLoad_at (HM.ext x1) (i := F.P + 2 * i + 1) (wrap_add1 _ (by omega)) hx ht).mono ?_
  rintro v h3 ⟨rfl, m3, c3⟩
  exact ⟨rfl, m3, (x1.chg _).trans (c3.mono (by first | (simp; done) | (intro p hp; simp [hp]; done) | (simp [ML]; done) | (intro p hp; simp [ML] at hp ⊢; rcases hp with h | h | h <;> simp [h]; done)))⟩
end
end Go.Proofs.YthoikbogkhpciaaGreatE
/- An order that may be, out of any Op. Conditions: the plan may be. -/
set_option linter.unusedVariables false
set_option linter.unusedSimpArgs false
set_option maxRecDepth 100000
namespace Go.Proofs.YthoikbogkhpciaaGreatE
open Go Go.Proofs
def kinds19 : List Int := [8, 8, 9, 7, 4, 5, 8, 4]
def fixK (o : Op17) : Int := kinds19.getD (o.kind % 18446744073709551616 % 8).toNat 0
/-- The order that comes of an Op. -/
def fixOp (P : Int) (vls : List Vl) (o : Op17) : Op17 :=
  { o with kind := (if fixK o = 9 ∧ vls.length = 0 then 8 else fixK o), port := (if fixK o = 7 then o.port else o.port % 18446744073709551616 % P), state := o.state % 18446744073709551616 % 5,
           vid := (if fixK o = 9 ∧ 0 < vls.length then (vls.getD (o.vid % 18446744073709551616 % vls.length).toNat ⟨0, 0, 0⟩).vid else o.vid), kvid := fixVid o.kvid, mac := fixMac o.mac }
theorem mod_put2 {x : Int} {P r : Nat} (hP : 0 < P) (hp : P ≤ 1000000) (h : x % 18446744073709551616 % P = (r : Int)) : IntKind.i64.wrap ((IntKind.u64.wrap x).tmod (IntKind.u64.wrap (P : Int))) = (r : Int) := by
  have h3 := Int.emod_lt_of_pos (x % 18446744073709551616) (show (0 : Int) < P by omega)
  rw [IntKind.wrap_u64, wrap_u64 (x := (P : Int)) (by omega) (by omega), Int.tmod_eq_emod_of_nonneg (by omega), h, wrap_i64 (by omega) (by omega)]
theorem lFix19_spec {h : Heap} {A B : Option Addr} {na ca nb cb : Nat} {rules : List Ru} {vls : List Vl} {P : Nat} {tries ring normal short : Int} {s : Sz} {o : Op17} (hrb : Row encVl 3 h B vls) (hlb : vls.length = nb) (hn : nb ≤ 1000) (p1 : 0 < P) (p2 : P ≤ 64) (w : KeyWf o.kvid o.mac) :
    HCalls Tryz.prog 24 #[.agg (encO17 o).toArray, .agg (planV P (.slice A na ca) (.slice B nb cb) s tries ring normal short).toArray] h (fun v h' => v = .agg (encO17 (fixOp P vls o)).toArray ∧ Ext h h') := by
  subst hlb
  refine xcalls env_lFix19 Tryz.func24 rfl (by kernel_rfl) rfl (by kernel_rfl) ?_
  intro ob h1 n1 pb h2 n2 rb h3 n3
  have hob : h3[ob]? = some (.cells (encO17 o).toArray 58 (0, 0)) := n3.ext.blk (n2.ext.blk n1.this)
  have hpb : h3[pb]? = some (.cells (planV P (.slice A na ca) (.slice B vls.length cb) s tries ring normal short).toArray 28 (0, 0)) := n3.ext.blk n2.this
  have x3 := (n1.ext.trans n2.ext).trans n3.ext
  have hrb3 : h3[rb]? = some (.cells (encO17 op0).toArray 58 (0, 0)) := n3.this
  have gob : h.size ≤ ob := n1.ge (Ext.refl _)
  have grb : h.size ≤ rb := n3.ge (n1.ext.trans n2.ext)
  have ne1 : pb ≠ ob := by have := n2.at_; have := blk_lt n1.this; omega
  have ne2 : rb ≠ ob := by have := n3.at_; have := blk_lt n1.this; have := n2.size; omega
  obtain ⟨k, hk⟩ : ∃ k, fixK o = k := ⟨_, rfl⟩
  intro kb h4 n4
  have hob4 := n4.ext.blk hob
  repeat (first | refine ⟨_, cell_blk (hob4) rfl, ?_⟩)
  have r8 := modn_eq o.kind 8 (by decide) (by decide)
  have rlt : (o.kind % 18446744073709551616 % 8).toNat < kinds19.length := by show _ < 8; omega
  refine ⟨by decide, ⟨kb, 0, none⟩, rfl, ?_, ?_, .int .i64 k, ?_, ?_⟩
  · rw [r8]; omega
  · rw [r8]; show o.kind % 18446744073709551616 % 8 < ((8 : Nat) : Int); omega
  · show cell h4 ((⟨kb, 0, none⟩ : Addr).add ((IntKind.i64.wrap ((IntKind.u64.wrap o.kind).tmod 8)).toNat * 1)) = some (.int .i64 k)
    rw [r8, add_lit, Nat.mul_one, Nat.zero_add]
    refine cell_arr n4.this ?_
    have e : ([Value.int .i64 8, .int .i64 8, .int .i64 9, .int .i64 7, .int .i64 4, .int .i64 5, .int .i64 8, .int .i64 4] : List Value) = kinds19.map (fun z => Value.int .i64 z) := rfl
    show ([Value.int .i64 8, .int .i64 8, .int .i64 9, .int .i64 7, .int .i64 4, .int .i64 5, .int .i64 8, .int .i64 4] : List Value).toArray[(o.kind % 18446744073709551616 % 8).toNat]? = _
    rw [e, List.getElem?_toArray, List.getElem?_map, List.getElem?_eq_getElem rlt, ← hk]
    unfold fixK
    rw [List.getD_eq_getElem?_getD, List.getElem?_eq_getElem rlt]
    rfl
  refine ⟨rfl, rfl, canset_blk hob4 rfl, fun h5 s5 => ?_⟩
  have hob5 : h5[ob]? = some (.cells (encO17 { o with kind := k }).toArray 58 (0, 0)) := s5.put hob4
  have x5 : Ext h h5 := (x3.trans n4.ext).stored s5 gob
  refine ⟨[.int .i64 o.kvid, .int .u64 o.mac], rfl, reads_at hob5 rfl, ?_⟩
  refine (rKeyFix_spec w _).mono ?_
  rintro v h6 ⟨rfl, x6⟩
  have hob6 := x6.blk hob5
  refine ⟨rfl, rfl, canset_blk hob6 rfl, fun h7 s7 => ?_⟩
  have hob7 : h7[ob]? = some (.cells (encO17 { o with kind := k, kvid := fixVid o.kvid, mac := fixMac o.mac }).toArray 58 (0, 0)) := s7.put hob6
  have x7 : Ext h h7 := (x5.trans x6).stored s7 gob
  have hpb7 := s7.blk (x6.blk (s5.blk (n4.ext.blk hpb) ne1)) ne1
  have hrb7 := s7.blk (x6.blk (s5.blk (n4.ext.blk hrb3) ne2)) ne2
  obtain ⟨r, hr⟩ : ∃ r : Nat, o.port % 18446744073709551616 % (P : Int) = r := ⟨_, (Int.toNat_of_nonneg (Int.emod_nonneg _ (by omega))).symm⟩
  refine ⟨Unit, fun _ => [(2, .pointer (some ⟨ob, 0, none⟩)), (3, .pointer (some ⟨pb, 0, none⟩)), (4, .pointer (some ⟨rb, 0, none⟩))], fun _ h' => h'[ob]? = some (.cells (encO17 { o with kind := k, port := (if k = 7 then o.port else o.port % 18446744073709551616 % P), kvid := fixVid o.kvid, mac := fixMac o.mac }).toArray 58 (0, 0)) ∧ h'[pb]? = some (.cells (planV P (.slice A na ca) (.slice B vls.length cb) s tries ring normal short).toArray 28 (0, 0)) ∧ h'[rb]? = some (.cells (encO17 op0).toArray 58 (0, 0)) ∧ Ext h h', ?_, ?_⟩
  · repeat (first | refine ⟨_, cell_blk (hob7) rfl, ?_⟩)
    refine xif_of (fun g => ?_) (fun g => ?_)
    · have g : (k != 7) = true := g
      have g : k ≠ 7 := by simpa using g
      repeat (first | refine ⟨_, cell_blk (hob7) rfl, ?_⟩ | refine ⟨_, cell_blk (hpb7) rfl, ?_⟩)
      refine ⟨?_, ?_⟩
      · rw [wrap_u64 (by omega) (by omega)]; omega
      refine ⟨rfl, rfl, canset_blk hob7 rfl, fun h8 s8 => ?_⟩
      refine ⟨(), ⟨rfl, rfl, rfl, trivial⟩, ?_, s8.blk hpb7 ne1, s8.blk hrb7 ne2, x7.stored s8 gob⟩
      have : h8[ob]? = some (.cells (encO17 { o with kind := k, port := IntKind.i64.wrap ((IntKind.u64.wrap o.port).tmod (IntKind.u64.wrap (P : Int))), kvid := fixVid o.kvid, mac := fixMac o.mac }).toArray 58 (0, 0)) := s8.put hob7
      rw [mod_put p1 p2 hr] at this
      rw [if_neg g, hr]
      exact this
    · have g : (k != 7) = false := g
      have g : k = 7 := by simpa using g
      exact ⟨(), ⟨rfl, rfl, rfl, trivial⟩, by rw [if_pos g]; exact hob7, hpb7, hrb7, x7⟩
  rintro _ h8 ⟨hob8, hpb8, hrb8, x8⟩
  obtain ⟨pt, hpt⟩ : ∃ pt, (if k = 7 then o.port else o.port % 18446744073709551616 % P) = pt := ⟨_, rfl⟩
  rw [hpt] at hob8
  repeat (first | refine ⟨_, cell_blk (hob8) rfl, ?_⟩)
  refine ⟨by decide, ?_⟩
  refine ⟨rfl, rfl, canset_blk hob8 rfl, fun h9 s9 => ?_⟩
  have hob9 : h9[ob]? = some (.cells (encO17 { o with kind := k, port := pt, state := o.state % 18446744073709551616 % 5, kvid := fixVid o.kvid, mac := fixMac o.mac }).toArray 58 (0, 0)) := by
    have : h9[ob]? = some (.cells (encO17 { o with kind := k, port := pt, state := IntKind.i64.wrap ((IntKind.u64.wrap o.state).tmod 5), kvid := fixVid o.kvid, mac := fixMac o.mac }).toArray 58 (0, 0)) := s9.put hob8
    rw [modn_eq o.state 5 (by decide) (by decide)] at this
    exact this
  have hpb9 := s9.blk hpb8 ne1
  have hrb9 := s9.blk hrb8 ne2
  have x9 := x8.stored s9 gob
  obtain ⟨vd, hvd⟩ : ∃ vd, (if k = 9 ∧ 0 < vls.length then (vls.getD (o.vid % 18446744073709551616 % vls.length).toNat ⟨0, 0, 0⟩).vid else o.vid) = vd := ⟨_, rfl⟩
  refine ⟨Unit, fun _ => [(2, .pointer (some ⟨ob, 0, none⟩)), (3, .pointer (some ⟨pb, 0, none⟩)), (4, .pointer (some ⟨rb, 0, none⟩))], fun _ h' => h'[ob]? = some (.cells (encO17 { o with kind := k, port := pt, vid := vd, state := o.state % 18446744073709551616 % 5, kvid := fixVid o.kvid, mac := fixMac o.mac }).toArray 58 (0, 0)) ∧ h'[pb]? = some (.cells (planV P (.slice A na ca) (.slice B vls.length cb) s tries ring normal short).toArray 28 (0, 0)) ∧ h'[rb]? = some (.cells (encO17 op0).toArray 58 (0, 0)) ∧ Ext h h', ?_, ?_⟩
  · have no : ¬ (k = 9 ∧ 0 < vls.length) → vd = o.vid := fun g => by rw [← hvd, if_neg g]
    repeat (first | refine ⟨_, cell_blk (hob9) rfl, ?_⟩)
    refine xif_of (fun g => ?_) (fun g => ?_)
    · have g : (k == 9) = true := g
      have g : k = 9 := by simpa using g
      repeat (first | refine ⟨_, cell_blk (hpb9) rfl, ?_⟩)
      refine xif_of (fun g2 => ?_) (fun g2 => ?_)
      · have g2 : (vls.length : Int) > 0 := of_decide_eq_true g2
        repeat (first | refine ⟨_, cell_blk (hob9) rfl, ?_⟩ | refine ⟨_, cell_blk (hpb9) rfl, ?_⟩)
        have lp : (0 : Int) < vls.length := by omega
        obtain ⟨m, hm⟩ : ∃ m : Nat, o.vid % 18446744073709551616 % (vls.length : Int) = m := ⟨_, (Int.toNat_of_nonneg (Int.emod_nonneg _ (by omega))).symm⟩
        have hml : m < vls.length := by have := Int.emod_lt_of_pos (o.vid % 18446744073709551616) lp; omega
        have em : IntKind.i64.wrap ((IntKind.u64.wrap o.vid).tmod (IntKind.u64.wrap (vls.length : Int))) = (m : Int) := mod_put2 (by omega) (by omega) hm
        obtain ⟨z, hz⟩ : ∃ z, vls[m]? = some z := ⟨_, List.getElem?_eq_getElem hml⟩
        obtain ⟨a, ha, hrd⟩ := (x9.row hrb) m z hz
        refine ⟨?_, a, ha, ?_, ?_, .int .i64 z.vid, ?_, ?_⟩
        · rw [wrap_u64 (by omega) (by omega)]; omega
        · show 0 ≤ IntKind.i64.wrap ((IntKind.u64.wrap o.vid).tmod (IntKind.u64.wrap (vls.length : Int)))
          rw [em]; omega
        · show IntKind.i64.wrap ((IntKind.u64.wrap o.vid).tmod (IntKind.u64.wrap (vls.length : Int))) < (vls.length : Int)
          rw [em]; omega
        · show cell h9 ((a.add ((IntKind.i64.wrap ((IntKind.u64.wrap o.vid).tmod (IntKind.u64.wrap (vls.length : Int)))).toNat * 3)).add 0) = _
          rw [em, Int.toNat_natCast]; exact hrd.get 0 rfl
        refine ⟨rfl, rfl, canset_blk hob9 rfl, fun h10 s10 => ?_⟩
        refine ⟨(), ⟨rfl, rfl, rfl, trivial⟩, ?_, s10.blk hpb9 ne1, s10.blk hrb9 ne2, x9.stored s10 gob⟩
        have e : vd = z.vid := by
          rw [← hvd, if_pos ⟨g, by omega⟩, hm, Int.toNat_natCast, List.getD_eq_getElem?_getD, hz]; rfl
        rw [e]
        exact s10.put hob9
      · have g2 : ¬ (vls.length : Int) > 0 := of_decide_eq_false g2
        exact ⟨(), ⟨rfl, rfl, rfl, trivial⟩, by rw [no (by omega)]; exact hob9, hpb9, hrb9, x9⟩
    · have g : (k == 9) = false := g
      have g : ¬ k = 9 := by simpa using g
      exact ⟨(), ⟨rfl, rfl, rfl, trivial⟩, by rw [no (by omega)]; exact hob9, hpb9, hrb9, x9⟩
  rintro _ h10 ⟨hob10, hpb10, hrb10, x10⟩
  have fin : ∀ (k' : Int) (g : Heap), k' = (if fixK o = 9 ∧ vls.length = 0 then 8 else fixK o) → (encO17 { o with kind := k', port := pt, vid := vd, state := o.state % 18446744073709551616 % 5, kvid := fixVid o.kvid, mac := fixMac o.mac }) = encO17 (fixOp P vls o) := by
    intro k' g e
    unfold fixOp
    rw [← hvd, ← hpt, e, hk]
  refine ⟨Unit, fun _ => [(2, .pointer (some ⟨ob, 0, none⟩)), (4, .pointer (some ⟨rb, 0, none⟩))], fun _ h' => h'[ob]? = some (.cells (encO17 (fixOp P vls o)).toArray 58 (0, 0)) ∧ h'[rb]? = some (.cells (encO17 op0).toArray 58 (0, 0)) ∧ Ext h h', ?_, ?_⟩
  · repeat (first | refine ⟨_, cell_blk (hob10) rfl, ?_⟩)
    refine xif_of (fun g => ?_) (fun g => ?_)
    · have g : (k == 9) = true := g
      have g : k = 9 := by simpa using g
      repeat (first | refine ⟨_, cell_blk (hpb10) rfl, ?_⟩)
      refine xif_of (fun g2 => ?_) (fun g2 => ?_)
      · have g2 : ((vls.length : Int) == 0) = true := g2
        have g2 : vls.length = 0 := by simpa using g2
        refine ⟨rfl, rfl, canset_blk hob10 rfl, fun h11 s11 => ?_⟩
        refine ⟨(), ⟨rfl, rfl, trivial⟩, ?_, s11.blk hrb10 ne2, x10.stored s11 gob⟩
        rw [← fin 8 h11 (by rw [hk, if_pos ⟨g, g2⟩])]
        exact s11.put hob10
      · have g2 : ((vls.length : Int) == 0) = false := g2
        have g2 : ¬ vls.length = 0 := by simpa using g2
        exact ⟨(), ⟨rfl, rfl, trivial⟩, by rw [← fin k h10 (by rw [hk, if_neg (by omega)])]; exact hob10, hrb10, x10⟩
    · have g : (k == 9) = false := g
      have g : ¬ k = 9 := by simpa using g
      exact ⟨(), ⟨rfl, rfl, trivial⟩, by rw [← fin k h10 (by rw [hk, if_neg (by omega)])]; exact hob10, hrb10, x10⟩
  rintro _ h11 ⟨hob11, hrb11, x11⟩
  refine ⟨encO17 (fixOp P vls o), rfl, reads_all hob11, rfl, rfl, canset_blk hrb11 rfl, fun h12 s12 => ?_⟩
  have hrb12 : h12[rb]? = some (.cells (encO17 (fixOp P vls o)).toArray 58 (0, 0)) := s12.put hrb11
  exact ⟨_, rfl, reads_all hrb12, rfl, x11.stored s12 grb⟩
end Go.Proofs.YthoikbogkhpciaaGreatE
