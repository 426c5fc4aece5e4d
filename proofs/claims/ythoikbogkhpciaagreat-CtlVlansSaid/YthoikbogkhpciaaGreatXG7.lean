/- A VLAN is set, from the first lock to the last one: how all is, step by step. Conditions: all locks are free. -/
import Derived.Test.YthoikbogkhpciaaGreatXG6
set_option linter.unusedVariables false
set_option linter.unusedSimpArgs false
set_option maxRecDepth 100000
namespace Go.Proofs.YthoikbogkhpciaaGreatE
open Go Go.Proofs
def env_cMembers : Nat → Ann
  | 4 => ⟨.op 0 [] <| .op 1 [] <| .op 2 [] <| .op 3 [] <| .op 4 [] <| .op 5 [] <| .op 6 [3] <| .op 7 [] <| .op 8 [] <| .nil, [0, 1, 3, 7, 0, 0, 48, 127, 255], false⟩
  | _ => ⟨.nil, [], false⟩
def env_cUntagged : Nat → Ann
  | 4 => ⟨.op 0 [] <| .op 1 [] <| .op 2 [] <| .op 3 [] <| .op 4 [] <| .op 5 [] <| .op 6 [3] <| .op 7 [] <| .op 8 [] <| .op 9 [] <| .nil, [0, 1, 3, 7, 0, 0, 48, 112, 255, 511], false⟩
  | _ => ⟨.nil, [], false⟩
theorem hasM_and {a b : Int} {q : Nat} (ha : SetWf a) (hb : SetWf b) : hasM (andM a b) q = (hasM a q && hasM b q) := by
  have e : (andM a b).toNat = a.toNat &&& b.toNat := by unfold andM; simp
  unfold hasM
  rw [e, Nat.testBit_and]
  cases decide (0 ≤ (q : Int) ∧ (q : Int) < 64) <;> simp
theorem hasM_all {P q : Nat} (hq : q < 64) : hasM (allM P) q = decide (q < P) := by
  unfold hasM
  rw [show decide (0 ≤ (q : Int) ∧ (q : Int) < 64) = true from decide_eq_true ⟨by omega, by omega⟩, Int.toNat_natCast, allM_bit hq, Bool.true_and]
  rw [Bool.eq_iff_iff, decide_eq_true_iff, decide_eq_true_iff]
  omega
theorem findV_mem {vid : Int} : ∀ (l : List Vl) (i : Nat), (∃ w ∈ l, w.vid = vid) → findV vid l i ≠ -1
  | [], _, ⟨_, h, _⟩ => by cases h
  | w :: l, i, ⟨y, hy, e⟩ => by
    unfold findV
    split
    · omega
    · rename_i hn
      rcases List.mem_cons.1 hy with h | h
      · subst h; exact absurd e hn
      · exact findV_mem l (i + 1) ⟨y, h, e⟩
/-- A VLAN is set: behind k steps. -/
def SetV (h0 : Heap) (B : Nat) (F : Fb) (ab : Nat) (M : MemS) (o : Op17) (who : Int) (i k : Nat) (h : Heap) : Prop :=
  ChgT B TyC h0 h ∧ ∃ x M' E, CaS h B F ab x (List.range F.P) M' E ∧ x.o = o ∧ x.who = who ∧ M'.t = M.t + k ∧ M'.locks.length = M.locks.length ∧ (∀ p, p < F.P → M'.locks[p]? = some (if p < x.held then who else -1)) ∧
    ((k ≤ F.P ∧ x.held = k ∧ M'.cells = M.cells ∧ x.next = .func (.func (if k < F.P then 69 else 114)) #[] #[]) ∨
     (k = F.P + 1 ∧ x.held = F.P ∧ M'.cells = M.cells.set (F.P + 2 * i + 1) (andM o.unt (andM o.mem (allM F.P))) ∧ x.next = .func (.func 158) #[] #[]) ∨
     (E.ans = 1 ∧ M'.cells = (M.cells.set (F.P + 2 * i + 1) (andM o.unt (andM o.mem (allM F.P)))).set (F.P + 2 * i) (andM o.mem (allM F.P)) ∧ ∃ j, k = F.P + 2 + j ∧ j ≤ F.P ∧ x.held = F.P - j ∧ x.next = if j < F.P then .func (.func 187) #[] #[] else .nilFunc))
theorem setV_step {h0 h : Heap} {B : Nat} {F : Fb} {ab : Nat} {M : MemS} {o : Op17} {who : Int} {i k : Nat} (hw : 0 ≤ who) (hk9 : o.kind = 9) (hi : findV o.vid F.vls 0 = (i : Int)) (hv : i < F.vls.length) (wm : SetWf o.mem) (wu : SetWf o.unt) (hc : F.P + 2 * i + 1 < M.cells.length) (ht : M.t < 800000) (hk : k < 2 * F.P + 2) (H : SetV h0 B F ab M o who i k h) :
    HCalls Tryz.prog 29 #[.pointer (some ⟨ab, 0, none⟩)] h (fun v h' => v = .bool (k + 1 == 2 * F.P + 2) ∧ SetV h0 B F ab M o who i (k + 1) h') := by
  obtain ⟨c0, x, M', E, S, xo, xw, hT, hL, hlk, H⟩ := H
  have p1 := S.fab.p1
  have p2 := S.fab.p2
  rcases H with ⟨hkP, hh, hcs, hn⟩ | ⟨hkP, hh, hcs, hn⟩ | ⟨hE, hcs, j, hkj, hj, hh, hn⟩
  · rcases Nat.lt_or_ge k F.P with h1 | h1
    · rw [if_pos h1] at hn
      have hl : M'.locks[k]? = some (-1) := by rw [hlk k h1, if_neg (by omega)]
      refine (aStep_of (cap := []) (K := fun _ => True) (x' := { x with held := x.held + 1 }) (M' := { M' with locks := M'.locks.set k x.who, t := M'.t + 1 }) (E' := E) (.func (.func (if k + 1 < F.P then 69 else 114)) #[] #[]) false S hn (.inr ⟨_, _, rfl, rfl⟩) ((aLock_spec S (p := k) (by rw [hh]; exact List.getElem?_range h1) h1 hl (by omega)).mono ?_) (fun _ _ _ _ => trivial)).mono ?_
      · rintro v h2 ⟨rfl, S1, c1⟩
        refine ⟨?_, S1, c1, trivial⟩
        rw [hh, List.length_range]
        by_cases h2 : k + 1 < F.P
        · rw [if_pos h2, if_pos h2]
        · rw [if_neg h2, if_neg h2, if_pos (by rw [xo]; exact hk9)]
      · rintro v h2 ⟨rfl, S1, c1, _⟩
        refine ⟨?_, c0.trans c1, _, _, _, S1, xo, xw, by show M'.t + 1 = M.t + (k + 1); omega, by show (M'.locks.set k x.who).length = _; rw [List.length_set]; exact hL, fun p hp => ?_, .inl ⟨h1, by show x.held + 1 = k + 1; rw [hh], hcs, rfl⟩⟩
        · rw [show (k + 1 == 2 * F.P + 2) = false from beq_eq_false_iff_ne.2 (by omega)]
        · show (M'.locks.set k x.who)[p]? = some (if p < x.held + 1 then who else -1)
          by_cases e : p = k
          · subst e
            rw [List.getElem?_set_self (List.getElem?_eq_some_iff.1 hl).1, if_pos (by omega), xw]
          · rw [List.getElem?_set_ne (Ne.symm e), hlk p hp]
            congr 1
            by_cases g : p < x.held
            · rw [if_pos g, if_pos (by omega)]
            · rw [if_neg g, if_neg (by omega)]
    · have e : k = F.P := by omega
      rw [if_neg (by omega)] at hn
      refine (aStep_of (cap := []) (K := fun _ => True) (x' := x) (M' := { M' with cells := M'.cells.set (F.P + 2 * i + 1) (andM x.o.unt (andM x.o.mem (allM F.P))), t := M'.t + 1 }) (E' := E) (.func (.func 158) #[] #[]) false S hn (.inr ⟨_, _, rfl, rfl⟩) ((aBare_spec S (i := i) (by rw [xo]; exact hi) hv (by rw [xo]; exact wm) (by rw [xo]; exact wu) (by rw [hcs]; exact hc) (by omega)).mono ?_) (fun _ _ _ _ => trivial)).mono ?_
      · rintro v h2 ⟨rfl, S1, c1⟩
        exact ⟨rfl, S1, c1, trivial⟩
      · rintro v h2 ⟨rfl, S1, c1, _⟩
        refine ⟨?_, c0.trans c1, _, _, _, S1, xo, xw, by show M'.t + 1 = M.t + (k + 1); omega, hL, hlk, .inr (.inl ⟨by omega, by rw [← e]; exact hh, ?_, rfl⟩)⟩
        · rw [show (k + 1 == 2 * F.P + 2) = false from beq_eq_false_iff_ne.2 (by omega)]
        · show M'.cells.set _ (andM x.o.unt (andM x.o.mem (allM F.P))) = _
          rw [hcs, xo]
  · refine (aStep_of (cap := []) (K := fun _ => True) (x' := x) (M' := { M' with cells := M'.cells.set (F.P + 2 * i) (andM x.o.mem (allM F.P)), t := M'.t + 1 }) (E' := { E with mark := ((M'.t + 1 : Nat) : Int), fin := ((M'.t + 1 : Nat) : Int), ans := 1 }) (.func (.func 187) #[] #[]) false S hn (.inr ⟨_, _, rfl, rfl⟩) ((aMembers_spec S (i := i) (by rw [xo]; exact hi) hv (by rw [xo]; exact wm) (by rw [hcs, List.length_set]; omega) (by omega)).mono ?_) (fun _ _ _ _ => trivial)).mono ?_
    · rintro v h2 ⟨rfl, S1, c1⟩
      exact ⟨rfl, S1, c1, trivial⟩
    · rintro v h2 ⟨rfl, S1, c1, _⟩
      refine ⟨?_, c0.trans c1, _, _, _, S1, xo, xw, by show M'.t + 1 = M.t + (k + 1); omega, hL, hlk, .inr (.inr ⟨rfl, ?_, 0, by omega, by omega, hh, by rw [if_pos (by omega)]⟩)⟩
      · rw [show (k + 1 == 2 * F.P + 2) = false from beq_eq_false_iff_ne.2 (by omega)]
      · show M'.cells.set _ (andM x.o.mem (allM F.P)) = _
        rw [hcs, xo]
  · have hjP : j < F.P := by omega
    rw [if_pos hjP] at hn
    obtain ⟨m, hm⟩ : ∃ m, F.P - j = m + 1 := ⟨F.P - j - 1, by omega⟩
    have hl : M'.locks[m]? = some x.who := by rw [hlk m (by omega), if_pos (by omega), xw]
    refine (aStep_of (cap := []) (K := fun _ => True) (x' := { x with held := m }) (M' := { M' with locks := M'.locks.set m (-1), t := M'.t + 1 }) (E' := E) (if 0 < m then .func (.func 187) #[] #[] else .nilFunc) (decide (m = 0)) S hn ?_ ((aUnlock_spec S (k := m) (by rw [hh, hm]) (p := m) (List.getElem?_range (by omega)) (by omega) hl (by omega)).mono ?_) (fun _ _ _ _ => trivial)).mono ?_
    · by_cases g : 0 < m
      · rw [if_pos g]
        exact .inr ⟨_, _, rfl, decide_eq_false (by omega)⟩
      · rw [if_neg g]
        exact .inl ⟨rfl, decide_eq_true (by omega)⟩
    · rintro v h2 ⟨rfl, S1, c1⟩
      exact ⟨rfl, S1, c1, trivial⟩
    · rintro v h2 ⟨rfl, S1, c1, _⟩
      refine ⟨?_, c0.trans c1, _, _, _, S1, xo, xw, by show M'.t + 1 = M.t + (k + 1); omega, by show (M'.locks.set m (-1)).length = _; rw [List.length_set]; exact hL, fun p hp => ?_, .inr (.inr ⟨hE, hcs, j + 1, by omega, by omega, by show m = F.P - (j + 1); omega, ?_⟩)⟩
      · congr 1
        rw [Bool.eq_iff_iff, decide_eq_true_iff, beq_iff_eq]
        omega
      · show (M'.locks.set m (-1))[p]? = some (if p < m then who else -1)
        by_cases e : p = m
        · subst e
          rw [List.getElem?_set_self (List.getElem?_eq_some_iff.1 hl).1, if_neg (by omega)]
        · rw [List.getElem?_set_ne (Ne.symm e), hlk p hp]
          congr 1
          by_cases g : p < m
          · rw [if_pos g, if_pos (by omega)]
          · rw [if_neg g, if_neg (by omega)]
      · show (if 0 < m then _ else _) = (if j + 1 < F.P then _ else _)
        by_cases g : 0 < m
        · rw [if_pos g, if_pos (by omega)]
        · rw [if_neg g, if_neg (by omega)]
section
variable {h : Heap} {F : Fb} {M : MemS}
theorem cMembers_spec (H : FabAt h F) (HM : MemAt h F.mb F.cb F.lb M) {vid : Int} {i : Nat} (hi : findV vid F.vls 0 = (i : Int)) (hv : i ≤ 1000) {y : Int} (hx : M.cells[F.P + 2 * i]? = some y) (ht : M.t < 1000000) : HCalls Tryz.prog 35 #[.pointer (some ⟨F.fb, 0, none⟩), .int .i64 vid] h (fun v h' => v = .int .u64 y ∧ MemAt h' F.mb F.cb F.lb { M with t := M.t + 1 } ∧ Chg (ML F.mb F.cb F.lb) h h') := by
  refine xcalls env_cMembers Tryz.func35 rfl (by kernel_rfl) rfl (by kernel_rfl) ?_
  refine (cVlan_spec H vid).mono ?_
  rintro v h1 ⟨rfl, x1⟩
  rw [hi]
  obtain ⟨RA, rc, hb', hr⟩ := (H.ext x1).blk
  repeat (first | refine ⟨_, cell_blk (hb') rfl, ?_⟩)
  refine (cVlanAt_fab (H.ext x1) (i := i) hv).mono ?_
  rintro v h2 ⟨rfl, rfl⟩
  try (refine ⟨by ((repeat (first | refine ⟨cell_blk (hb') rfl, ?_⟩)); exact trivial), ?_⟩)
  refine (mLoad_spec (HM.ext x1) hx ht).mono ?_
  rintro v h3 ⟨rfl, m3, c3⟩
  exact ⟨rfl, m3, (x1.chg _).trans (c3.mono (by first | (simp; done) | (intro p hp; simp [hp]; done) | (simp [ML]; done) | (intro p hp; simp [ML] at hp ⊢; rcases hp with h | h | h <;> simp [h]; done)))⟩
theorem cUntagged_spec (H : FabAt h F) (HM : MemAt h F.mb F.cb F.lb M) {vid : Int} {i : Nat} (hi : findV vid F.vls 0 = (i : Int)) (hv : i ≤ 1000) {y : Int} (hx : M.cells[F.P + 2 * i + 1]? = some y) (ht : M.t < 1000000) : HCalls Tryz.prog 36 #[.pointer (some ⟨F.fb, 0, none⟩), .int .i64 vid] h (fun v h' => v = .int .u64 y ∧ MemAt h' F.mb F.cb F.lb { M with t := M.t + 1 } ∧ Chg (ML F.mb F.cb F.lb) h h') := by
  have p2 := H.p2
  refine xcalls env_cUntagged Tryz.func36 rfl (by kernel_rfl) rfl (by kernel_rfl) ?_
  refine (cVlan_spec H vid).mono ?_
  rintro v h1 ⟨rfl, x1⟩
  rw [hi]
  obtain ⟨RA, rc, hb', hr⟩ := (H.ext x1).blk
  repeat (first | refine ⟨_, cell_blk (hb') rfl, ?_⟩)
  refine (cVlanAt_fab (H.ext x1) (i := i) hv).mono ?_
  rintro v h2 ⟨rfl, rfl⟩
  try (refine ⟨by ((repeat (first | refine ⟨cell_blk (hb') rfl, ?_⟩)); exact trivial), ?_⟩)
  refine (mLoad_at (HM.ext x1) (i := F.P + 2 * i + 1) (wrap_add1 _ (by omega)) hx ht).mono ?_
  rintro v h3 ⟨rfl, m3, c3⟩
  exact ⟨rfl, m3, (x1.chg _).trans (c3.mono (by first | (simp; done) | (intro p hp; simp [hp]; done) | (simp [ML]; done) | (intro p hp; simp [ML] at hp ⊢; rcases hp with h | h | h <;> simp [h]; done)))⟩
end
end Go.Proofs.YthoikbogkhpciaaGreatE
