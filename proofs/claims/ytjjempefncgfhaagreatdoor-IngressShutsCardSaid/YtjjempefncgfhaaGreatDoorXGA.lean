/- Rings, and what waits in each: a number is taken, a number is put. Conditions: none. -/
import Derived.Test.YtjjempefncgfhaaGreatDoorXG3
set_option linter.unusedVariables false
set_option linter.unusedSimpArgs false
set_option maxRecDepth 100000
namespace Go.Proofs.YtjjempefncgfhaaGreatDoorE
open Go Go.Proofs
def env_rSome2 : Nat → Ann
  | 1 => ⟨.op 0 [] <| .op 1 [] <| .op 2 [] <| .op 3 [] <| .op 4 [] <| .op 5 [] <| .op 6 [] <| .op 7 [] <| .op 8 [] <| .op 9 [] <| .op 10 [] <| .op 11 [] <| .op 12 [] <| .op 13 [] <| .op 14 [] <| .op 16 [] <| .op 17 [] <| .op 18 [] <| .op 19 [] <| .op 20 [] <| .op 21 [] <| .op 22 [] <| .op 15 [19, 22] <| .op 23 [] <| .nil, [0, 1, 3, 7, 15, 31, 63, 0, 128, 384, 896, 1920, 3968, 8064, 16256, 32767, 0, 65536, 196608, 458752, 983040, 2031616, 4128768, 8388607], false⟩
  | _ => ⟨.nil, [], false⟩
theorem mul_lt_ne {u u' o o' n : Nat} (h : u ≠ u') (ho : o < n) (ho' : o' < n) : u * n + o ≠ u' * n + o' := by
  have key : ∀ a b : Nat, a < b → a * n + n ≤ b * n := by
    intro a b hab
    have h1 : (a + 1) * n ≤ b * n := Nat.mul_le_mul_right _ hab
    rw [Nat.add_mul, Nat.one_mul] at h1
    exact h1
  rcases Nat.lt_or_gt_of_ne h with h1 | h1
  · have := key _ _ h1; omega
  · have := key _ _ h1; omega
theorem bs_ne2 {b0 P S a b a' b' o o' : Nat} (hb : b < P) (hb' : b' < P) (h : ¬ (a' = a ∧ b' = b)) (ho : o < S + 2) (ho' : o' < S + 2) : bs b0 P S b a + o ≠ bs b0 P S b' a' + o' := by
  have e : a * P + b ≠ a' * P + b' := by
    by_cases g : a = a'
    · subst g
      intro e
      exact h ⟨rfl, by omega⟩
    · exact mul_lt_ne g hb hb'
  have := mul_lt_ne e ho ho'
  unfold bs
  omega
theorem mod_two {x S : Nat} (h : x < 2 * S) : x % S = if x < S then x else x - S := by
  split
  · exact Nat.mod_eq_of_lt ‹_›
  · rw [Nat.mod_eq_sub_mod (by omega), Nat.mod_eq_of_lt (by omega)]
/-- A ring's cells, what its ends know, and what waits in it. -/
structure RQ (b0 P S a b : Nat) (cs : List Int) (R : RS) (l : List Int) : Prop where
  base : R.base = bs b0 P S b a
  size : R.size = S
  len : l.length ≤ S
  ic : R.ic = R.oc + l.length
  oa : R.oa < S
  ia : R.ia = (R.oa + l.length) % S
  cp : cs[bs b0 P S b a]? = some (R.ic : Int)
  ct : cs[bs b0 P S b a + 1]? = some (R.oc : Int)
  cx : ∀ i x, l[i]? = some x → cs[bs b0 P S b a + (2 + (R.oa + i) % S)]? = some x
section
variable {b0 P S a b : Nat} {cs cs' : List Int} {R : RS} {l : List Int} {y : Int}
theorem RQ.other (Q : RQ b0 P S a b cs R l) (h : ∀ o, o < S + 2 → cs'[bs b0 P S b a + o]? = cs[bs b0 P S b a + o]?) : RQ b0 P S a b cs' R l := by
  have hS : 0 < S := by have := Q.oa; omega
  refine ⟨Q.base, Q.size, Q.len, Q.ic, Q.oa, Q.ia, ?_, ?_, fun i x hx => ?_⟩
  · have := h 0 (by omega); rw [Nat.add_zero] at this; rw [this]; exact Q.cp
  · rw [h 1 (by omega)]; exact Q.ct
  · have := Nat.mod_lt (R.oa + i) hS
    rw [h _ (by omega)]; exact Q.cx i x hx
theorem RQ.head (Q : RQ b0 P S a b cs R (y :: l)) : cs[bs b0 P S b a + (2 + R.oa)]? = some y := by
  have := Q.cx 0 y rfl
  rw [Nat.add_zero, Nat.mod_eq_of_lt Q.oa] at this
  exact this
theorem RQ.pop (Q : RQ b0 P S a b cs R (y :: l)) {ob : Bool} {m : Nat} (hm : m = (R.oa + 1) % S) : RQ b0 P S a b (cs.set (bs b0 P S b a + 1) ((R.oc + 1 : Nat) : Int)) { R with oc := R.oc + 1, oa := m, ob := ob } l := by
  subst hm
  have hS : 0 < S := by have := Q.oa; omega
  have hl := (List.getElem?_eq_some_iff.1 Q.ct).1
  have ql := Q.len
  have qi := Q.ic
  have qa := Q.ia
  rw [List.length_cons] at ql qi qa
  refine ⟨Q.base, Q.size, by omega, by show R.ic = R.oc + 1 + l.length; omega, Nat.mod_lt _ hS, ?_, ?_, List.getElem?_set_self hl, fun i x hx => ?_⟩
  · show R.ia = ((R.oa + 1) % S + l.length) % S
    rw [Nat.mod_add_mod, qa]
    congr 1; omega
  · rw [List.getElem?_set_ne (by omega)]; exact Q.cp
  · show (cs.set _ _)[bs b0 P S b a + (2 + ((R.oa + 1) % S + i) % S)]? = some x
    rw [List.getElem?_set_ne (by omega), Nat.mod_add_mod, show R.oa + 1 + i = R.oa + (i + 1) by omega]
    exact Q.cx (i + 1) x hx
theorem RQ.lay (Q : RQ b0 P S a b cs R l) (hl : l.length < S) (hlen : bs b0 P S b a + (2 + R.ia) < cs.length) : RQ b0 P S a b (cs.set (bs b0 P S b a + (2 + R.ia)) y) R l ∧ (cs.set (bs b0 P S b a + (2 + R.ia)) y)[bs b0 P S b a + (2 + R.ia)]? = some y := by
  have qo := Q.oa
  refine ⟨⟨Q.base, Q.size, Q.len, Q.ic, Q.oa, Q.ia, ?_, ?_, fun i x hx => ?_⟩, List.getElem?_set_self hlen⟩
  · rw [List.getElem?_set_ne (by omega)]; exact Q.cp
  · rw [List.getElem?_set_ne (by omega)]; exact Q.ct
  · have hi := (List.getElem?_eq_some_iff.1 hx).1
    have e := Q.ia
    rw [mod_two (by omega)] at e
    rw [List.getElem?_set_ne ?_]
    · exact Q.cx i x hx
    rw [mod_two (x := R.oa + i) (by omega)]
    split at e <;> split <;> omega
theorem RQ.tell (Q : RQ b0 P S a b cs R l) (hl : l.length < S) (hx : cs[bs b0 P S b a + (2 + R.ia)]? = some y) {ib : Bool} {m : Nat} (hm : m = (R.ia + 1) % S) : RQ b0 P S a b (cs.set (bs b0 P S b a) ((R.ic + 1 : Nat) : Int)) { R with ic := R.ic + 1, ia := m, ib := ib } (l ++ [y]) := by
  subst hm
  have hS : 0 < S := by have := Q.oa; omega
  have hlt := (List.getElem?_eq_some_iff.1 Q.cp).1
  have qi := Q.ic
  refine ⟨Q.base, Q.size, by rw [List.length_append]; exact hl, by rw [List.length_append]; show R.ic + 1 = R.oc + (l.length + 1); omega, Q.oa, ?_, List.getElem?_set_self hlt, ?_, fun i x hi => ?_⟩
  · show (R.ia + 1) % S = (R.oa + (l ++ [y]).length) % S
    rw [List.length_append, Q.ia, Nat.mod_add_mod]
    rfl
  · rw [List.getElem?_set_ne (by omega)]; exact Q.ct
  · show (cs.set _ _)[bs b0 P S b a + (2 + (R.oa + i) % S)]? = some x
    rw [List.getElem?_set_ne (by omega)]
    have hi2 := (List.getElem?_eq_some_iff.1 hi).1
    rw [List.length_append, List.length_singleton] at hi2
    rcases Nat.lt_or_ge i l.length with g | g
    · rw [List.getElem?_append_left g] at hi
      exact Q.cx i x hi
    · have e : i = l.length := by omega
      subst e
      rw [List.getElem?_append_right (Nat.le_refl _), Nat.sub_self] at hi
      rw [← Q.ia, hx]; exact hi
end
/-- All rings of a fabric, what waits in each, and which ends are at work. -/
structure Rings (h : Heap) (B : Nat) (F : Fb) (M : MemS) (L : Nat → Nat → List Int) (ib ob : Nat → Nat → Bool) : Prop where
  ring : ∀ a b, a < F.P → b < F.P → ∃ R, RingAt h (F.rb a b) F.mb R ∧ RQ F.b0 F.P F.S a b M.cells R (L a b) ∧ R.ic ≤ M.t ∧ R.ib = ib a b ∧ R.ob = ob a b
  inj : ∀ a b a' b', a < F.P → b < F.P → a' < F.P → b' < F.P → F.rb a b = F.rb a' b' → a = a' ∧ b = b'
  ge : ∀ a b, a < F.P → b < F.P → B ≤ F.rb a b
  len : F.b0 + F.P * F.P * (F.S + 2) = M.cells.length
  big : M.cells.length < 10000000
def no2 : Nat → Nat → Bool := fun _ _ => false
def up2 {α : Type} (f : Nat → Nat → α) (a b : Nat) (x : α) : Nat → Nat → α := fun a' b' => if a' = a ∧ b' = b then x else f a' b'
theorem up2_self {α : Type} {f : Nat → Nat → α} {a b : Nat} {x : α} : up2 f a b x a b = x := by unfold up2; rw [if_pos ⟨rfl, rfl⟩]
theorem up2_ne {α : Type} {f : Nat → Nat → α} {a b a' b' : Nat} {x : α} (h : ¬ (a' = a ∧ b' = b)) : up2 f a b x a' b' = f a' b' := by unfold up2; rw [if_neg h]
theorem up2_up2 {α : Type} {f : Nat → Nat → α} {a b : Nat} {x y : α} : up2 (up2 f a b x) a b y = up2 f a b y := by
  funext a' b'
  by_cases h : a' = a ∧ b' = b
  · obtain ⟨rfl, rfl⟩ := h; rw [up2_self, up2_self]
  · rw [up2_ne h, up2_ne h, up2_ne h]
theorem up2_id {α : Type} {f : Nat → Nat → α} {a b : Nat} {x : α} (h : f a b = x) : up2 f a b x = f := by
  funext a' b'
  by_cases g : a' = a ∧ b' = b
  · obtain ⟨rfl, rfl⟩ := g; rw [up2_self, h]
  · rw [up2_ne g]
section
variable {h h' : Heap} {B : Nat} {F : Fb} {M : MemS} {L : Nat → Nat → List Int} {ib ob : Nat → Nat → Bool}
theorem Rings.same (W : Rings h B F M L ib ob) {l : List (Nat × TypeId)} (c : Chg l h h') (hl : ∀ k, (k, 252) ∉ l) {M' : MemS} (e : M'.cells.length = M.cells.length) (e2 : ∀ k, F.b0 ≤ k → M'.cells[k]? = M.cells[k]?) (e3 : M.t ≤ M'.t := by first | exact Nat.le_refl _ | exact Nat.le_succ _ | omega) : Rings h' B F M' L ib ob := by
  refine ⟨fun a b ha hb => ?_, W.inj, W.ge, by rw [e]; exact W.len, by rw [e]; exact W.big⟩
  obtain ⟨R, r, q, i, x, y⟩ := W.ring a b ha hb
  exact ⟨R, c.blk r (hl _), q.other fun o ho => e2 _ (by unfold bs; omega), Nat.le_trans i e3, x, y⟩
theorem Rings.ext (W : Rings h B F M L ib ob) (x : Ext h h') : Rings h' B F M L ib ob := W.same (x.chg []) (by simp) rfl fun _ _ => rfl
theorem Rings.typ (W : Rings h B F M L ib ob) {B' : Nat} {TY : List TypeId} (c : ChgT B' TY h h') (hl : 252 ∉ TY) {M' : MemS} (e : M'.cells.length = M.cells.length) (e2 : ∀ k, F.b0 ≤ k → M'.cells[k]? = M.cells[k]?) (e3 : M.t ≤ M'.t := by first | exact Nat.le_refl _ | exact Nat.le_succ _ | omega) : Rings h' B F M' L ib ob := by
  refine ⟨fun a b ha hb => ?_, W.inj, W.ge, by rw [e]; exact W.len, by rw [e]; exact W.big⟩
  obtain ⟨R, r, q, i, x, y⟩ := W.ring a b ha hb
  exact ⟨R, c.typ _ _ _ _ r hl, q.other fun o ho => e2 _ (by unfold bs; omega), Nat.le_trans i e3, x, y⟩
/-- One ring goes on. -/
theorem Rings.one (W : Rings h B F M L ib ob) {l : List (Nat × TypeId)} (c : Chg l h h') {a b : Nat} (ha : a < F.P) (hb : b < F.P) (hl : ∀ k, (k, 252) ∈ l → k = F.rb a b) {M' : MemS} {R' : RS} {q' : List Int} {i' o' : Bool} (r : RingAt h' (F.rb a b) F.mb R') (e : M'.cells.length = M.cells.length)
    (e2 : ∀ k, (∀ o, o < F.S + 2 → k ≠ bs F.b0 F.P F.S b a + o) → M'.cells[k]? = M.cells[k]?) (Q : RQ F.b0 F.P F.S a b M'.cells R' q') (small : R'.ic ≤ M'.t) (hi : R'.ib = i') (ho : R'.ob = o') (e3 : M.t ≤ M'.t := by first | exact Nat.le_refl _ | exact Nat.le_succ _ | omega) : Rings h' B F M' (up2 L a b q') (up2 ib a b i') (up2 ob a b o') := by
  refine ⟨fun a' b' ha' hb' => ?_, W.inj, W.ge, by rw [e]; exact W.len, by rw [e]; exact W.big⟩
  by_cases g : a' = a ∧ b' = b
  · obtain ⟨rfl, rfl⟩ := g
    exact ⟨R', r, by rw [up2_self]; exact Q, small, by rw [up2_self]; exact hi, by rw [up2_self]; exact ho⟩
  · obtain ⟨R, r1, q1, i, x, y⟩ := W.ring a' b' ha' hb'
    refine ⟨R, c.blk r1 (fun m => g ?_), ?_, Nat.le_trans i e3, by rw [up2_ne g]; exact x, by rw [up2_ne g]; exact y⟩
    · exact W.inj _ _ _ _ ha' hb' ha hb (hl _ m)
    · rw [up2_ne g]
      exact q1.other fun o ho => e2 _ fun o' ho' e => bs_ne2 hb hb' g ho' ho e.symm
end
section
variable {h h' : Heap} {ab mb cb lb : Nat} {M : MemS} {R : RS} {A : AS}
theorem rSome_no (H : ActAt h ab A) (HR : RingAt h A.rb mb R) (HM : MemAt h mb cb lb M) (he : A.e = 6) (ha : M.cells[R.base]? = some (R.oc : Int)) (h4 : M.cells.length < 100000000) (ht : M.t < 1000000) :
    HCalls Tryz.prog 273 #[.pointer (some ⟨ab, 0, none⟩)] h (fun v h' => v = .bool true ∧ ActAt h' ab { A with ok := false, mark := ((M.t + 1 : Nat) : Int) } ∧ RingAt h' A.rb mb R ∧ MemAt h' mb cb lb { M with t := M.t + 1 } ∧ Chg [(ab, 380), (mb, 205)] h h') := by
  refine xcalls env_rSome2 Tryz.func273 rfl (by kernel_rfl) rfl (by kernel_rfl) ?_
  obtain ⟨rb', e', nx, vl, ok', mk, ov⟩ := A
  simp only at he
  subst he
  have b1 := HM.base_lt ha
  repeat (first | refine ⟨_, cell_blk (H) rfl, ?_⟩ | refine ⟨_, cell_blk (HR) rfl, ?_⟩)
  refine (mLoad_at HM (wrap_add0 R.base (by omega)) ha ht).mono ?_
  rintro v h1 ⟨rfl, M1, c1⟩
  have H1 := c1.blk H (by simp)
  have R1 := c1.blk HR (by simp)
  try (refine ⟨by ((repeat (first | refine ⟨cell_blk (H1) rfl, ?_⟩ | refine ⟨cell_blk (R1) rfl, ?_⟩)); exact trivial), ?_⟩)
  repeat (first | refine ⟨_, cell_blk (H1) rfl, ?_⟩ | refine ⟨_, cell_blk (R1) rfl, ?_⟩)
  refine xif_true ?_ ?_
  · show ((R.oc : Int) == (R.oc : Int)) = true
    simp
  refine (rDone_spec H1 R1 M1 false).mono ?_
  rintro v h2 ⟨rfl, H2, c2⟩
  exact ⟨rfl, H2, c2.blk R1 (by simp), M1.chg c2 (by simp) (by simp) (by simp), (c1.mono (by simp)).trans (c2.mono (by simp))⟩
end
/-- A step of the memory's that leaves what lies ahead of the rings. -/
structure Near (F : Fb) (M M' : MemS) : Prop where
  t : M'.t = M.t + 1
  locks : M'.locks = M.locks
  len : M'.cells.length = M.cells.length
  low : ∀ k, k < F.b0 → M'.cells[k]? = M.cells[k]?
/-- What a taking does next, by what waits. -/
def PopPh (p nx : Nat) (val : Int) (l : List Int) : Prop := (p = 0 ∧ nx = 273) ∨ (p = 1 ∧ nx = 283 ∧ l ≠ []) ∨ (p = 2 ∧ nx = 292 ∧ ∃ y r, l = y :: r ∧ val = y)
section
variable {h h' : Heap} {B : Nat} {F : Fb} {M : MemS} {L : Nat → Nat → List Int} {ib ob : Nat → Nat → Bool}
theorem pop_step (W : Rings h B F M L ib ob) {j q : Nat} (hj : j < F.P) (hq : q < F.P) (ho : ob j q = true) (HM : MemAt h F.mb F.cb F.lb M) (ht : M.t < 1000000) (hS64 : F.S ≤ 64) {pb p nx : Nat} {val : Int} (H : ActAt h pb ⟨F.rb j q, 6, nx, val, false, 0, false⟩) (ph : PopPh p nx val (L j q)) :
    HCalls Tryz.prog 255 #[.pointer (some ⟨pb, 0, none⟩)] h (fun v h' => ∃ M', Near F M M' ∧ MemAt h' F.mb F.cb F.lb M' ∧ Chg ((pb, 380) :: (F.rb j q, 252) :: ML F.mb F.cb F.lb) h h' ∧
      ((v = .bool false ∧ L j q ≠ [] ∧ (∃ nx' val', PopPh (p + 1) nx' val' (L j q) ∧ ActAt h' pb ⟨F.rb j q, 6, nx', val', false, 0, false⟩) ∧ Rings h' B F M' L ib ob) ∨
       (v = .bool true ∧ p = 0 ∧ L j q = [] ∧ (∃ A', ActAt h' pb A' ∧ A'.ok = false) ∧ Rings h' B F M' L ib (up2 ob j q false)) ∨
       (v = .bool true ∧ p = 2 ∧ ∃ y r, L j q = y :: r ∧ (∃ A', ActAt h' pb A' ∧ A'.ok = true ∧ A'.value = y ∧ A'.mark = ((M.t + 1 : Nat) : Int)) ∧ Rings h' B F M' (up2 L j q r) ib (up2 ob j q false)))) := by
  obtain ⟨R, r0, Q, small, hi, hob⟩ := W.ring j q hj hq
  have big := W.big
  have hbase := Q.base
  have hsz := Q.size
  have oa := Q.oa
  have hge : F.b0 ≤ bs F.b0 F.P F.S q j := by unfold bs; omega
  have fab : ∀ k, (k, 252) ∉ (ML F.mb F.cb F.lb) := by intro k hk; simp [ML] at hk
  rcases ph with ⟨rfl, rfl⟩ | ⟨rfl, rfl, hne⟩ | ⟨rfl, rfl, y, r, hl, rfl⟩
  · cases hl : L j q with
    | nil =>
      rw [hl] at Q
      have hic : R.ic = R.oc := Q.ic
      refine (rStep_got (mb := F.mb) (K := fun A' R' h1 => A' = ⟨F.rb j q, 6, 273, val, false, ((M.t + 1 : Nat) : Int), false⟩ ∧ R' = R ∧ MemAt h1 F.mb F.cb F.lb { M with t := M.t + 1 } ∧ Chg [(pb, 380), (F.mb, 205)] h h1) H rfl ((rSome_no H r0 HM rfl (by rw [hbase, ← hic]; exact Q.cp) (by omega) ht).mono ?_)).mono ?_
      · rintro v h1 ⟨rfl, a1, r1, m1, c1⟩
        exact ⟨rfl, _, _, rfl, rfl, a1, r1, rfl, rfl, m1, c1⟩
      · rintro v h2 ⟨rfl, A', R', h1, ⟨rfl, rfl, m1, c1⟩, a2, r2, c2⟩
        have c : Chg ((pb, 380) :: (F.rb j q, 252) :: ML F.mb F.cb F.lb) h h2 := (c1.mono (by first | (simp; done) | (intro p hp; simp [hp]; done) | (simp [ML]; done) | (intro p hp; simp [ML] at hp ⊢; rcases hp with h | h | h <;> simp [h]; done))).trans (c2.mono (by first | (simp; done) | (intro p hp; simp [hp]; done) | (simp [ML]; done) | (intro p hp; simp [ML] at hp ⊢; rcases hp with h | h | h <;> simp [h]; done)))
        refine ⟨{ M with t := M.t + 1 }, ⟨rfl, rfl, rfl, fun _ _ => rfl⟩, m1.chg c2 (by simp) (by simp) (by simp), c, .inr (.inl ⟨rfl, rfl, rfl, ⟨_, a2, rfl⟩, ?_⟩)⟩
        have := W.one (M' := { M with t := M.t + 1 }) (q' := []) (i' := ib j q) (o' := false) c hj hq (by intro k hk; simp [ML] at hk; exact hk) r2 rfl (fun _ _ => rfl) ⟨Q.base, Q.size, Q.len, Q.ic, Q.oa, Q.ia, Q.cp, Q.ct, Q.cx⟩ (Nat.le_succ_of_le small) hi rfl
        rwa [up2_id hl, up2_id rfl] at this
    | cons y r =>
      rw [hl] at Q
      have hic : R.ic = R.oc + (r.length + 1) := Q.ic
      refine (rStep_go (K := fun h1 => ActAt h1 pb ⟨F.rb j q, 6, 283, val, false, 0, false⟩ ∧ MemAt h1 F.mb F.cb F.lb { M with t := M.t + 1 } ∧ Chg [(pb, 380), (F.mb, 205)] h h1) H rfl ((rSome_spec H r0 HM rfl (a := R.ic) (by rw [hbase]; exact Q.cp) (by omega) (by omega) ht).mono ?_)).mono ?_
      · rintro v h1 ⟨rfl, a1, m1, c1⟩
        exact ⟨rfl, ⟨_, rfl, a1⟩, a1, m1, c1⟩
      · rintro v h1 ⟨rfl, a1, m1, c1⟩
        exact ⟨{ M with t := M.t + 1 }, ⟨rfl, rfl, rfl, fun _ _ => rfl⟩, m1, c1.mono (by first | (simp; done) | (intro p hp; simp [hp]; done) | (simp [ML]; done) | (intro p hp; simp [ML] at hp ⊢; rcases hp with h | h | h <;> simp [h]; done)), .inl ⟨rfl, by simp, ⟨_, val, .inr (.inl ⟨rfl, rfl, by simp⟩), a1⟩, W.same c1 (by simp) rfl (fun _ _ => rfl)⟩⟩
  · obtain ⟨y, r, hl⟩ : ∃ y r, L j q = y :: r := by
      cases e : L j q with
      | nil => exact absurd e hne
      | cons y r => exact ⟨y, r, rfl⟩
    rw [hl] at Q
    refine (rStep_go (K := fun h1 => ActAt h1 pb ⟨F.rb j q, 6, 292, y, false, 0, false⟩ ∧ MemAt h1 F.mb F.cb F.lb { M with t := M.t + 1 } ∧ Chg [(pb, 380), (F.mb, 205)] h h1) H rfl ((rGet_spec H r0 HM rfl (x := y) (by rw [hbase]; exact Q.head) (by omega) ht).mono ?_)).mono ?_
    · rintro v h1 ⟨rfl, a1, m1, c1⟩
      exact ⟨rfl, ⟨_, rfl, a1⟩, a1, m1, c1⟩
    · rintro v h1 ⟨rfl, a1, m1, c1⟩
      exact ⟨{ M with t := M.t + 1 }, ⟨rfl, rfl, rfl, fun _ _ => rfl⟩, m1, c1.mono (by first | (simp; done) | (intro p hp; simp [hp]; done) | (simp [ML]; done) | (intro p hp; simp [ML] at hp ⊢; rcases hp with h | h | h <;> simp [h]; done)), .inl ⟨rfl, hne, ⟨_, y, .inr (.inr ⟨rfl, rfl, y, r, hl, rfl⟩), a1⟩, W.same c1 (by simp) rfl (fun _ _ => rfl)⟩⟩
  · rw [hl] at Q
    have hic : R.ic = R.oc + (r.length + 1) := Q.ic
    have hS : 0 < F.S := by omega
    have hlt := (List.getElem?_eq_some_iff.1 Q.ct).1
    refine (rStep_got (mb := F.mb) (K := fun A' R' h1 => A' = ⟨F.rb j q, 6, 292, val, true, ((M.t + 1 : Nat) : Int), false⟩ ∧ R' = { R with oc := R.oc + 1, oa := (R.oa + 1) % R.size } ∧ MemAt h1 F.mb F.cb F.lb { M with cells := M.cells.set (R.base + 1) ((R.oc + 1 : Nat) : Int), t := M.t + 1 } ∧ Chg ((pb, 380) :: (F.rb j q, 252) :: ML F.mb F.cb F.lb) h h1) H rfl ((rLeave_spec H r0 HM rfl (by rw [hbase]; exact hlt) (by omega) (by omega) (by omega) (by omega) (by omega) ht).mono ?_)).mono ?_
    · rintro v h1 ⟨rfl, a1, r1, m1, c1⟩
      exact ⟨rfl, _, _, rfl, rfl, a1, r1, rfl, rfl, m1, c1⟩
    · rintro v h2 ⟨rfl, A', R', h1, ⟨rfl, rfl, m1, c1⟩, a2, r2, c2⟩
      have c : Chg ((pb, 380) :: (F.rb j q, 252) :: ML F.mb F.cb F.lb) h h2 := c1.trans (c2.mono (by first | (simp; done) | (intro p hp; simp [hp]; done) | (simp [ML]; done) | (intro p hp; simp [ML] at hp ⊢; rcases hp with h | h | h <;> simp [h]; done)))
      rw [hbase] at m1
      refine ⟨{ M with cells := M.cells.set (bs F.b0 F.P F.S q j + 1) ((R.oc + 1 : Nat) : Int), t := M.t + 1 }, ⟨rfl, rfl, List.length_set .., fun k hk => List.getElem?_set_ne (by omega)⟩, m1.chg c2 (by simp) (by simp) (by simp), c, .inr (.inr ⟨rfl, rfl, val, r, hl, ⟨_, a2, rfl, rfl, rfl⟩, ?_⟩)⟩
      have := W.one (q' := r) (i' := ib j q) (o' := false) c hj hq (by intro k hk; simp [ML] at hk; exact hk) r2 (M' := { M with cells := M.cells.set (bs F.b0 F.P F.S q j + 1) ((R.oc + 1 : Nat) : Int), t := M.t + 1 }) (List.length_set ..) (fun k hk => List.getElem?_set_ne (hk 1 (by omega)).symm) (Q.pop (by rw [hsz])) (Nat.le_succ_of_le small) hi rfl
      rwa [up2_id rfl] at this
end
end Go.Proofs.YtjjempefncgfhaaGreatDoorE
