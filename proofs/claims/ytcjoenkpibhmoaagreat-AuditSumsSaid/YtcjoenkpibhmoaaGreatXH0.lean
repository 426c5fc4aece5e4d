/- Sorting that keeps the order of equals, over lists. Conditions: none. -/
import Derived.Test.YtcjoenkpibhmoaaGreatXLib
import Derived.Test.YtcjoenkpibhmoaaGreatXN1
set_option linter.unusedVariables false
set_option linter.unusedSimpArgs false
namespace Go.Proofs.YtcjoenkpibhmoaaGreatE
open Go
/-- A strict weak order. -/
structure Swo {α : Type} (lt : α → α → Prop) : Prop where
  asym : ∀ x y, lt x y → ¬ lt y x
  negt : ∀ x y z, ¬ lt y x → ¬ lt z y → ¬ lt z x
/-- One stands ahead of another one: it is less, or it is alike and was ahead. -/
def Lx {α : Type} (lt bf : α → α → Prop) (x y : α) : Prop := lt x y ∨ (¬ lt y x ∧ bf x y)
section
variable {α : Type} {lt bf : α → α → Prop}
theorem Swo.ltle (S : Swo lt) {x y z : α} (h1 : lt x y) (h2 : ¬ lt z y) : lt x z := Classical.byContradiction fun n => S.negt y z x h2 n h1
theorem Swo.lelt (S : Swo lt) {x y z : α} (h1 : ¬ lt y x) (h2 : lt y z) : lt x z := Classical.byContradiction fun n => S.negt z x y n h1 h2
theorem Lx.le (S : Swo lt) {x y : α} (h : Lx lt bf x y) : ¬ lt y x := h.elim (S.asym x y) fun h => h.1
theorem Lx.of_lt {x y : α} (h : lt x y) : Lx lt bf x y := .inl h
theorem Lx.of_le {x y : α} (h : ¬ lt y x) (b : bf x y) : Lx lt bf x y := .inr ⟨h, b⟩
/-- Two lists that are in order, one of them ahead of the other one. -/
theorem pw_app {U V : List α} (hu : U.Pairwise (Lx lt bf)) (hv : V.Pairwise (Lx lt bf)) (h : ∀ x ∈ U, ∀ y ∈ V, Lx lt bf x y) : (U ++ V).Pairwise (Lx lt bf) := List.pairwise_append.2 ⟨hu, hv, h⟩
/-- What is merged out of four parts. -/
theorem pw_four (S : Swo lt) {U1 U2 V1 V2 W1 W2 : List α} (hu : (U1 ++ U2).Pairwise (Lx lt bf)) (hv : (V1 ++ V2).Pairwise (Lx lt bf)) (hb : ∀ x ∈ U1 ++ U2, ∀ y ∈ V1 ++ V2, bf x y)
    (h12 : ∀ x ∈ U1, ∀ y ∈ V2, ¬ lt y x) (h21 : ∀ x ∈ V1, ∀ y ∈ U2, lt x y) (p1 : W1.Perm (U1 ++ V1)) (p2 : W2.Perm (U2 ++ V2)) (s1 : W1.Pairwise (Lx lt bf)) (s2 : W2.Pairwise (Lx lt bf)) : (W1 ++ W2).Pairwise (Lx lt bf) := by
  refine pw_app s1 s2 fun x hx y hy => ?_
  have hx := p1.mem_iff.1 hx
  have hy := p2.mem_iff.1 hy
  rw [List.mem_append] at hx hy
  rcases hx with hx | hx <;> rcases hy with hy | hy
  · exact (List.pairwise_append.1 hu).2.2 x hx y hy
  · exact Lx.of_le (h12 x hx y hy) (hb x (List.mem_append_left _ hx) y (List.mem_append_right _ hy))
  · exact Lx.of_lt (h21 x hx y hy)
  · exact (List.pairwise_append.1 hv).2.2 x hx y hy
/-- Elements in order, by their places. -/
theorem pw_at {U : List α} (hu : U.Pairwise (Lx lt bf)) {i j : Nat} {x y : α} (hi : U[i]? = some x) (hj : U[j]? = some y) (h : i < j) : Lx lt bf x y := by
  obtain ⟨h1, rfl⟩ := List.getElem?_eq_some_iff.1 hi
  obtain ⟨h2, rfl⟩ := List.getElem?_eq_some_iff.1 hj
  exact List.pairwise_iff_getElem.1 hu i j h1 h2 h
theorem le_at (S : Swo lt) {U : List α} (hu : U.Pairwise (Lx lt bf)) {i j : Nat} {x y : α} (hi : U[i]? = some x) (hj : U[j]? = some y) (h : i ≤ j) : ¬ lt y x := by
  rcases Nat.lt_or_eq_of_le h with h | rfl
  · exact (pw_at hu hi hj h).le S
  · rw [hi] at hj; cases hj
    exact fun e => S.asym _ _ e e
/-- In order, and the same elements: the same list. -/
theorem pw_unique (S : Swo lt) (hb : ∀ x y, bf x y → ¬ bf y x) : ∀ {U V : List α}, U.Perm V → U.Pairwise (Lx lt bf) → V.Pairwise (Lx lt bf) → U = V := by
  have anti : ∀ x y, Lx lt bf x y → Lx lt bf y x → False := by
    intro x y h1 h2
    rcases h1 with h1 | ⟨n1, b1⟩
    · exact h2.le S h1
    · rcases h2 with h2 | ⟨n2, b2⟩
      · exact n1 h2
      · exact hb _ _ b1 b2
  intro U
  induction U with
  | nil => intro V p _ _; exact (List.nil_perm.1 p).symm
  | cons x U ih =>
    intro V p hu hv
    cases V with
    | nil => exact absurd p (by simp)
    | cons y V =>
      have hxy : x = y := by
        by_cases e : x = y
        · exact e
        · have hx : x ∈ y :: V := p.mem_iff.1 (List.mem_cons_self ..)
          have hy : y ∈ x :: U := p.mem_iff.2 (List.mem_cons_self ..)
          have hx : x ∈ V := (List.mem_cons.1 hx).resolve_left e
          have hy : y ∈ U := (List.mem_cons.1 hy).resolve_left (fun q => e q.symm)
          exact (anti x y ((List.pairwise_cons.1 hu).1 y hy) ((List.pairwise_cons.1 hv).1 x hx)).elim
      subst hxy
      rw [ih (p.cons_inv) (List.pairwise_cons.1 hu).2 (List.pairwise_cons.1 hv).2]
/-- One more, put in its place. -/
theorem pw_insert (S : Swo lt) {T1 T2 : List α} {z : α} (h : (T1 ++ T2).Pairwise (Lx lt bf)) (h2 : ∀ t ∈ T2, lt z t) (h1 : ∀ y, T1.getLast? = some y → ¬ lt z y) (hb : ∀ t ∈ T1, bf t z) : (T1 ++ z :: T2).Pairwise (Lx lt bf) := by
  obtain ⟨a, b, c⟩ := List.pairwise_append.1 h
  refine pw_app a (List.pairwise_cons.2 ⟨fun t ht => Lx.of_lt (h2 t ht), b⟩) fun x hx y hy => ?_
  rcases List.mem_cons.1 hy with rfl | hy
  · refine Lx.of_le ?_ (hb x hx)
    cases hl : T1.getLast? with
    | none => rw [List.getLast?_eq_none_iff] at hl; subst hl; cases hx
    | some w =>
      obtain ⟨i, hi⟩ := List.getElem?_of_mem hx
      rw [List.getLast?_eq_getElem?] at hl
      have := (List.getElem?_eq_some_iff.1 hi).1
      have hle := le_at S a hi hl (by omega)
      exact S.negt x w y hle (h1 w (by rw [List.getLast?_eq_getElem?]; exact hl))
  · exact c x hx y hy
/-- A part of a list. -/
def seg (a b : Nat) (L : List α) : List α := (L.take b).drop a
theorem seg_len (a b : Nat) (L : List α) (h : b ≤ L.length) : (seg a b L).length = b - a := by
  unfold seg; rw [List.length_drop, List.length_take]; omega
theorem seg_get {a b i : Nat} {L : List α} (h : a + i < b) : (seg a b L)[i]? = L[a + i]? := by
  unfold seg
  rw [List.getElem?_drop, List.getElem?_take, if_pos h]
theorem cut3 {a b : Nat} {L : List α} (h1 : a ≤ b) (h2 : b ≤ L.length) : L = L.take a ++ (seg a b L ++ L.drop b) := by
  unfold seg
  have e : L.take a = (L.take b).take a := by rw [List.take_take, Nat.min_eq_left h1]
  rw [e, ← List.append_assoc, List.take_append_drop, List.take_append_drop]
theorem seg_split {a m b : Nat} {L : List α} (h1 : a ≤ m) (h2 : m ≤ b) : seg a b L = seg a m L ++ seg m b L := by
  unfold seg
  have e : L.take m = (L.take b).take m := by rw [List.take_take, Nat.min_eq_left h2]
  rw [e]
  generalize L.take b = K
  have : K.drop a = (K.drop a).take (m - a) ++ (K.drop a).drop (m - a) := (List.take_append_drop ..).symm
  rw [this, List.drop_drop, List.drop_take, show a + (m - a) = m by omega]
theorem seg_app {P W Q : List α} {a b : Nat} (h1 : P.length = a) (h2 : a + W.length = b) : seg a b (P ++ (W ++ Q)) = W := by
  unfold seg
  rw [List.take_append, List.take_of_length_le (by omega), List.drop_append, List.drop_eq_nil_of_le (by omega), List.nil_append, show a - P.length = 0 by omega, List.drop_zero, List.take_append, List.take_of_length_le (by omega), show b - P.length - W.length = 0 by omega]
  simp
end
end Go.Proofs.YtcjoenkpibhmoaaGreatE
/- Go's stable sort of numbers by a function: parts swapped, turned. Conditions: the list is the call's own, and not long. -/
set_option linter.unusedVariables false
set_option linter.unusedSimpArgs false
set_option maxRecDepth 100000
namespace Go.Proofs.YtcjoenkpibhmoaaGreatE
open Go Go.Proofs
def env_gSwap : Nat → Ann
  | 3 => ⟨.op 0 [] <| .op 1 [] <| .op 2 [] <| .op 3 [] <| .op 4 [] <| .op 5 [] <| .op 6 [] <| .op 7 [] <| .op 8 [] <| .op 9 [] <| .op 10 [] <| .op 11 [] <| .op 12 [] <| .op 13 [] <| .op 14 [] <| .op 15 [] <| .op 16 [] <| .op 17 [] <| .op 18 [] <| .op 19 [] <| .op 20 [] <| .op 21 [] <| .op 22 [] <| .op 23 [] <| .nil, [0, 0, 0, 6, 0, 0, 0, 96, 0, 0, 0, 1536, 3840, 7936, 0, 0, 0, 98304, 245760, 507904, 1048335, 2096911, 4194303, 8388607], false⟩
  | _ => ⟨.nil, [], false⟩
abbrev EI : Type := Int
/-- A list of numbers of the call's own; what was there at g is as it was. -/
structure Lst (g : Heap) (h : Heap) (A : Option Addr) (c : Nat) (L : List EI) : Prop where
  own : OwnA encI 1 3 g.size h A c L
  ext : Ext g h
section
variable {g h h' : Heap} {A : Option Addr} {c : Nat} {L : List EI}
theorem Lst.after (H : Lst g h A c L) (x : Ext h h') : Lst g h' A c L := ⟨H.own.ext x, H.ext.trans x⟩
/-- An element, at a place that is reckoned. -/
theorem Lst.rd (H : Lst g h A c L) {z : Int} {i : Nat} {x : EI} (e : z = (i : Int)) (hi : L[i]? = some x) : ∃ a, A = some a ∧ 0 ≤ z ∧ z < (L.length : Int) ∧ cell h (a.add (z.toNat * 1)) = some (.int .i64 x) := by
  subst e
  obtain ⟨a, hA, hrd⟩ := (H.own.row encI_len) i x hi
  have := (List.getElem?_eq_some_iff.1 hi).1
  refine ⟨a, hA, by omega, by omega, ?_⟩
  have := hrd.get 0 (v := .int .i64 x) rfl
  rw [Int.toNat_natCast]
  rwa [add_zero'] at this
theorem Lst.wr (H : Lst g h A c L) {z : Int} {i : Nat} (e : z = (i : Int)) (hi : i < L.length) (y : EI) : ∃ a, A = some a ∧ 0 ≤ z ∧ z < (L.length : Int) ∧ CanSet h (a.add (z.toNat * 1)) 1 ∧ ∀ h', Stored h (a.add (z.toNat * 1)) [.int .i64 y] h' → Lst g h' A c (L.set i y) := by
  subst e
  obtain ⟨b, hA, hg, hcs⟩ := H.own.canset encI_len (i := i) (j := 0) (n := 1) hi (by omega)
  obtain ⟨x, hx⟩ : ∃ x, L[i]? = some x := ⟨L[i], List.getElem?_eq_getElem hi⟩
  refine ⟨_, hA, by omega, by omega, ?_, fun h' s => ?_⟩
  · rw [add_lit, Int.toNat_natCast, Nat.zero_add]; exact hcs
  · rw [add_lit, Int.toNat_natCast, Nat.zero_add] at s
    exact ⟨H.own.put (j := 0) (vs := [.int .i64 y]) encI_len hA s hx (Nat.le_refl _) rfl, H.ext.stored s hg⟩
theorem set_mid {α : Type} {P M R : List α} {a i : Nat} (hP : P.length = a) (hi : i < M.length) (v : α) : (P ++ (M ++ R)).set (a + i) v = P ++ (M.set i v ++ R) := by
  subst hP
  rw [List.set_append_right _ _ (by omega), Nat.add_sub_cancel_left, List.set_append_left _ _ hi]
theorem get_mid {α : Type} {P M R : List α} {a i : Nat} (hP : P.length = a) (hi : i < M.length) : (P ++ (M ++ R))[a + i]? = M[i]? := by
  subst hP
  rw [List.getElem?_append_right (by omega), Nat.add_sub_cancel_left, List.getElem?_append_left hi]
def mixS {α : Type} (X Z : List α) (i : Nat) : List α := Z.take i ++ X.drop i
theorem mixS_len {α : Type} {X Z : List α} (h : X.length = Z.length) (i : Nat) : (mixS X Z i).length = X.length := by
  unfold mixS; rw [List.length_append, List.length_take, List.length_drop]; omega
theorem mixS_get {α : Type} {X Z : List α} (h : X.length = Z.length) {i : Nat} (hi : i < X.length) : (mixS X Z i)[i]? = X[i]? := by
  unfold mixS
  rw [List.getElem?_append_right (by rw [List.length_take]; omega), List.length_take, Nat.min_eq_left (by omega), Nat.sub_self, List.getElem?_drop, Nat.add_zero]
theorem mixS_set {α : Type} {X Z : List α} (h : X.length = Z.length) {i : Nat} {z : α} (hi : i < X.length) (hz : Z[i]? = some z) : (mixS X Z i).set i z = mixS X Z (i + 1) := by
  unfold mixS
  obtain ⟨hl, rfl⟩ := List.getElem?_eq_some_iff.1 hz
  rw [List.set_append_right _ _ (by rw [List.length_take]; omega), List.length_take, Nat.min_eq_left (by omega), Nat.sub_self, List.drop_eq_getElem_cons hi, List.set_cons_zero, List.take_succ_eq_append_getElem hl, List.append_assoc]
  rfl
theorem gSwap_spec {P X Y Z Q : List EI} {a b n k : Nat} {fv : Value} (H : Lst g h A c (P ++ (X ++ (Y ++ (Z ++ Q))))) (ha : P.length = a) (hb : a + X.length + Y.length = b) (hx : X.length = n) (hz : Z.length = n) (hk : (P ++ (X ++ (Y ++ (Z ++ Q)))).length = k) (hbig : k ≤ 100000) :
    HCalls Tryz.prog 201 #[.slice A k c, .int .i64 a, .int .i64 b, .int .i64 n, fv] h (fun v h' => Lst g h' A c (P ++ (Z ++ (Y ++ (X ++ Q))))) := by
  refine xcalls env_gSwap Tryz.func201 rfl (by kernel_rfl) rfl (by kernel_rfl) ?_
  have hl : a + n + Y.length + n + Q.length = k := by rw [← hk]; simp only [List.length_append]; omega
  have step : ∀ i, i < n → ∀ x z, X[i]? = some x → Z[i]? = some z → ((P ++ (mixS X Z i ++ (Y ++ (mixS Z X i ++ Q)))).set (a + i) z).set (b + i) x = P ++ (mixS X Z (i + 1) ++ (Y ++ (mixS Z X (i + 1) ++ Q))) := by
    intro i hi x z hxi hzi
    rw [set_mid ha (by rw [mixS_len (by omega)]; omega), mixS_set (by omega) (by omega) hzi]
    have e : P ++ (mixS X Z (i + 1) ++ (Y ++ (mixS Z X i ++ Q))) = (P ++ (mixS X Z (i + 1) ++ Y)) ++ (mixS Z X i ++ Q) := by simp
    rw [e, set_mid (by simp only [List.length_append]; rw [mixS_len (by omega)]; omega) (by rw [mixS_len (by omega)]; omega), mixS_set (by omega) (by omega) hxi]
    simp
  refine ⟨Nat, fun i => [(0, .slice A k c), (1, .int .i64 a), (2, .int .i64 b), (3, .int .i64 n), (10, .int .i64 i)], fun i h' => i ≤ n ∧ Lst g h' A c (P ++ (mixS X Z i ++ (Y ++ (mixS Z X i ++ Q)))), fun i => n - i, 0, ⟨rfl, rfl, rfl, rfl, rfl, trivial⟩, ⟨Nat.zero_le _, H⟩, ?_⟩
  rintro i h2 ⟨hi, H2⟩
  have hlen : (P ++ (mixS X Z i ++ (Y ++ (mixS Z X i ++ Q)))).length = k := by simp only [List.length_append]; rw [mixS_len (by omega), mixS_len (by omega)]; omega
  refine xif_of (fun hlt => ?_) (fun hge => ?_)
  rotate_left
  · have hge : ¬ (i : Int) < n := of_decide_eq_false hge
    obtain rfl : i = n := by omega
    have e1 : mixS X Z i = Z := by unfold mixS; rw [List.take_of_length_le (by omega), List.drop_eq_nil_of_le (by omega), List.append_nil]
    have e2 : mixS Z X i = X := by unfold mixS; rw [List.take_of_length_le (by omega), List.drop_eq_nil_of_le (by omega), List.append_nil]
    rw [e1, e2] at H2
    exact H2
  have hlt : (i : Int) < n := of_decide_eq_true hlt
  obtain ⟨x, hxi⟩ : ∃ x, X[i]? = some x := ⟨X[i]'(by omega), List.getElem?_eq_getElem (by omega)⟩
  obtain ⟨z, hzi⟩ : ∃ z, Z[i]? = some z := ⟨Z[i]'(by omega), List.getElem?_eq_getElem (by omega)⟩
  have ea : IntKind.i64.wrap ((a : Int) + (i : Int)) = ((a + i : Nat) : Int) := by rw [wrap_i64 (by omega) (by omega)]; omega
  have eb : IntKind.i64.wrap ((b : Int) + (i : Int)) = ((b + i : Nat) : Int) := by rw [wrap_i64 (by omega) (by omega)]; omega
  have g1 : (P ++ (mixS X Z i ++ (Y ++ (mixS Z X i ++ Q))))[a + i]? = some x := by rw [get_mid ha (by rw [mixS_len (by omega)]; omega), mixS_get (by omega) (by omega), hxi]
  have g2 : (P ++ (mixS X Z i ++ (Y ++ (mixS Z X i ++ Q))))[b + i]? = some z := by
    have e : P ++ (mixS X Z i ++ (Y ++ (mixS Z X i ++ Q))) = (P ++ (mixS X Z i ++ Y)) ++ (mixS Z X i ++ Q) := by simp
    rw [e, get_mid (by simp only [List.length_append]; rw [mixS_len (by omega)]; omega) (by rw [mixS_len (by omega)]; omega), mixS_get (by omega) (by omega), hzi]
  obtain ⟨a1, hA1, l1, u1, c1⟩ := H2.rd eb g2
  obtain ⟨a2, hA2, l2, u2, c2⟩ := H2.rd ea g1
  rw [hlen] at u1 u2
  refine ⟨a1, hA1, l1, u1, _, c1, a2, hA2, l2, u2, _, c2, ?_⟩
  obtain ⟨a3, hA3, l3, u3, cs3, H3⟩ := H2.wr ea (by omega) z
  rw [hlen] at u3
  refine ⟨a3, hA3, l3, u3, rfl, rfl, cs3, fun h3 s3 => ?_⟩
  have H3 := H3 h3 s3
  obtain ⟨a4, hA4, l4, u4, cs4, H4⟩ := H3.wr eb (by rw [List.length_set]; omega) x
  rw [List.length_set, hlen] at u4
  refine ⟨a4, hA4, l4, u4, rfl, rfl, cs4, fun h4 s4 => ?_⟩
  have H4 := H4 h4 s4
  rw [step i (by omega) x z hxi hzi] at H4
  exact ⟨i + 1, ⟨rfl, rfl, rfl, rfl, slot_inc (by omega), trivial⟩, ⟨by omega, H4⟩, by show n - (i + 1) < n - i; omega⟩
theorem gRotate_spec {P U V Q : List EI} {a m b k : Nat} {fv : Value} (H : Lst g h A c (P ++ (U ++ (V ++ Q)))) (ha : P.length = a) (hm : a + U.length = m) (hb : m + V.length = b) (h1 : a < m) (h2 : m < b) (hk : (P ++ (U ++ (V ++ Q))).length = k) (hbig : k ≤ 100000) :
    HCalls Tryz.prog 186 #[.slice A k c, .int .i64 a, .int .i64 m, .int .i64 b, fv] h (fun v h' => Lst g h' A c (P ++ (V ++ (U ++ Q)))) := by
  refine xcalls env0 Tryz.func186 rfl (by kernel_rfl) rfl (by kernel_rfl) ?_
  have hl : b + Q.length = k := by rw [← hk]; simp only [List.length_append]; omega
  have e1 : IntKind.i64.wrap ((m : Int) - (a : Int)) = ((m - a : Nat) : Int) := by rw [wrap_i64 (by omega) (by omega)]; omega
  have e2 : IntKind.i64.wrap ((b : Int) - (m : Int)) = ((b - m : Nat) : Int) := by rw [wrap_i64 (by omega) (by omega)]; omega
  refine ⟨Nat × Nat × List EI × List EI × List EI × List EI, fun z => [(0, .slice A k c), (2, .int .i64 m), (4, fv), (10, .int .i64 z.1), (11, .int .i64 z.2.1)],
    fun z h' => (1 ≤ z.1 ∧ z.1 ≤ m ∧ 1 ≤ z.2.1 ∧ m + z.2.1 ≤ b) ∧ (z.2.2.1.length + z.1 = m ∧ z.2.2.2.1.length = z.1 ∧ z.2.2.2.2.1.length = z.2.1) ∧ z.2.2.1 ++ (z.2.2.2.2.1 ++ (z.2.2.2.1 ++ z.2.2.2.2.2)) = P ++ (V ++ (U ++ Q)) ∧ Lst g h' A c (z.2.2.1 ++ (z.2.2.2.1 ++ (z.2.2.2.2.1 ++ z.2.2.2.2.2))),
    fun z => z.1 + z.2.1, (m - a, b - m, P, U, V, Q), ⟨rfl, rfl, rfl, congrArg (fun x => some (Value.int .i64 x)) e1, congrArg (fun x => some (Value.int .i64 x)) e2, trivial⟩, ⟨by show 1 ≤ m - a ∧ m - a ≤ m ∧ 1 ≤ b - m ∧ m + (b - m) ≤ b; omega, by show P.length + (m - a) = m ∧ U.length = m - a ∧ V.length = b - m; omega, rfl, H⟩, ?_⟩
  rintro ⟨i, j, P', U', V', Q'⟩ h2' ⟨⟨i1, i2, j1, j2⟩, ⟨lp, lu, lv⟩, heq, H2⟩
  simp only at i1 i2 j1 j2 lp lu lv heq H2
  have hlen : (P' ++ (U' ++ (V' ++ Q'))).length = k := by
    have := congrArg List.length heq
    simp only [List.length_append] at this ⊢
    omega
  have ei : IntKind.i64.wrap ((m : Int) - (i : Int)) = ((m - i : Nat) : Int) := by rw [wrap_i64 (by omega) (by omega)]; omega
  refine xif_of (fun hne => ?_) (fun hne => ?_)
  rotate_left
  · have hne : i = j := by have : (i : Int) = j := by simpa using hne
                           omega
    subst hne
    have H2' : Lst g h2' A c (P' ++ (U' ++ ([] ++ (V' ++ Q')))) := H2
    have := gSwap_spec (n := i) (fv := fv) H2' (a := m - i) (b := m) (by omega) (by simp; omega) (by omega) (by omega) hlen hbig
    rw [← ei] at this
    refine this.mono ?_
    rintro v h3 H3
    have H3 : Lst g h3 A c (P' ++ (V' ++ (U' ++ Q'))) := H3
    rw [heq] at H3
    exact H3
  have hne : ¬ i = j := by have : ¬ (i : Int) = j := by simpa using hne
                           omega
  refine xif_of (fun hgt => ?_) (fun hgt => ?_)
  · have hgt : (i : Int) > (j : Int) := of_decide_eq_true hgt
    obtain ⟨X, Y, rfl, hX⟩ : ∃ X Y, U' = X ++ Y ∧ X.length = j := ⟨U'.take j, U'.drop j, (List.take_append_drop ..).symm, by rw [List.length_take]; omega⟩
    rw [List.length_append] at lu
    have H2' : Lst g h2' A c (P' ++ (X ++ (Y ++ (V' ++ Q')))) := by have := H2; rwa [List.append_assoc] at this
    have := gSwap_spec (n := j) (fv := fv) H2' (a := m - i) (b := m) (by omega) (by omega) (by omega) (by omega) (by rw [← hlen]; simp) hbig
    rw [← ei] at this
    refine this.mono ?_
    rintro v h3 H3
    have es : IntKind.i64.wrap ((i : Int) - (j : Int)) = ((i - j : Nat) : Int) := by rw [wrap_i64 (by omega) (by omega)]; omega
    refine ⟨(i - j, j, P' ++ V', Y, X, Q'), ⟨rfl, rfl, rfl, congrArg (fun x => some (Value.int .i64 x)) es, rfl, trivial⟩, ⟨by show 1 ≤ i - j ∧ i - j ≤ m ∧ 1 ≤ j ∧ m + j ≤ b; omega, by show (P' ++ V').length + (i - j) = m ∧ Y.length = i - j ∧ X.length = j; rw [List.length_append]; omega, ?_, ?_⟩, by show i - j + j < i + j; omega⟩
    · show P' ++ V' ++ (X ++ (Y ++ Q')) = _
      rw [← heq]; simp
    · show Lst g h3 A c (P' ++ V' ++ (Y ++ (X ++ Q')))
      rw [List.append_assoc]; exact H3
  · have hgt : ¬ (i : Int) > (j : Int) := of_decide_eq_false hgt
    obtain ⟨Y, Z, rfl, hY⟩ : ∃ Y Z, V' = Y ++ Z ∧ Y.length = j - i := ⟨V'.take (j - i), V'.drop (j - i), (List.take_append_drop ..).symm, by rw [List.length_take]; omega⟩
    rw [List.length_append] at lv
    have H2' : Lst g h2' A c (P' ++ (U' ++ (Y ++ (Z ++ Q')))) := by have := H2; rwa [List.append_assoc] at this
    have ej : IntKind.i64.wrap (IntKind.i64.wrap ((m : Int) + (j : Int)) - (i : Int)) = ((m + j - i : Nat) : Int) := by rw [wrap_i64 (x := (m : Int) + j) (by omega) (by omega), wrap_i64 (by omega) (by omega)]; omega
    have := gSwap_spec (n := i) (fv := fv) H2' (a := m - i) (b := m + j - i) (by omega) (by omega) (by omega) (by omega) (by rw [← hlen]; simp) hbig
    rw [← ei, ← ej] at this
    refine this.mono ?_
    rintro v h3 H3
    have es : IntKind.i64.wrap ((j : Int) - (i : Int)) = ((j - i : Nat) : Int) := by rw [wrap_i64 (by omega) (by omega)]; omega
    refine ⟨(i, j - i, P', Z, Y, U' ++ Q'), ⟨rfl, rfl, rfl, rfl, congrArg (fun x => some (Value.int .i64 x)) es, trivial⟩, ⟨by show 1 ≤ i ∧ i ≤ m ∧ 1 ≤ j - i ∧ m + (j - i) ≤ b; omega, by show P'.length + i = m ∧ Z.length = i ∧ Y.length = j - i; omega, ?_, ?_⟩, by show i + (j - i) < i + j; omega⟩
    · show P' ++ (Y ++ (Z ++ (U' ++ Q'))) = _
      rw [← heq]; simp
    · exact H3
end
end Go.Proofs.YtcjoenkpibhmoaaGreatE
