/- Go's stable sort of numbers by a function: parts sorted, parts merged, the whole. Conditions: the list is the call's own, and not long; the function is a strict weak order and leaves all as it is. -/
import Derived.Test.YtcjoenkpibhmoaaGreatXH0
set_option linter.unusedVariables false
set_option linter.unusedSimpArgs false
set_option maxRecDepth 100000
namespace Go.Proofs.YtcjoenkpibhmoaaGreatE
open Go Go.Proofs
def env_gIns : Nat → Ann
  | 4 => ⟨.op 0 [] <| .op 1 [] <| .op 2 [] <| .op 3 [] <| .op 4 [] <| .op 5 [] <| .op 6 [] <| .op 7 [] <| .op 8 [] <| .op 9 [] <| .op 10 [] <| .op 11 [] <| .op 12 [] <| .op 13 [] <| .op 14 [] <| .op 15 [] <| .op 16 [] <| .nil, [0, 0, 3, 7, 15, 15, 15, 111, 239, 15, 15, 1039, 3599, 7695, 16383, 32767, 65535], false⟩
  | 6 => ⟨.op 0 [] <| .op 1 [] <| .op 2 [] <| .op 3 [] <| .op 4 [] <| .op 5 [] <| .op 6 [] <| .op 7 [] <| .op 8 [] <| .op 9 [] <| .op 10 [] <| .op 11 [] <| .op 12 [] <| .op 13 [] <| .op 14 [] <| .op 15 [] <| .op 16 [] <| .op 17 [] <| .nil, [0, 0, 0, 0, 8, 0, 0, 64, 224, 480, 0, 0, 3072, 7168, 16355, 32739, 65535, 131071], false⟩
  | _ => ⟨.nil, [], false⟩
def env_gSym : Nat → Ann
  | 5 => ⟨.op 0 [] <| .op 1 [] <| .op 2 [] <| .op 3 [] <| .op 4 [] <| .op 5 [] <| .op 6 [] <| .op 7 [] <| .op 8 [] <| .op 9 [] <| .op 10 [] <| .nil, [0, 0, 0, 6, 14, 0, 0, 96, 224, 511, 1023], false⟩
  | 11 => ⟨.op 0 [] <| .op 1 [] <| .op 2 [] <| .op 3 [] <| .op 4 [] <| .op 5 [] <| .op 6 [] <| .op 7 [] <| .op 8 [] <| .op 9 [] <| .op 10 [] <| .op 11 [] <| .op 12 [] <| .op 13 [] <| .op 14 [] <| .op 15 [] <| .op 16 [] <| .op 17 [] <| .nil, [0, 0, 0, 0, 8, 0, 0, 64, 224, 480, 0, 0, 3072, 7168, 16355, 32739, 65535, 131071], false⟩
  | 17 => ⟨.op 0 [] <| .op 1 [] <| .op 2 [] <| .op 3 [] <| .op 4 [] <| .op 5 [] <| .op 6 [] <| .op 7 [] <| .op 8 [] <| .op 9 [] <| .op 10 [] <| .op 11 [] <| .nil, [0, 0, 0, 6, 14, 0, 0, 96, 224, 511, 1023, 2047], false⟩
  | 23 => ⟨.op 0 [] <| .op 1 [] <| .op 2 [] <| .op 3 [] <| .op 4 [] <| .op 5 [] <| .op 6 [] <| .op 7 [] <| .op 8 [] <| .op 9 [] <| .op 10 [] <| .op 11 [] <| .op 12 [] <| .op 13 [] <| .op 14 [] <| .op 15 [] <| .op 16 [] <| .op 17 [] <| .nil, [0, 0, 0, 0, 8, 0, 0, 64, 224, 480, 0, 0, 3072, 7168, 16355, 32739, 65535, 131071], false⟩
  | 32 => ⟨.nil, [], true⟩
  | 35 => ⟨.op 0 [] <| .op 1 [] <| .op 2 [] <| .op 3 [] <| .op 4 [] <| .op 5 [] <| .op 6 [] <| .op 7 [] <| .op 8 [] <| .op 9 [] <| .op 10 [] <| .op 11 [] <| .op 12 [] <| .op 13 [] <| .nil, [0, 0, 0, 0, 12, 30, 62, 0, 0, 384, 896, 2047, 4095, 8191], false⟩
  | 41 => ⟨.nil, [], true⟩
  | 43 => ⟨.nil, [], true⟩
  | _ => ⟨.nil, [], false⟩
/-- A function that tells which of two is less, and leaves all as it was. -/
structure CmpOk (g : Heap) (lt : EI → EI → Prop) (D : EI → Prop) (f lb : Nat) : Prop where
  call : ∀ (h : Heap) (x y : EI), Ext g h → D x → D y → HCalls Tryz.prog f #[.int .i64 x, .int .i64 y, .pointer (some ⟨lb, 0, none⟩)] h (fun v h' => ∃ r : Int, v = .int .i64 r ∧ (r < 0 ↔ lt x y) ∧ Ext h h')
section
variable {g h h' : Heap} {A : Option Addr} {c : Nat} {lt bf : EI → EI → Prop} {D : EI → Prop} {f lb : Nat}
theorem mid_eq {i j : Nat} (h : i + j ≤ 1000000) : IntKind.i64.wrap ((IntKind.u64.wrap (IntKind.i64.wrap ((i : Int) + (j : Int)))).fdiv (2 ^ (min (1 : Int).toNat IntKind.u64.bits))) = (((i + j) / 2 : Nat) : Int) := by
  have e : min (1 : Int).toNat IntKind.u64.bits = 1 := by decide
  rw [e, wrap_i64 (x := (i : Int) + j) (by omega) (by omega), wrap_u64 (x := (i : Int) + j) (by omega) (by omega)]
  have : ((i : Int) + (j : Int)).fdiv (2 ^ 1) = (((i + j) / 2 : Nat) : Int) := by
    rw [Int.fdiv_eq_ediv_of_nonneg _ (by decide)]
    omega
  rw [this]
  exact wrap_i64 (by omega) (by omega)
theorem mem_len {α : Type} {x : α} {P R : List α} : (P ++ x :: R)[P.length]? = some x := by
  rw [List.getElem?_append_right (Nat.le_refl _), Nat.sub_self]; rfl
/-- Two neighbours swapped. -/
theorem swap_next {α : Type} {P R : List α} {x z : α} {n : Nat} (hP : P.length = n) : ((P ++ x :: z :: R).set (n + 1) x).set n z = P ++ z :: x :: R := by
  subst hP
  rw [List.set_append_right _ _ (by omega), Nat.add_sub_cancel_left, List.set_append_right _ _ (Nat.le_refl _), Nat.sub_self]
  rfl
theorem swap_next' {α : Type} {P R : List α} {x z : α} {n : Nat} (hP : P.length = n) : ((P ++ x :: z :: R).set n z).set (n + 1) x = P ++ z :: x :: R := by
  subst hP
  rw [List.set_append_right _ _ (Nat.le_refl _), Nat.sub_self, List.set_append_right _ _ (by omega), Nat.add_sub_cancel_left]
  rfl
theorem gIns_spec (S : Swo lt) (C : CmpOk g lt D f lb) {P T Q : List EI} {a b k : Nat} (H : Lst g h A c (P ++ (T ++ Q))) (ha : P.length = a) (hb : a + T.length = b) (hk : (P ++ (T ++ Q)).length = k) (hbig : k ≤ 100000) (asc : T.Pairwise bf) (hD : ∀ x ∈ T, D x) :
    HCalls Tryz.prog 162 #[.slice A k c, .int .i64 a, .int .i64 b, .func (.func f) #[] #[.pointer (some ⟨lb, 0, none⟩)]] h (fun v h' => ∃ W, Lst g h' A c (P ++ (W ++ Q)) ∧ W.Perm T ∧ W.Pairwise (Lx lt bf)) := by
  refine xcalls env_gIns Tryz.func162 rfl (by kernel_rfl) rfl (by kernel_rfl) ?_
  have hl : b + Q.length = k := by rw [← hk]; simp only [List.length_append]; omega
  have e1 : IntKind.i64.wrap ((a : Int) + 1) = ((a + 1 : Nat) : Int) := by rw [wrap_i64 (by omega) (by omega)]; omega
  refine ⟨Nat × List EI × List EI, fun z => [(0, .slice A k c), (1, .int .i64 a), (2, .int .i64 b), (3, .func (.func f) #[] #[.pointer (some ⟨lb, 0, none⟩)]), (8, .int .i64 z.1)],
    fun z h' => (a + 1 ≤ z.1 ∧ b ≤ a + z.2.1.length + z.2.2.length ∧ (a + z.2.1.length = z.1 ∨ T = [])) ∧ (∃ T1, T = T1 ++ z.2.2 ∧ z.2.1.Perm T1) ∧ z.2.1.Pairwise (Lx lt bf) ∧ Lst g h' A c (P ++ (z.2.1 ++ (z.2.2 ++ Q))), fun z => k - z.1,
    (a + 1, T.take 1, T.drop 1), ⟨rfl, rfl, rfl, rfl, congrArg (fun x => some (Value.int .i64 x)) e1, trivial⟩, ?_, ?_⟩
  · refine ⟨⟨Nat.le_refl _, ?_, ?_⟩, ⟨T.take 1, (List.take_append_drop ..).symm, List.Perm.refl _⟩, ?_, ?_⟩
    · show b ≤ a + (T.take 1).length + (T.drop 1).length
      rw [List.length_take, List.length_drop]; omega
    · cases T with
      | nil => exact .inr rfl
      | cons t T => exact .inl rfl
    · cases T with
      | nil => exact List.Pairwise.nil
      | cons t T => exact List.pairwise_singleton _ _
    · show Lst g h A c (P ++ (T.take 1 ++ (T.drop 1 ++ Q)))
      rw [← List.append_assoc (T.take 1), List.take_append_drop]; exact H
  rintro ⟨i, W, R⟩ h2 ⟨⟨i1, i2, i3⟩, ⟨T1, hT, hp⟩, hs, H2⟩
  simp only at i1 i2 i3 hT hp hs H2
  have hpl := hp.length_eq
  have hTl : T.length = T1.length + R.length := by rw [hT, List.length_append]
  refine xif_of (fun hlt => ?_) (fun hge => ?_)
  rotate_left
  · have hge : ¬ (i : Int) < b := of_decide_eq_false hge
    have hR : R = [] := by
      cases R with
      | nil => rfl
      | cons r R =>
        rcases i3 with i3 | i3
        · simp only [List.length_cons] at i2 hTl; omega
        · rw [i3] at hTl; simp at hTl
    subst hR
    rw [List.append_nil] at hT
    exact ⟨W, H2, hT ▸ hp, hs⟩
  have hlt : (i : Int) < b := of_decide_eq_true hlt
  have i3 : a + W.length = i := by
    rcases i3 with i3 | i3
    · exact i3
    · rw [i3] at hb; simp at hb; omega
  obtain ⟨z, R', rfl⟩ : ∃ z R', R = z :: R' := by
    cases R with
    | nil => simp only [List.length_nil] at i2; omega
    | cons z R' => exact ⟨z, R', rfl⟩
  have hzb : ∀ t ∈ W, bf t z := fun t ht => by
    have := asc
    rw [hT] at this
    exact (List.pairwise_append.1 this).2.2 t (hp.mem_iff.1 ht) z (List.mem_cons_self ..)
  have hDz : D z := hD z (by rw [hT]; simp)
  have hDW : ∀ t ∈ W, D t := fun t ht => hD t (by rw [hT]; exact List.mem_append_left _ (hp.mem_iff.1 ht))
  have fin : ∀ (T1' T2' : List EI), W = T1' ++ T2' → (∀ t ∈ T2', lt z t) → (∀ y, T1'.getLast? = some y → ¬ lt z y) → (∃ T1, T = T1 ++ R' ∧ (T1' ++ z :: T2').Perm T1) ∧ (T1' ++ z :: T2').Pairwise (Lx lt bf) := by
    intro X Y e1 e2 e3
    refine ⟨⟨T1 ++ [z], by rw [hT]; simp, ?_⟩, pw_insert S (e1 ▸ hs) e2 e3 fun t ht => hzb t (by rw [e1]; exact List.mem_append_left _ ht)⟩
    exact List.perm_middle.trans ((List.Perm.cons z (e1 ▸ hp)).trans (List.perm_append_comm (l₁ := [z])))
  refine ⟨Nat × List EI × List EI, fun y => [(0, .slice A k c), (1, .int .i64 a), (2, .int .i64 b), (3, .func (.func f) #[] #[.pointer (some ⟨lb, 0, none⟩)]), (8, .int .i64 i), (9, .int .i64 y.1)],
    fun y h' => a + y.2.1.length = y.1 ∧ W = y.2.1 ++ y.2.2 ∧ (∀ t ∈ y.2.2, lt z t) ∧ Lst g h' A c (P ++ (y.2.1 ++ (z :: (y.2.2 ++ (R' ++ Q))))), fun y => y.1,
    (i, W, []), ⟨rfl, rfl, rfl, rfl, rfl, rfl, trivial⟩, ⟨i3, (List.append_nil _).symm, (fun t ht => by cases ht), H2⟩, ?_⟩
  rintro ⟨j, X, Y⟩ h3 ⟨j1, hW, hY, H3⟩
  simp only at j1 hW hY H3
  have hWl : W.length = X.length + Y.length := by rw [hW, List.length_append]
  have next : ∀ h', Lst g h' A c (P ++ (X ++ (z :: (Y ++ (R' ++ Q))))) → Lst g h' A c (P ++ ((X ++ z :: Y) ++ (R' ++ Q))) := fun h' q => by simpa using q
  refine xif_of (fun hgt => ?_) (fun hgt => ?_)
  rotate_left
  · have hgt : ¬ (j : Int) > a := of_decide_eq_false hgt
    obtain rfl : X = [] := List.length_eq_zero_iff.1 (by omega)
    obtain ⟨q1, q2⟩ := fin [] Y hW hY (fun y e => by cases e)
    exact ⟨(i + 1, [] ++ z :: Y, R'), ⟨rfl, rfl, rfl, rfl, slot_inc (by omega), trivial⟩, ⟨⟨by show a + 1 ≤ i + 1; omega, by show b ≤ a + ([] ++ z :: Y).length + R'.length; simp only [List.nil_append, List.length_cons] at i2 hWl ⊢; omega, .inl (by show a + ([] ++ z :: Y).length = i + 1; simp only [List.nil_append, List.length_cons, List.length_nil] at hWl ⊢; omega)⟩, q1, q2, next h3 H3⟩, by show k - (i + 1) < k - i; omega⟩
  have hgt : (j : Int) > a := of_decide_eq_true hgt
  obtain ⟨X', y, rfl⟩ : ∃ X' y, X = X' ++ [y] := by
    rcases List.eq_nil_or_concat X with rfl | ⟨X', y, h⟩
    · simp only [List.length_nil] at j1; omega
    · exact ⟨X', y, by rw [h, List.concat_eq_append]⟩
  rw [List.length_append, List.length_singleton] at j1 hWl
  have hDy : D y := hDW y (by rw [hW]; simp)
  have shape : P ++ (X' ++ [y] ++ (z :: (Y ++ (R' ++ Q)))) = (P ++ X') ++ y :: z :: (Y ++ (R' ++ Q)) := by simp
  have hPX : (P ++ X').length = j - 1 := by rw [List.length_append]; omega
  rw [shape] at H3
  have hlen : ((P ++ X') ++ y :: z :: (Y ++ (R' ++ Q))).length = k := by
    have := congrArg List.length hT
    simp only [List.length_append, List.length_cons] at this i2 hPX ⊢; omega
  have ej : IntKind.i64.wrap ((j : Int) - 1) = ((j - 1 : Nat) : Int) := by rw [wrap_i64 (by omega) (by omega)]; omega
  have g1 : ((P ++ X') ++ y :: z :: (Y ++ (R' ++ Q)))[j - 1]? = some y := by rw [← hPX]; exact mem_len
  have g2 : ((P ++ X') ++ y :: z :: (Y ++ (R' ++ Q)))[j]? = some z := by
    have : (P ++ X') ++ y :: z :: (Y ++ (R' ++ Q)) = ((P ++ X') ++ [y]) ++ z :: (Y ++ (R' ++ Q)) := by simp
    rw [this, show j = ((P ++ X') ++ [y]).length by rw [List.length_append, hPX, List.length_singleton]; omega]
    exact mem_len
  obtain ⟨a1, hA1, l1, u1, c1⟩ := H3.rd (z := (j : Int)) rfl g2
  obtain ⟨a2, hA2, l2, u2, c2⟩ := H3.rd ej g1
  rw [hlen] at u1 u2
  refine ⟨a1, hA1, l1, u1, _, c1, a2, hA2, l2, u2, _, c2, ?_⟩
  refine (C.call h3 z y H3.ext hDz hDy).mono ?_
  rintro v h4 ⟨r, rfl, hr, x4⟩
  have H4 := H3.after x4
  refine xif_of (fun hlt2 => ?_) (fun hge2 => ?_)
  rotate_left
  · have hge2 : ¬ lt z y := fun q => absurd (hr.2 q) (of_decide_eq_false hge2)
    obtain ⟨q1, q2⟩ := fin (X' ++ [y]) Y hW hY (fun y' e => by rw [List.getLast?_concat] at e; cases e; exact hge2)
    rw [← shape] at H4
    exact ⟨(i + 1, X' ++ [y] ++ z :: Y, R'), ⟨rfl, rfl, rfl, rfl, slot_inc (by omega), trivial⟩, ⟨⟨by show a + 1 ≤ i + 1; omega, by show b ≤ a + (X' ++ [y] ++ z :: Y).length + R'.length; simp only [List.length_append, List.length_cons, List.length_nil] at i2 hWl ⊢; omega, .inl (by show a + (X' ++ [y] ++ z :: Y).length = i + 1; simp only [List.length_append, List.length_cons, List.length_nil] at hWl ⊢; omega)⟩, q1, q2, next h4 H4⟩, by show k - (i + 1) < k - i; omega⟩
  have hlt2 : lt z y := hr.1 (of_decide_eq_true hlt2)
  obtain ⟨b1, hB1, m1, w1, d1⟩ := H4.rd ej g1
  obtain ⟨b2, hB2, m2, w2, d2⟩ := H4.rd (z := (j : Int)) rfl g2
  rw [hlen] at w1 w2
  refine ⟨b1, hB1, m1, w1, _, d1, b2, hB2, m2, w2, _, d2, ?_⟩
  obtain ⟨a3, hA3, l3, u3, cs3, H5⟩ := H4.wr (z := (j : Int)) (i := j) rfl (by rw [hlen]; omega) y
  rw [hlen] at u3
  refine ⟨a3, hA3, l3, u3, rfl, rfl, cs3, fun h5 s5 => ?_⟩
  have H5 := H5 h5 s5
  obtain ⟨a4, hA4, l4, u4, cs4, H6⟩ := H5.wr ej (by rw [List.length_set, hlen]; omega) z
  rw [List.length_set, hlen] at u4
  refine ⟨a4, hA4, l4, u4, rfl, rfl, cs4, fun h6 s6 => ?_⟩
  have H6 := H6 h6 s6
  have es := swap_next (R := Y ++ (R' ++ Q)) (x := y) (z := z) hPX
  rw [show j - 1 + 1 = j by omega] at es
  rw [es] at H6
  refine ⟨(j - 1, X', y :: Y), ⟨rfl, rfl, rfl, rfl, rfl, congrArg (fun x => some (Value.int .i64 x)) ej, trivial⟩, ⟨by show a + X'.length = j - 1; omega, by rw [hW]; simp, (fun t ht => ?_), by simpa using H6⟩, by show j - 1 < j; omega⟩
  rcases List.mem_cons.1 ht with rfl | ht
  · exact hlt2
  · exact hY t ht
/-- What stands at a place of three parts. -/
theorem get3 {α : Type} {P M R : List α} {a i : Nat} {x : α} (hP : P.length = a) (hi : M[i]? = some x) : (P ++ (M ++ R))[a + i]? = some x := by
  rw [get_mid hP (List.getElem?_eq_some_iff.1 hi).1, hi]
theorem move_right {α : Type} {P V Q : List α} {u v : α} {a n : Nat} (hP : P.length = a) (hv : V[n]? = some v) : ((P ++ (V.take n ++ u :: (V.drop n ++ Q))).set (a + n) v).set (a + n + 1) u = P ++ (V.take (n + 1) ++ u :: (V.drop (n + 1) ++ Q)) := by
  obtain ⟨hl, rfl⟩ := List.getElem?_eq_some_iff.1 hv
  rw [List.drop_eq_getElem_cons hl, List.cons_append, ← List.append_assoc, swap_next' (by rw [List.length_append, List.length_take]; omega), List.take_succ_eq_append_getElem hl]
  simp only [List.append_assoc, List.singleton_append]
theorem move_left {α : Type} {P U Q : List α} {u v : α} {a n : Nat} (hP : P.length = a) (hu : U[n]? = some u) : ((P ++ (U.take (n + 1) ++ v :: (U.drop (n + 1) ++ Q))).set (a + n + 1) u).set (a + n) v = P ++ (U.take n ++ v :: (U.drop n ++ Q)) := by
  obtain ⟨hl, rfl⟩ := List.getElem?_eq_some_iff.1 hu
  rw [List.drop_eq_getElem_cons hl, List.take_succ_eq_append_getElem hl, List.append_assoc, List.singleton_append, ← List.append_assoc, swap_next (by rw [List.length_append, List.length_take]; omega)]
  simp only [List.append_assoc, List.cons_append]
set_option maxHeartbeats 4000000 in
theorem gSym_spec (S : Swo lt) (C : CmpOk g lt D f lb) : ∀ (d : Nat) {h : Heap} {P U V Q : List EI} {a m b k : Nat}, b - a ≤ d → Lst g h A c (P ++ (U ++ (V ++ Q))) → P.length = a → a + U.length = m → m + V.length = b → a < m → m < b → (P ++ (U ++ (V ++ Q))).length = k → k ≤ 100000 →
    U.Pairwise (Lx lt bf) → V.Pairwise (Lx lt bf) → (∀ x ∈ U, ∀ y ∈ V, bf x y) → (∀ x ∈ U, D x) → (∀ x ∈ V, D x) →
    HCalls Tryz.prog 163 #[.slice A k c, .int .i64 a, .int .i64 m, .int .i64 b, .func (.func f) #[] #[.pointer (some ⟨lb, 0, none⟩)]] h (fun v h' => ∃ W, Lst g h' A c (P ++ (W ++ Q)) ∧ W.Perm (U ++ V) ∧ W.Pairwise (Lx lt bf)) := by
  intro d
  induction d with
  | zero => intro h P U V Q a m b k hd H ha hm hb h1 h2; omega
  | succ d ih =>
  intro h P U V Q a m b k hd H ha hm hb h1 h2 hk hbig hU hV hbf hDU hDV
  refine xcalls env_gSym Tryz.func163 rfl (by kernel_rfl) rfl (by kernel_rfl) ?_
  have hl : b + Q.length = k := by rw [← hk]; simp only [List.length_append]; omega
  have e1 : IntKind.i64.wrap ((m : Int) - (a : Int)) = ((m - a : Nat) : Int) := by rw [wrap_i64 (by omega) (by omega)]; omega
  have e2 : IntKind.i64.wrap ((b : Int) - (m : Int)) = ((b - m : Nat) : Int) := by rw [wrap_i64 (by omega) (by omega)]; omega
  have shape : ∀ h', Lst g h' A c (P ++ (U ++ (V ++ Q))) → Lst g h' A c ((P ++ U) ++ (V ++ Q)) := fun h' q => by rwa [List.append_assoc]
  have lenS : ((P ++ U) ++ (V ++ Q)).length = k := by rw [List.append_assoc]; exact hk
  have gU : ∀ {i : Nat} {x : EI}, U[i]? = some x → (P ++ (U ++ (V ++ Q)))[a + i]? = some x := fun hx => get3 ha hx
  have gV : ∀ {i : Nat} {x : EI}, V[i]? = some x → (P ++ (U ++ (V ++ Q)))[m + i]? = some x := fun hx => by rw [← List.append_assoc]; exact get3 (by rw [List.length_append]; omega) hx
  refine xif_of (fun q => ?_) (fun q => ?_)
  · have q : m - a = 1 := by
      have : ((IntKind.i64.wrap ((m : Int) - (a : Int))) == 1) = true := q
      rw [e1] at this
      simp only [beq_iff_eq] at this
      omega
    obtain ⟨u, rfl⟩ : ∃ u, U = [u] := List.length_eq_one_iff.1 (by omega)
    have gu : (P ++ ([u] ++ (V ++ Q)))[a]? = some u := gU (i := 0) rfl
    have hDu := hDU u (List.mem_cons_self ..)
    refine ⟨Nat × Nat, fun z => [(0, .slice A k c), (1, .int .i64 a), (2, .int .i64 m), (4, .func (.func f) #[] #[.pointer (some ⟨lb, 0, none⟩)]), (10, .int .i64 z.1), (11, .int .i64 z.2)],
      fun z h' => (m ≤ z.1 ∧ z.1 ≤ z.2 ∧ z.2 ≤ b) ∧ (∀ i x, m + i < z.1 → V[i]? = some x → lt x u) ∧ (∀ i x, z.2 ≤ m + i → V[i]? = some x → ¬ lt x u) ∧ Lst g h' A c (P ++ ([u] ++ (V ++ Q))), fun z => z.2 - z.1, (m, b), ⟨rfl, rfl, rfl, rfl, rfl, rfl, trivial⟩, ⟨by show m ≤ m ∧ m ≤ b ∧ b ≤ b; omega, (fun i x hi => by have hi : m + i < m := hi; omega), (fun i x hi hx => by have hi : b ≤ m + i := hi; have := (List.getElem?_eq_some_iff.1 hx).1; omega), H⟩, ?_⟩
    rintro ⟨i, j⟩ h3 ⟨⟨i1, i2, i3⟩, lo, hi, H3⟩
    simp only at i1 i2 i3 lo hi H3
    refine xif_of (fun hlt => ?_) (fun hge => ?_)
    · have hlt : (i : Int) < j := of_decide_eq_true hlt
      have em := mid_eq (i := i) (j := j) (by omega)
      obtain ⟨t, ht⟩ : ∃ t, (i + j) / 2 = m + t := ⟨(i + j) / 2 - m, by omega⟩
      rw [ht] at em
      obtain ⟨x, hx⟩ : ∃ x, V[t]? = some x := ⟨V[t]'(by omega), List.getElem?_eq_getElem (by omega)⟩
      obtain ⟨a1, hA1, l1, u1, c1⟩ := H3.rd em (gV hx)
      obtain ⟨a2, hA2, l2, u2, c2⟩ := H3.rd (z := (a : Int)) rfl gu
      rw [hk] at u1 u2
      refine ⟨by decide, a1, hA1, l1, u1, _, c1, a2, hA2, l2, u2, _, c2, ?_⟩
      refine (C.call h3 x u H3.ext (hDV x (List.mem_of_getElem? hx)) hDu).mono ?_
      rintro v h4 ⟨r, rfl, hr, x4⟩
      refine xif_of (fun q2 => ?_) (fun q2 => ?_)
      · have q2 : lt x u := hr.1 (of_decide_eq_true q2)
        have en : IntKind.i64.wrap (((m + t : Nat) : Int) + 1) = ((m + t + 1 : Nat) : Int) := by rw [wrap_i64 (by omega) (by omega)]; omega
        refine ⟨(m + t + 1, j), ⟨rfl, rfl, rfl, rfl, congrArg (fun x => some (Value.int .i64 x)) (by rw [em]; exact en), rfl, trivial⟩, ⟨by show m ≤ m + t + 1 ∧ m + t + 1 ≤ j ∧ j ≤ b; omega, (fun i' y hi' hy => ?_), hi, H3.after x4⟩, by show j - (m + t + 1) < j - i; omega⟩
        have hi' : m + i' < m + t + 1 := hi'
        exact S.lelt (le_at S hV hy hx (by omega)) q2
      · have q2 : ¬ lt x u := fun e => absurd (hr.2 e) (of_decide_eq_false q2)
        refine ⟨(i, m + t), ⟨rfl, rfl, rfl, rfl, rfl, congrArg (fun x => some (Value.int .i64 x)) em, trivial⟩, ⟨by show m ≤ i ∧ i ≤ m + t ∧ m + t ≤ b; omega, lo, (fun i' y hi' hy => ?_), H3.after x4⟩, by show m + t - i < j - i; omega⟩
        have hi' : m + t ≤ m + i' := hi'
        exact S.negt u x y q2 (le_at S hV hx hy (by omega))
    have hge : ¬ (i : Int) < j := of_decide_eq_false hge
    obtain rfl : i = j := by omega
    obtain ⟨s, rfl⟩ : ∃ s, i = m + s := ⟨i - m, by omega⟩
    have ei : IntKind.i64.wrap (((m + s : Nat) : Int) - 1) = ((a + s : Nat) : Int) := by rw [wrap_i64 (by omega) (by omega)]; omega
    refine ⟨Nat, fun n => [(0, .slice A k c), (10, .int .i64 ((m + s : Nat) : Int)), (13, .int .i64 ((a + n : Nat) : Int))], fun n h' => n ≤ s ∧ Lst g h' A c (P ++ (V.take n ++ u :: (V.drop n ++ Q))), fun n => s - n, 0, ⟨rfl, rfl, rfl, trivial⟩, ⟨Nat.zero_le _, by simpa using H3⟩, ?_⟩
    rintro n h4 ⟨hn, H4⟩
    have hlen : (P ++ (V.take n ++ u :: (V.drop n ++ Q))).length = k := by simp only [List.length_append, List.length_take, List.length_cons, List.length_drop]; omega
    refine xif_of (fun hlt => ?_) (fun hge => ?_)
    · have hlt : ((a + n : Nat) : Int) < IntKind.i64.wrap (((m + s : Nat) : Int) - 1) := of_decide_eq_true hlt
      rw [ei] at hlt
      obtain ⟨x, hx⟩ : ∃ x, V[n]? = some x := ⟨V[n]'(by omega), List.getElem?_eq_getElem (by omega)⟩
      have en : IntKind.i64.wrap (((a + n : Nat) : Int) + 1) = ((a + n + 1 : Nat) : Int) := by rw [wrap_i64 (by omega) (by omega)]; omega
      have g1 : (P ++ (V.take n ++ u :: (V.drop n ++ Q)))[a + n]? = some u := by
        rw [← List.append_assoc, show a + n = (P ++ V.take n).length by rw [List.length_append, List.length_take]; omega]
        exact mem_len
      have g2 : (P ++ (V.take n ++ u :: (V.drop n ++ Q)))[a + n + 1]? = some x := by
        obtain ⟨hl', rfl⟩ := List.getElem?_eq_some_iff.1 hx
        have : P ++ (V.take n ++ u :: (V.drop n ++ Q)) = (P ++ (V.take n ++ [u])) ++ V[n] :: (V.drop (n + 1) ++ Q) := by rw [List.drop_eq_getElem_cons hl', List.append_assoc, List.append_assoc]; rfl
        rw [this, show a + n + 1 = (P ++ (V.take n ++ [u])).length by simp only [List.length_append, List.length_take, List.length_singleton]; omega]
        exact mem_len
      obtain ⟨a1, hA1, l1, u1, c1⟩ := H4.rd en g2
      obtain ⟨a2, hA2, l2, u2, c2⟩ := H4.rd (z := ((a + n : Nat) : Int)) rfl g1
      rw [hlen] at u1 u2
      refine ⟨a1, hA1, l1, u1, _, c1, a2, hA2, l2, u2, _, c2, ?_⟩
      obtain ⟨a3, hA3, l3, u3, cs3, H5⟩ := H4.wr (z := ((a + n : Nat) : Int)) rfl (by rw [hlen]; omega) x
      rw [hlen] at u3
      refine ⟨a3, hA3, l3, u3, rfl, rfl, cs3, fun h5 s5 => ?_⟩
      have H5 := H5 h5 s5
      obtain ⟨a4, hA4, l4, u4, cs4, H6⟩ := H5.wr en (by rw [List.length_set, hlen]; omega) u
      rw [List.length_set, hlen] at u4
      refine ⟨a4, hA4, l4, u4, rfl, rfl, cs4, fun h6 s6 => ?_⟩
      have H6 := H6 h6 s6
      rw [move_right ha hx] at H6
      exact ⟨n + 1, ⟨rfl, rfl, congrArg (fun x => some (Value.int .i64 x)) en, trivial⟩, ⟨by omega, H6⟩, by show s - (n + 1) < s - n; omega⟩
    · have hge : ¬ ((a + n : Nat) : Int) < IntKind.i64.wrap (((m + s : Nat) : Int) - 1) := of_decide_eq_false hge
      rw [ei] at hge
      obtain rfl : n = s := by omega
      refine ⟨V.take n ++ u :: V.drop n, by simpa using H4, ?_, ?_⟩
      · exact List.perm_middle.trans (List.Perm.cons u (by rw [List.take_append_drop]; exact List.Perm.refl _))
      · rw [← List.take_append_drop n V] at hV
        obtain ⟨p1, p2, p3⟩ := List.pairwise_append.1 hV
        refine pw_app p1 (List.pairwise_cons.2 ⟨fun y hy => ?_, p2⟩) fun x hx y hy => ?_
        · obtain ⟨t, ht⟩ := List.getElem?_of_mem hy
          rw [List.getElem?_drop] at ht
          exact Lx.of_le (hi _ _ (by omega) ht) (hbf u (List.mem_cons_self ..) y (List.mem_of_getElem? ht))
        · rcases List.mem_cons.1 hy with rfl | hy
          · obtain ⟨t, ht⟩ := List.getElem?_of_mem hx
            have htl := (List.getElem?_eq_some_iff.1 ht).1
            rw [List.length_take] at htl
            rw [List.getElem?_take, if_pos (by omega)] at ht
            exact Lx.of_lt (lo _ _ (by omega) ht)
          · exact p3 x hx y hy
  have q : ¬ m - a = 1 := by
    intro e
    have : ((IntKind.i64.wrap ((m : Int) - (a : Int))) == 1) = false := q
    rw [e1, e] at this
    cases this
  refine xif_of (fun q2 => ?_) (fun q2 => ?_)
  · have q2 : b - m = 1 := by
      have : ((IntKind.i64.wrap ((b : Int) - (m : Int))) == 1) = true := q2
      rw [e2] at this
      simp only [beq_iff_eq] at this
      omega
    obtain ⟨v, rfl⟩ : ∃ v, V = [v] := List.length_eq_one_iff.1 (by omega)
    have gv : (P ++ (U ++ ([v] ++ Q)))[m]? = some v := gV (i := 0) rfl
    have hDv := hDV v (List.mem_cons_self ..)
    refine ⟨Nat × Nat, fun z => [(0, .slice A k c), (2, .int .i64 m), (4, .func (.func f) #[] #[.pointer (some ⟨lb, 0, none⟩)]), (14, .int .i64 z.1), (15, .int .i64 z.2)],
      fun z h' => (a ≤ z.1 ∧ z.1 ≤ z.2 ∧ z.2 ≤ m) ∧ (∀ i x, a + i < z.1 → U[i]? = some x → ¬ lt v x) ∧ (∀ i x, z.2 ≤ a + i → U[i]? = some x → lt v x) ∧ Lst g h' A c (P ++ (U ++ ([v] ++ Q))), fun z => z.2 - z.1, (a, m), ⟨rfl, rfl, rfl, rfl, rfl, trivial⟩, ⟨by show a ≤ a ∧ a ≤ m ∧ m ≤ m; omega, (fun i x hi => by have hi : a + i < a := hi; omega), (fun i x hi hx => by have hi : m ≤ a + i := hi; have := (List.getElem?_eq_some_iff.1 hx).1; omega), H⟩, ?_⟩
    rintro ⟨i, j⟩ h3 ⟨⟨i1, i2, i3⟩, lo, hi, H3⟩
    simp only at i1 i2 i3 lo hi H3
    refine xif_of (fun hlt => ?_) (fun hge => ?_)
    · have hlt : (i : Int) < j := of_decide_eq_true hlt
      have em := mid_eq (i := i) (j := j) (by omega)
      obtain ⟨t, ht⟩ : ∃ t, (i + j) / 2 = a + t := ⟨(i + j) / 2 - a, by omega⟩
      rw [ht] at em
      obtain ⟨x, hx⟩ : ∃ x, U[t]? = some x := ⟨U[t]'(by omega), List.getElem?_eq_getElem (by omega)⟩
      obtain ⟨a1, hA1, l1, u1, c1⟩ := H3.rd (z := (m : Int)) rfl gv
      obtain ⟨a2, hA2, l2, u2, c2⟩ := H3.rd em (gU hx)
      rw [hk] at u1 u2
      refine ⟨by decide, a1, hA1, l1, u1, _, c1, a2, hA2, l2, u2, _, c2, ?_⟩
      refine (C.call h3 v x H3.ext hDv (hDU x (List.mem_of_getElem? hx))).mono ?_
      rintro w h4 ⟨r, rfl, hr, x4⟩
      refine xif_of (fun q2 => ?_) (fun q2 => ?_)
      · have q2 : ¬ lt v x := fun e => by
          have := hr.2 e
          have q2 : (!decide (r < 0)) = true := q2
          simp at q2; omega
        have en : IntKind.i64.wrap (((a + t : Nat) : Int) + 1) = ((a + t + 1 : Nat) : Int) := by rw [wrap_i64 (by omega) (by omega)]; omega
        refine ⟨(a + t + 1, j), ⟨rfl, rfl, rfl, congrArg (fun x => some (Value.int .i64 x)) (by rw [em]; exact en), rfl, trivial⟩, ⟨by show a ≤ a + t + 1 ∧ a + t + 1 ≤ j ∧ j ≤ m; omega, (fun i' y hi' hy => ?_), hi, H3.after x4⟩, by show j - (a + t + 1) < j - i; omega⟩
        have hi' : a + i' < a + t + 1 := hi'
        exact S.negt y x v (le_at S hU hy hx (by omega)) q2
      · have q2 : lt v x := hr.1 (by have q2 : (!decide (r < 0)) = false := q2; simpa using q2)
        refine ⟨(i, a + t), ⟨rfl, rfl, rfl, rfl, congrArg (fun x => some (Value.int .i64 x)) em, trivial⟩, ⟨by show a ≤ i ∧ i ≤ a + t ∧ a + t ≤ m; omega, lo, (fun i' y hi' hy => ?_), H3.after x4⟩, by show a + t - i < j - i; omega⟩
        have hi' : a + t ≤ a + i' := hi'
        exact S.ltle q2 (le_at S hU hx hy (by omega))
    have hge : ¬ (i : Int) < j := of_decide_eq_false hge
    obtain rfl : i = j := by omega
    obtain ⟨s, rfl⟩ : ∃ s, i = a + s := ⟨i - a, by omega⟩
    refine ⟨Nat, fun n => [(0, .slice A k c), (14, .int .i64 ((a + s : Nat) : Int)), (17, .int .i64 ((a + n : Nat) : Int))], fun n h' => (s ≤ n ∧ a + n ≤ m) ∧ Lst g h' A c (P ++ (U.take n ++ v :: (U.drop n ++ Q))), fun n => n, U.length, ⟨rfl, rfl, congrArg (fun x : Nat => some (Value.int .i64 (x : Int))) hm.symm, trivial⟩, ⟨by omega, by simpa using H3⟩, ?_⟩
    rintro n h4 ⟨⟨hn, hn2⟩, H4⟩
    have hlen : (P ++ (U.take n ++ v :: (U.drop n ++ Q))).length = k := by simp only [List.length_append, List.length_take, List.length_cons, List.length_drop]; omega
    refine xif_of (fun hlt => ?_) (fun hge => ?_)
    · have hlt : ((a + n : Nat) : Int) > ((a + s : Nat) : Int) := of_decide_eq_true hlt
      obtain ⟨n, rfl⟩ : ∃ n', n = n' + 1 := ⟨n - 1, by omega⟩
      obtain ⟨x, hx⟩ : ∃ x, U[n]? = some x := ⟨U[n]'(by omega), List.getElem?_eq_getElem (by omega)⟩
      have en : IntKind.i64.wrap (((a + (n + 1) : Nat) : Int) - 1) = ((a + n : Nat) : Int) := by rw [wrap_i64 (by omega) (by omega)]; omega
      have g1 : (P ++ (U.take (n + 1) ++ v :: (U.drop (n + 1) ++ Q)))[a + (n + 1)]? = some v := by
        rw [← List.append_assoc, show a + (n + 1) = (P ++ U.take (n + 1)).length by rw [List.length_append, List.length_take]; omega]
        exact mem_len
      have g2 : (P ++ (U.take (n + 1) ++ v :: (U.drop (n + 1) ++ Q)))[a + n]? = some x := get3 ha (by rw [List.getElem?_take, if_pos (by omega), hx])
      obtain ⟨a1, hA1, l1, u1, c1⟩ := H4.rd en g2
      obtain ⟨a2, hA2, l2, u2, c2⟩ := H4.rd (z := ((a + (n + 1) : Nat) : Int)) rfl g1
      rw [hlen] at u1 u2
      refine ⟨a1, hA1, l1, u1, _, c1, a2, hA2, l2, u2, _, c2, ?_⟩
      obtain ⟨a3, hA3, l3, u3, cs3, H5⟩ := H4.wr (z := ((a + (n + 1) : Nat) : Int)) rfl (by rw [hlen]; omega) x
      rw [hlen] at u3
      refine ⟨a3, hA3, l3, u3, rfl, rfl, cs3, fun h5 s5 => ?_⟩
      have H5 := H5 h5 s5
      obtain ⟨a4, hA4, l4, u4, cs4, H6⟩ := H5.wr en (by rw [List.length_set, hlen]; omega) v
      rw [List.length_set, hlen] at u4
      refine ⟨a4, hA4, l4, u4, rfl, rfl, cs4, fun h6 s6 => ?_⟩
      have H6 := H6 h6 s6
      rw [show a + (n + 1) = a + n + 1 by omega, move_left ha hx] at H6
      exact ⟨n, ⟨rfl, rfl, congrArg (fun x => some (Value.int .i64 x)) en, trivial⟩, ⟨by omega, H6⟩, by show n < n + 1; omega⟩
    · have hge : ¬ ((a + n : Nat) : Int) > ((a + s : Nat) : Int) := of_decide_eq_false hge
      obtain rfl : n = s := by omega
      refine ⟨U.take n ++ v :: U.drop n, by simpa using H4, ?_, ?_⟩
      · refine List.perm_middle.trans ?_
        rw [List.take_append_drop]
        exact (List.perm_append_comm (l₁ := [v]))
      · rw [← List.take_append_drop n U] at hU
        obtain ⟨p1, p2, p3⟩ := List.pairwise_append.1 hU
        refine pw_app p1 (List.pairwise_cons.2 ⟨fun y hy => ?_, p2⟩) fun x hx y hy => ?_
        · obtain ⟨t, ht⟩ := List.getElem?_of_mem hy
          rw [List.getElem?_drop] at ht
          exact Lx.of_lt (hi _ _ (by omega) ht)
        · rcases List.mem_cons.1 hy with rfl | hy
          · obtain ⟨t, ht⟩ := List.getElem?_of_mem hx
            have htl := (List.getElem?_eq_some_iff.1 ht).1
            rw [List.length_take] at htl
            rw [List.getElem?_take, if_pos (by omega)] at ht
            exact Lx.of_le (lo _ _ (by omega) ht) (hbf x (List.mem_of_getElem? ht) y (List.mem_cons_self ..))
          · exact p3 x hx y hy
  have q2 : ¬ b - m = 1 := by
    intro e
    have : ((IntKind.i64.wrap ((b : Int) - (m : Int))) == 1) = false := q2
    rw [e2, e] at this
    cases this
  have em := mid_eq (i := a) (j := b) (by omega)
  obtain ⟨mid, hmid⟩ : ∃ mid, (a + b) / 2 = mid := ⟨_, rfl⟩
  rw [hmid] at em
  have en : IntKind.i64.wrap ((mid : Int) + (m : Int)) = ((mid + m : Nat) : Int) := by rw [wrap_i64 (by omega) (by omega)]; omega
  have en2 : IntKind.i64.wrap (((mid + m : Nat) : Int) - (b : Int)) = ((mid + m - b : Nat) : Int) ∨ ¬ m > mid := by
    by_cases q : m > mid
    · left; rw [wrap_i64 (by omega) (by omega)]; omega
    · exact .inr q
  refine ⟨by decide, ?_⟩
  refine ⟨Nat × Nat, fun z => [(0, .slice A k c), (1, .int .i64 a), (2, .int .i64 m), (3, .int .i64 b), (4, .func (.func f) #[] #[.pointer (some ⟨lb, 0, none⟩)]), (18, .int .i64 mid), (19, .int .i64 ((mid + m : Nat) : Int)), (20, .int .i64 z.1), (21, .int .i64 z.2)],
    fun z h' => ((m > mid ∧ z.1 = mid + m - b ∧ z.2 = mid) ∨ (m ≤ mid ∧ z.1 = a ∧ z.2 = m)) ∧ h' = h, ?_, ?_⟩
  · refine xif_of (fun q => ?_) (fun q => ?_)
    · have q : (m : Int) > IntKind.i64.wrap ((IntKind.u64.wrap (IntKind.i64.wrap ((a : Int) + (b : Int)))).fdiv (2 ^ (min (1 : Int).toNat IntKind.u64.bits))) := of_decide_eq_true q
      rw [em] at q
      have e3 := en2.resolve_right (by omega)
      exact ⟨(mid + m - b, mid), ⟨rfl, rfl, rfl, rfl, rfl, congrArg (fun x => some (Value.int .i64 x)) em, congrArg (fun x => some (Value.int .i64 x)) (by rw [em]; exact en), congrArg (fun x => some (Value.int .i64 x)) (by rw [em, en]; exact e3), congrArg (fun x => some (Value.int .i64 x)) em, trivial⟩, .inl ⟨by omega, rfl, rfl⟩, rfl⟩
    · have q : ¬ (m : Int) > IntKind.i64.wrap ((IntKind.u64.wrap (IntKind.i64.wrap ((a : Int) + (b : Int)))).fdiv (2 ^ (min (1 : Int).toNat IntKind.u64.bits))) := of_decide_eq_false q
      rw [em] at q
      exact ⟨(a, m), ⟨rfl, rfl, rfl, rfl, rfl, congrArg (fun x => some (Value.int .i64 x)) em, congrArg (fun x => some (Value.int .i64 x)) (by rw [em]; exact en), rfl, rfl, trivial⟩, .inr ⟨by omega, rfl, rfl⟩, rfl⟩
  rintro ⟨s0, r0⟩ h2 ⟨hsr, rfl⟩
  simp only at hsr
  have bs : a ≤ s0 ∧ s0 ≤ r0 ∧ r0 ≤ m ∧ r0 ≤ mid ∧ mid + m - b ≤ s0 ∧ a < mid ∧ mid < b := by omega
  have ep : IntKind.i64.wrap (((mid + m : Nat) : Int) - 1) = ((mid + m - 1 : Nat) : Int) := by rw [wrap_i64 (by omega) (by omega)]; omega
  refine ⟨Nat × Nat, fun z => [(0, .slice A k c), (1, .int .i64 a), (2, .int .i64 m), (3, .int .i64 b), (4, .func (.func f) #[] #[.pointer (some ⟨lb, 0, none⟩)]), (18, .int .i64 mid), (19, .int .i64 ((mid + m : Nat) : Int)), (20, .int .i64 z.1), (21, .int .i64 z.2), (22, .int .i64 ((mid + m - 1 : Nat) : Int))],
    fun z h' => (s0 ≤ z.1 ∧ z.1 ≤ z.2 ∧ z.2 ≤ r0) ∧ (s0 < z.1 → ∃ x y, U[z.1 - 1 - a]? = some x ∧ V[mid - z.1]? = some y ∧ ¬ lt y x) ∧ (z.2 < r0 → ∃ x y, U[z.2 - a]? = some x ∧ V[mid - 1 - z.2]? = some y ∧ lt y x) ∧ Lst g h' A c (P ++ (U ++ (V ++ Q))), fun z => z.2 - z.1, (s0, r0),
    ⟨rfl, rfl, rfl, rfl, rfl, rfl, rfl, rfl, rfl, congrArg (fun x => some (Value.int .i64 x)) ep, trivial⟩, ⟨by show s0 ≤ s0 ∧ s0 ≤ r0 ∧ r0 ≤ r0; omega, (fun e => by have e : s0 < s0 := e; omega), (fun e => by have e : r0 < r0 := e; omega), H⟩, ?_⟩
  rintro ⟨s, r⟩ h3 ⟨⟨s1, s2, s3⟩, lo, hi, H3⟩
  simp only at s1 s2 s3 lo hi H3
  refine xif_of (fun hlt => ?_) (fun hge => ?_)
  · have hlt : (s : Int) < r := of_decide_eq_true hlt
    have ec := mid_eq (i := s) (j := r) (by omega)
    obtain ⟨t, ht⟩ : ∃ t, (s + r) / 2 = t := ⟨_, rfl⟩
    rw [ht] at ec
    have ed : IntKind.i64.wrap (((mid + m - 1 : Nat) : Int) - (t : Int)) = ((m + (mid - 1 - t) : Nat) : Int) := by rw [wrap_i64 (by omega) (by omega)]; omega
    obtain ⟨x, hx⟩ : ∃ x, U[t - a]? = some x := ⟨U[t - a]'(by omega), List.getElem?_eq_getElem (by omega)⟩
    obtain ⟨y, hy⟩ : ∃ y, V[mid - 1 - t]? = some y := ⟨V[mid - 1 - t]'(by omega), List.getElem?_eq_getElem (by omega)⟩
    have gx := gU hx
    rw [show a + (t - a) = t by omega] at gx
    obtain ⟨a1, hA1, l1, u1, c1⟩ := H3.rd (z := IntKind.i64.wrap (((mid + m - 1 : Nat) : Int) - IntKind.i64.wrap ((IntKind.u64.wrap (IntKind.i64.wrap ((s : Int) + (r : Int)))).fdiv (2 ^ (min (1 : Int).toNat IntKind.u64.bits))))) (by rw [ec]; exact ed) (gV hy)
    obtain ⟨a2, hA2, l2, u2, c2⟩ := H3.rd ec gx
    rw [hk] at u1 u2
    refine ⟨by decide, a1, hA1, l1, u1, _, c1, a2, hA2, l2, u2, _, c2, ?_⟩
    refine (C.call h3 y x H3.ext (hDV y (List.mem_of_getElem? hy)) (hDU x (List.mem_of_getElem? hx))).mono ?_
    rintro w h4 ⟨q, rfl, hq, x4⟩
    refine xif_of (fun q2 => ?_) (fun q2 => ?_)
    · have q2 : ¬ lt y x := fun e => by
        have := hq.2 e
        have q2 : (!decide (q < 0)) = true := q2
        simp at q2; omega
      have e5 : IntKind.i64.wrap ((t : Int) + 1) = ((t + 1 : Nat) : Int) := by rw [wrap_i64 (by omega) (by omega)]; omega
      refine ⟨(t + 1, r), ⟨rfl, rfl, rfl, rfl, rfl, rfl, rfl, congrArg (fun x => some (Value.int .i64 x)) (by rw [ec]; exact e5), rfl, rfl, trivial⟩, ⟨by show s0 ≤ t + 1 ∧ t + 1 ≤ r ∧ r ≤ r0; omega, (fun _ => ⟨x, y, by show U[t + 1 - 1 - a]? = _; rw [Nat.add_sub_cancel]; exact hx, by show V[mid - (t + 1)]? = _; rw [show mid - (t + 1) = mid - 1 - t by omega]; exact hy, q2⟩), hi, H3.after x4⟩, by show r - (t + 1) < r - s; omega⟩
    · have q2 : lt y x := hq.1 (by have q2 : (!decide (q < 0)) = false := q2; simpa using q2)
      refine ⟨(s, t), ⟨rfl, rfl, rfl, rfl, rfl, rfl, rfl, rfl, congrArg (fun x => some (Value.int .i64 x)) ec, rfl, trivial⟩, ⟨by show s0 ≤ s ∧ s ≤ t ∧ t ≤ r0; omega, lo, (fun _ => ⟨x, y, hx, hy, q2⟩), H3.after x4⟩, by show t - s < r - s; omega⟩
  have hge : ¬ (s : Int) < r := of_decide_eq_false hge
  obtain rfl : s = r := by omega
  have ee : IntKind.i64.wrap (((mid + m : Nat) : Int) - (s : Int)) = ((mid + m - s : Nat) : Int) := by rw [wrap_i64 (by omega) (by omega)]; omega
  obtain ⟨U1, hU1⟩ : ∃ U1, U.take (s - a) = U1 := ⟨_, rfl⟩
  obtain ⟨U2, hU2⟩ : ∃ U2, U.drop (s - a) = U2 := ⟨_, rfl⟩
  obtain ⟨V1, hV1⟩ : ∃ V1, V.take (mid - s) = V1 := ⟨_, rfl⟩
  obtain ⟨V2, hV2⟩ : ∃ V2, V.drop (mid - s) = V2 := ⟨_, rfl⟩
  have eU : U = U1 ++ U2 := by rw [← hU1, ← hU2, List.take_append_drop]
  have eV : V = V1 ++ V2 := by rw [← hV1, ← hV2, List.take_append_drop]
  have lU1 : U1.length = s - a := by rw [← hU1, List.length_take]; omega
  have lU2 : U2.length = m - s := by rw [← hU2, List.length_drop]; omega
  have lV1 : V1.length = mid - s := by rw [← hV1, List.length_take]; omega
  have lV2 : V2.length = b - (mid + m - s) := by rw [← hV2, List.length_drop]; omega
  have h12 : ∀ x ∈ U1, ∀ y ∈ V2, ¬ lt y x := by
    intro x hx y hy
    by_cases q : s0 < s
    · obtain ⟨x0, y0, g1, g2, g3⟩ := lo q
      obtain ⟨i, hi'⟩ := List.getElem?_of_mem hx
      have hil := (List.getElem?_eq_some_iff.1 hi').1
      rw [← hU1, List.getElem?_take, if_pos (by omega)] at hi'
      obtain ⟨j, hj'⟩ := List.getElem?_of_mem hy
      rw [← hV2, List.getElem?_drop] at hj'
      have q1 := le_at S hU hi' g1 (by omega)
      have q2 := le_at S hV g2 hj' (by omega)
      exact S.negt x y0 y (S.negt x x0 y0 q1 g3) q2
    · have := List.length_pos_of_mem hx
      have := List.length_pos_of_mem hy
      omega
  have h21 : ∀ x ∈ V1, ∀ y ∈ U2, lt x y := by
    intro x hx y hy
    by_cases q : s < r0
    · obtain ⟨x0, y0, g1, g2, g3⟩ := hi q
      obtain ⟨i, hi'⟩ := List.getElem?_of_mem hx
      have hil := (List.getElem?_eq_some_iff.1 hi').1
      rw [← hV1, List.getElem?_take, if_pos (by omega)] at hi'
      obtain ⟨j, hj'⟩ := List.getElem?_of_mem hy
      rw [← hU2, List.getElem?_drop] at hj'
      have q1 := le_at S hV hi' g2 (by omega)
      have q2 := le_at S hU g1 hj' (by omega)
      exact S.ltle (S.lelt q1 g3) q2
    · have := List.length_pos_of_mem hx
      have := List.length_pos_of_mem hy
      omega
  have hlen4 : (P ++ (U1 ++ (V1 ++ (U2 ++ (V2 ++ Q))))).length = k := by simp only [List.length_append]; omega
  rw [eU] at hU
  rw [eV] at hV
  rw [eU, eV] at hbf H3
  rw [eU] at hDU
  rw [eV] at hDV
  have hU' := List.pairwise_append.1 hU
  have hV' := List.pairwise_append.1 hV
  have H3' : Lst g h3 A c ((P ++ U1) ++ (U2 ++ (V1 ++ (V2 ++ Q)))) := by simpa only [List.append_assoc] using H3
  refine ⟨Unit, fun _ => [(0, .slice A k c), (1, .int .i64 a), (3, .int .i64 b), (4, .func (.func f) #[] #[.pointer (some ⟨lb, 0, none⟩)]), (18, .int .i64 mid), (20, .int .i64 s), (24, .int .i64 ((mid + m - s : Nat) : Int))],
    fun _ h' => Lst g h' A c (P ++ (U1 ++ (V1 ++ (U2 ++ (V2 ++ Q))))), ?_, ?_⟩
  · have same : (U2 = [] ∨ V1 = []) → Lst g h3 A c (P ++ (U1 ++ (V1 ++ (U2 ++ (V2 ++ Q))))) := by
      rintro (e | e) <;> subst e <;> simpa only [List.append_assoc, List.nil_append] using H3'
    refine xif_of (fun q => ?_) (fun q => ?_)
    rotate_left
    · have q : ¬ (s : Int) < m := of_decide_eq_false q
      exact ⟨(), ⟨rfl, rfl, rfl, rfl, rfl, rfl, congrArg (fun x => some (Value.int .i64 x)) ee, trivial⟩, same (.inl (List.length_eq_zero_iff.1 (by omega)))⟩
    have q : (s : Int) < m := of_decide_eq_true q
    refine xif_of (fun q2 => ?_) (fun q2 => ?_)
    rotate_left
    · have q2 : ¬ (m : Int) < IntKind.i64.wrap (((mid + m : Nat) : Int) - (s : Int)) := of_decide_eq_false q2
      rw [ee] at q2
      exact ⟨(), ⟨rfl, rfl, rfl, rfl, rfl, rfl, congrArg (fun x => some (Value.int .i64 x)) ee, trivial⟩, same (.inr (List.length_eq_zero_iff.1 (by omega)))⟩
    have q2 : (m : Int) < IntKind.i64.wrap (((mid + m : Nat) : Int) - (s : Int)) := of_decide_eq_true q2
    rw [ee] at q2
    have := gRotate_spec (a := s) (m := m) (b := mid + m - s) (k := k) (fv := .func (.func f) #[] #[.pointer (some ⟨lb, 0, none⟩)]) H3' (by rw [List.length_append]; omega) (by omega) (by omega) (by omega) (by omega) (by simp only [List.length_append]; omega) hbig
    rw [← ee] at this
    refine this.mono ?_
    rintro w h4 H4
    exact ⟨(), ⟨rfl, rfl, rfl, rfl, rfl, rfl, congrArg (fun x => some (Value.int .i64 x)) ee, trivial⟩, by simpa only [List.append_assoc] using H4⟩
  rintro _ h4 H4
  refine ⟨List EI, fun _ => [(0, .slice A k c), (3, .int .i64 b), (4, .func (.func f) #[] #[.pointer (some ⟨lb, 0, none⟩)]), (18, .int .i64 mid), (24, .int .i64 ((mid + m - s : Nat) : Int))],
    fun W1 h' => W1.Perm (U1 ++ V1) ∧ W1.Pairwise (Lx lt bf) ∧ Lst g h' A c (P ++ (W1 ++ (U2 ++ (V2 ++ Q)))), ?_, ?_⟩
  · have same : (U1 = [] ∨ V1 = []) → (U1 ++ V1).Pairwise (Lx lt bf) := by
      rintro (e | e) <;> subst e
      · exact hV'.1
      · rw [List.append_nil]; exact hU'.1
    have H4' : Lst g h4 A c (P ++ ((U1 ++ V1) ++ (U2 ++ (V2 ++ Q)))) := by simpa only [List.append_assoc] using H4
    refine xif_of (fun q => ?_) (fun q => ?_)
    rotate_left
    · have q : ¬ (a : Int) < s := of_decide_eq_false q
      exact ⟨U1 ++ V1, ⟨rfl, rfl, rfl, rfl, rfl, trivial⟩, List.Perm.refl _, same (.inl (List.length_eq_zero_iff.1 (by omega))), H4'⟩
    have q : (a : Int) < s := of_decide_eq_true q
    refine xif_of (fun q2 => ?_) (fun q2 => ?_)
    rotate_left
    · have q2 : ¬ (s : Int) < mid := of_decide_eq_false q2
      exact ⟨U1 ++ V1, ⟨rfl, rfl, rfl, rfl, rfl, trivial⟩, List.Perm.refl _, same (.inr (List.length_eq_zero_iff.1 (by omega))), H4'⟩
    have q2 : (s : Int) < mid := of_decide_eq_true q2
    refine (ih (a := a) (m := s) (b := mid) (k := k) (by omega) H4 ha (by omega) (by omega) (by omega) (by omega) hlen4 hbig hU'.1 hV'.1 (fun x hx y hy => hbf x (List.mem_append_left _ hx) y (List.mem_append_left _ hy)) (fun x hx => hDU x (List.mem_append_left _ hx)) (fun x hx => hDV x (List.mem_append_left _ hx))).mono ?_
    rintro w h5 ⟨W, H5, p5, s5⟩
    exact ⟨W, ⟨rfl, rfl, rfl, rfl, rfl, trivial⟩, p5, s5, H5⟩
  rintro W1 h5 ⟨p5, s5, H5⟩
  have lW1 := p5.length_eq
  rw [List.length_append] at lW1
  have same : (U2 = [] ∨ V2 = []) → (U2 ++ V2).Pairwise (Lx lt bf) := by
    rintro (e | e) <;> subst e
    · exact hV'.2.1
    · rw [List.append_nil]; exact hU'.2.1
  have four : ∀ W2 : List EI, W2.Perm (U2 ++ V2) → W2.Pairwise (Lx lt bf) → (W1 ++ W2).Perm (U ++ V) ∧ (W1 ++ W2).Pairwise (Lx lt bf) := by
    intro W2 p6 s6
    refine ⟨?_, pw_four S hU hV hbf h12 h21 p5 p6 s5 s6⟩
    refine (List.Perm.append p5 p6).trans ?_
    rw [eU, eV]
    have : (V1 ++ (U2 ++ V2)).Perm (U2 ++ (V1 ++ V2)) := by
      rw [← List.append_assoc, ← List.append_assoc]
      exact List.Perm.append_right V2 List.perm_append_comm
    simpa only [List.append_assoc] using List.Perm.append_left U1 this
  have H5' : Lst g h5 A c (P ++ ((W1 ++ (U2 ++ V2)) ++ Q)) := by simpa only [List.append_assoc] using H5
  refine xif_of (fun q => ?_) (fun q => ?_)
  rotate_left
  · have q : ¬ (mid : Int) < ((mid + m - s : Nat) : Int) := of_decide_eq_false q
    obtain ⟨r1, r2⟩ := four _ (List.Perm.refl _) (same (.inl (List.length_eq_zero_iff.1 (by omega))))
    exact ⟨_, H5', r1, r2⟩
  have q : (mid : Int) < ((mid + m - s : Nat) : Int) := of_decide_eq_true q
  refine xif_of (fun q2 => ?_) (fun q2 => ?_)
  rotate_left
  · have q2 : ¬ ((mid + m - s : Nat) : Int) < b := of_decide_eq_false q2
    obtain ⟨r1, r2⟩ := four _ (List.Perm.refl _) (same (.inr (List.length_eq_zero_iff.1 (by omega))))
    exact ⟨_, H5', r1, r2⟩
  have q2 : ((mid + m - s : Nat) : Int) < b := of_decide_eq_true q2
  have H5'' : Lst g h5 A c ((P ++ W1) ++ (U2 ++ (V2 ++ Q))) := by simpa only [List.append_assoc] using H5
  refine (ih (a := mid) (m := mid + m - s) (b := b) (k := k) (by omega) H5'' (by rw [List.length_append]; omega) (by omega) (by omega) (by omega) (by omega) (by simp only [List.length_append]; omega) hbig hU'.2.1 hV'.2.1 (fun x hx y hy => hbf x (List.mem_append_right _ hx) y (List.mem_append_right _ hy)) (fun x hx => hDU x (List.mem_append_right _ hx)) (fun x hx => hDV x (List.mem_append_right _ hx))).mono ?_
  rintro w h6 ⟨W2, H6, p6, s6⟩
  obtain ⟨r1, r2⟩ := four W2 p6 s6
  exact ⟨W1 ++ W2, by simpa only [List.append_assoc] using H6, r1, r2⟩
end
end Go.Proofs.YtcjoenkpibhmoaaGreatE
