/- Go's stable sort of numbers by a function: the whole. Conditions: the list is the call's own, and not long; the function is a strict weak order and leaves all as it is. -/
import Derived.Test.YtgiofdiifkahoaaGreatXH2
set_option linter.unusedVariables false
set_option linter.unusedSimpArgs false
set_option maxRecDepth 100000
namespace Go.Proofs.YtgiofdiifkahoaaGreatE
open Go Go.Proofs
section
variable {α : Type} {lt bf : α → α → Prop}
/-- A part of a list is that of another one, in order. -/
structure Ok1 (lt bf : α → α → Prop) (lo hi : Nat) (L L0 : List α) : Prop where
  perm : (seg lo hi L).Perm (seg lo hi L0)
  sorted : (seg lo hi L).Pairwise (Lx lt bf)
theorem seg_eq (a b : Nat) (L : List α) : seg a b L = (L.drop a).take (b - a) := by unfold seg; exact List.drop_take ..
theorem seg_out {P T W Q : List α} {lo hi : Nat} (hw : W.length = T.length) (h : hi ≤ P.length ∨ P.length + T.length ≤ lo) : seg lo hi (P ++ (W ++ Q)) = seg lo hi (P ++ (T ++ Q)) := by
  rcases h with h | h
  · unfold seg
    rw [List.take_append_of_le_length h, List.take_append_of_le_length h]
  · rw [seg_eq, seg_eq]
    have e : ∀ X : List α, X.length = T.length → (P ++ (X ++ Q)).drop lo = Q.drop (lo - (P.length + T.length)) := by
      intro X hX
      rw [← List.append_assoc, List.drop_append, List.drop_eq_nil_of_le (by rw [List.length_append]; omega), List.nil_append, List.length_append, hX]
    rw [e W hw, e T rfl]
theorem seg_none {lo hi : Nat} {L : List α} (h : L.length ≤ lo) : seg lo hi L = [] := by
  rw [seg_eq, List.drop_eq_nil_of_le h, List.take_nil]
theorem seg_more {lo hi hi' : Nat} {L : List α} (h : L.length ≤ hi) (h' : L.length ≤ hi') : seg lo hi L = seg lo hi' L := by
  unfold seg; rw [List.take_of_length_le h, List.take_of_length_le h']
theorem ok_none {lo hi : Nat} {L L0 : List α} (h : L.length ≤ lo) (hl : L.length = L0.length) : Ok1 lt bf lo hi L L0 := by
  refine ⟨?_, ?_⟩
  · rw [seg_none h, seg_none (by omega)]
  · rw [seg_none h]; exact List.Pairwise.nil
theorem ok_more {lo hi hi' : Nat} {L L0 : List α} (o : Ok1 lt bf lo hi L L0) (h : L.length ≤ hi) (h' : L.length ≤ hi') (hl : L.length = L0.length) : Ok1 lt bf lo hi' L L0 := by
  refine ⟨?_, ?_⟩
  · rw [seg_more h' h, seg_more (L := L0) (by omega) (by omega : L0.length ≤ hi)]; exact o.perm
  · rw [seg_more h' h]; exact o.sorted
theorem ok_out {P T W Q L0 : List α} {lo hi : Nat} (hw : W.length = T.length) (h : hi ≤ P.length ∨ P.length + T.length ≤ lo) (o : Ok1 lt bf lo hi (P ++ (T ++ Q)) L0) : Ok1 lt bf lo hi (P ++ (W ++ Q)) L0 := by
  refine ⟨?_, ?_⟩
  · rw [seg_out hw h]; exact o.perm
  · rw [seg_out hw h]; exact o.sorted
theorem seg_pw {L : List α} (h : L.Pairwise bf) (a b : Nat) : (seg a b L).Pairwise bf := by unfold seg; exact (h.take).drop
theorem seg_cross {L : List α} (h : L.Pairwise bf) {a m b : Nat} (h1 : a ≤ m) (h2 : m ≤ b) : ∀ x ∈ seg a m L, ∀ y ∈ seg m b L, bf x y := by
  have := seg_pw h a b
  rw [seg_split h1 h2] at this
  exact (List.pairwise_append.1 this).2.2
theorem seg_mem {L : List α} {a b : Nat} {x : α} (h : x ∈ seg a b L) : x ∈ L := List.mem_of_mem_take (List.mem_of_mem_drop h)
end
section
variable {g h h' : Heap} {A : Option Addr} {c : Nat} {lt bf : EI → EI → Prop} {D : EI → Prop} {f lb : Nat}
/-- A part is sorted in its place. -/
theorem ins_part (S : Swo lt) (C : CmpOk g lt D f lb) {L L0 : List EI} {a b k : Nat} (H : Lst g h A c L) (hk : L.length = k) (hbig : k ≤ 100000) (h1 : a ≤ b) (h2 : b ≤ k) (hs : seg a b L = seg a b L0) (asc : L0.Pairwise bf) (hD : ∀ x ∈ L0, D x) :
    HCalls Tryz.prog 147 #[.slice A k c, .int .i64 a, .int .i64 b, .func (.func f) #[] #[.pointer (some ⟨lb, 0, none⟩)]] h (fun v h' => ∃ L', Lst g h' A c L' ∧ L'.length = k ∧ Ok1 lt bf a b L' L0 ∧ (∀ lo hi, hi ≤ a ∨ b ≤ lo → seg lo hi L' = seg lo hi L) ∧ L'.drop b = L.drop b) := by
  have hc := cut3 (L := L) h1 (by omega)
  have hl := seg_len a b L (by omega)
  have hta : (L.take a).length = a := by rw [List.length_take]; omega
  have H' := H
  rw [hc] at H'
  refine (gIns_spec (bf := bf) S C (a := a) (b := b) (k := k) H' hta (by omega) (by rw [← hc]; exact hk) hbig (by rw [hs]; exact seg_pw asc a b) (by rw [hs]; exact fun x hx => hD x (seg_mem hx))).mono ?_
  rintro v h' ⟨W, HW, p, s⟩
  have hw := p.length_eq
  have e : seg a b (L.take a ++ (W ++ L.drop b)) = W := seg_app hta (by omega)
  refine ⟨_, HW, ?_, ⟨by rw [e, ← hs]; exact p, by rw [e]; exact s⟩, fun lo hi q => ?_, ?_⟩
  · simp only [List.length_append, List.length_drop]; omega
  · rw [seg_out (T := seg a b L) (by omega) (by omega), ← hc]
  · rw [← List.append_assoc, List.drop_append, List.drop_eq_nil_of_le (by rw [List.length_append]; omega), List.nil_append, List.length_append, show b - ((L.take a).length + W.length) = 0 by omega, List.drop_zero]
/-- Two parts are merged in their place. -/
theorem sym_part (S : Swo lt) (C : CmpOk g lt D f lb) {L L0 : List EI} {a m b k : Nat} (H : Lst g h A c L) (hk : L.length = k) (hk0 : L0.length = k) (hbig : k ≤ 100000) (h1 : a < m) (h2 : m < b) (h3 : b ≤ k) (o1 : Ok1 lt bf a m L L0) (o2 : Ok1 lt bf m b L L0) (asc : L0.Pairwise bf) (hD : ∀ x ∈ L0, D x) :
    HCalls Tryz.prog 148 #[.slice A k c, .int .i64 a, .int .i64 m, .int .i64 b, .func (.func f) #[] #[.pointer (some ⟨lb, 0, none⟩)]] h (fun v h' => ∃ L', Lst g h' A c L' ∧ L'.length = k ∧ Ok1 lt bf a b L' L0 ∧ (∀ lo hi, hi ≤ a ∨ b ≤ lo → seg lo hi L' = seg lo hi L)) := by
  have hc := cut3 (L := L) (a := a) (b := b) (by omega) (by omega)
  have hsp := seg_split (L := L) (a := a) (m := m) (b := b) (by omega) (by omega)
  have hsp0 := seg_split (L := L0) (a := a) (m := m) (b := b) (by omega) (by omega)
  have hl1 := seg_len a m L (by omega)
  have hl2 := seg_len m b L (by omega)
  have hl := seg_len a b L (by omega)
  have hta : (L.take a).length = a := by rw [List.length_take]; omega
  have H' := H
  rw [hc, hsp, List.append_assoc] at H'
  refine (gSym_spec (bf := bf) S C (b - a) (a := a) (m := m) (b := b) (k := k) (Nat.le_refl _) H' hta (by omega) (by omega) h1 h2 (by rw [← List.append_assoc (seg a m L), ← hsp, ← hc]; exact hk) hbig o1.sorted o2.sorted (fun x hx y hy => seg_cross asc (by omega) (by omega) x (o1.perm.mem_iff.1 hx) y (o2.perm.mem_iff.1 hy)) (fun x hx => hD x (seg_mem (o1.perm.mem_iff.1 hx))) (fun x hx => hD x (seg_mem (o2.perm.mem_iff.1 hx)))).mono ?_
  rintro v h' ⟨W, HW, p, s⟩
  have hw := p.length_eq
  rw [List.length_append] at hw
  have e : seg a b (L.take a ++ (W ++ L.drop b)) = W := seg_app hta (by omega)
  refine ⟨_, HW, ?_, ⟨by rw [e, hsp0]; exact p.trans (List.Perm.append o1.perm o2.perm), by rw [e]; exact s⟩, fun lo hi q => ?_⟩
  · simp only [List.length_append, List.length_drop]; omega
  · rw [seg_out (T := seg a b L) (by omega) (by omega), ← hc]
theorem Ok1.same {lo hi : Nat} {L L' L0 : List EI} (o : Ok1 lt bf lo hi L L0) (e : seg lo hi L' = seg lo hi L) : Ok1 lt bf lo hi L' L0 := ⟨by rw [e]; exact o.perm, by rw [e]; exact o.sorted⟩
theorem gStable_spec (S : Swo lt) (C : CmpOk g lt D f lb) {L0 : List EI} {n : Nat} (H : Lst g h A c L0) (hn : L0.length = n) (hbig : n ≤ 10000) (asc : L0.Pairwise bf) (hD : ∀ x ∈ L0, D x) :
    HCalls Tryz.prog 121 #[.slice A n c, .int .i64 n, .func (.func f) #[] #[.pointer (some ⟨lb, 0, none⟩)]] h (fun v h' => ∃ L', Lst g h' A c L' ∧ L'.Perm L0 ∧ L'.Pairwise (Lx lt bf)) := by
  refine xcalls env0 Tryz.func121 rfl (by kernel_rfl) rfl (by kernel_rfl) ?_
  refine ⟨Nat × List EI, fun z => [(0, .slice A n c), (1, .int .i64 n), (2, .func (.func f) #[] #[.pointer (some ⟨lb, 0, none⟩)]), (6, .int .i64 20), (7, .int .i64 ((20 * z.1 : Nat) : Int)), (8, .int .i64 ((20 * z.1 + 20 : Nat) : Int))],
    fun z h' => (20 * z.1 ≤ n ∧ z.2.length = n) ∧ z.2.drop (20 * z.1) = L0.drop (20 * z.1) ∧ (∀ t, t < z.1 → Ok1 lt bf (t * 20) ((t + 1) * 20) z.2 L0) ∧ Lst g h' A c z.2, fun z => n - z.1, (0, L0), ⟨rfl, rfl, rfl, rfl, rfl, rfl, trivial⟩, ⟨⟨Nat.zero_le _, hn⟩, rfl, (fun t ht => by have ht : t < 0 := ht; omega), H⟩, ?_⟩
  rintro ⟨t, L⟩ h2 ⟨⟨i1, i2⟩, hd, ho, H2⟩
  simp only at i1 i2 hd ho H2
  have same : ∀ b, seg (20 * t) b L = seg (20 * t) b L0 := fun b => by rw [seg_eq, seg_eq, hd]
  refine xif_of (fun hle => ?_) (fun hgt => ?_)
  · have hle : ((20 * t + 20 : Nat) : Int) ≤ n := of_decide_eq_true hle
    refine (ins_part (bf := bf) S C (a := 20 * t) (b := 20 * t + 20) H2 i2 (by omega) (by omega) (by omega) (same _) asc hD).mono ?_
    rintro v h3 ⟨L', H3, l3, o3, s3, d3⟩
    have en : IntKind.i64.wrap (((20 * t + 20 : Nat) : Int) + 20) = ((20 * (t + 1) + 20 : Nat) : Int) := by rw [wrap_i64 (by omega) (by omega)]; omega
    refine ⟨(t + 1, L'), ⟨rfl, rfl, rfl, rfl, rfl, congrArg (fun x => some (Value.int .i64 x)) en, trivial⟩, ⟨⟨by show 20 * (t + 1) ≤ n; omega, l3⟩, ?_, fun t' ht' => ?_, H3⟩, by show n - (t + 1) < n - t; omega⟩
    · show L'.drop (20 * t + 20) = L0.drop (20 * t + 20)
      rw [d3, ← List.drop_drop, hd, List.drop_drop]
    · by_cases e : t' = t
      · subst e
        rw [show t' * 20 = 20 * t' by omega, show (t' + 1) * 20 = 20 * t' + 20 by omega]
        exact o3
      · have ht' : t' < t + 1 := ht'
        exact (ho t' (by omega)).same (s3 _ _ (.inl (by omega)))
  have hgt : ¬ ((20 * t + 20 : Nat) : Int) ≤ n := of_decide_eq_false hgt
  refine (ins_part (bf := bf) S C (a := 20 * t) (b := n) H2 i2 (by omega) (by omega) (Nat.le_refl _) (same _) asc hD).mono ?_
  rintro v h3 ⟨L3, H3, l3, o3, s3, _⟩
  refine ⟨Nat × List EI, fun z => [(0, .slice A n c), (1, .int .i64 n), (2, .func (.func f) #[] #[.pointer (some ⟨lb, 0, none⟩)]), (6, .int .i64 z.1)],
    fun z h' => (1 ≤ z.1 ∧ z.1 ≤ 20 + 2 * n ∧ z.2.length = n) ∧ (∀ t, Ok1 lt bf (t * z.1) ((t + 1) * z.1) z.2 L0) ∧ Lst g h' A c z.2, fun z => 20 + 2 * n - z.1, (20, L3), ⟨rfl, rfl, rfl, rfl, trivial⟩, ⟨⟨by show 1 ≤ 20; omega, by show 20 ≤ 20 + 2 * n; omega, l3⟩, (fun t' => ?_), H3⟩, ?_⟩
  · show Ok1 lt bf (t' * 20) ((t' + 1) * 20) L3 L0
    rcases Nat.lt_trichotomy t' t with q | q | q
    · exact (ho t' q).same (s3 _ _ (.inl (by omega)))
    · subst q
      rw [show t' * 20 = 20 * t' by omega]
      exact ok_more o3 (by omega) (by omega) (by omega)
    · exact ok_none (by omega) (by omega)
  rintro ⟨k, L4⟩ h4 ⟨⟨k1, k2, l4⟩, o4, H4⟩
  simp only at k1 k2 l4 o4 H4
  refine xif_of (fun hlt => ?_) (fun hge => ?_)
  rotate_left
  · have hge : ¬ (k : Int) < n := of_decide_eq_false hge
    have := o4 0
    rw [Nat.zero_mul] at this
    have e : ∀ L : List EI, L.length = n → seg 0 ((0 + 1) * k) L = L := fun L hL => by unfold seg; rw [List.drop_zero, List.take_of_length_le (by omega)]
    obtain ⟨p, s⟩ := this
    rw [e _ l4, e _ hn] at p
    rw [e _ l4] at s
    exact ⟨L4, H4, p, s⟩
  have hlt : (k : Int) < n := of_decide_eq_true hlt
  have e2k : IntKind.i64.wrap (2 * (k : Int)) = ((2 * k : Nat) : Int) := by rw [wrap_i64 (by omega) (by omega)]; omega
  refine ⟨Nat × List EI, fun z => [(0, .slice A n c), (1, .int .i64 n), (2, .func (.func f) #[] #[.pointer (some ⟨lb, 0, none⟩)]), (6, .int .i64 k), (7, .int .i64 ((z.1 * (2 * k) : Nat) : Int)), (8, .int .i64 ((z.1 * (2 * k) + 2 * k : Nat) : Int))],
    fun z h' => (z.1 * (2 * k) ≤ n ∧ z.2.length = n) ∧ (∀ t, t < z.1 → Ok1 lt bf (t * (2 * k)) ((t + 1) * (2 * k)) z.2 L0) ∧ (∀ t, 2 * z.1 ≤ t → Ok1 lt bf (t * k) ((t + 1) * k) z.2 L0) ∧ Lst g h' A c z.2, fun z => n - z.1, (0, L4),
    ⟨rfl, rfl, rfl, rfl, congrArg (fun x : Nat => some (Value.int .i64 (x : Int))) (Nat.zero_mul _).symm, congrArg (fun x => some (Value.int .i64 x)) (by rw [e2k]; simp), trivial⟩, ⟨⟨by show 0 * (2 * k) ≤ n; omega, l4⟩, (fun t ht => by have ht : t < 0 := ht; omega), (fun t _ => o4 t), H4⟩, ?_⟩
  rintro ⟨t, L5⟩ h5 ⟨⟨a1, l5⟩, oA, oB, H5⟩
  simp only at a1 l5 oA oB H5
  have q1 := oB (2 * t) (Nat.le_refl _)
  have q2 := oB (2 * t + 1) (by omega)
  have m1 : 2 * t * k = t * (2 * k) := by rw [Nat.mul_comm 2 t, Nat.mul_assoc]
  have m2 : (2 * t + 1) * k = t * (2 * k) + k := by rw [Nat.succ_mul, m1]
  have m3 : (2 * t + 1 + 1) * k = t * (2 * k) + 2 * k := by rw [Nat.succ_mul, m2]; omega
  have m4 : (t + 1) * (2 * k) = t * (2 * k) + 2 * k := Nat.succ_mul ..
  rw [m1, m2] at q1
  rw [m2, m3] at q2
  obtain ⟨x, hx⟩ : ∃ x, t * (2 * k) = x := ⟨_, rfl⟩
  rw [hx] at q1 q2 m1 m2 m3 m4 a1
  have exk : IntKind.i64.wrap ((x : Int) + (k : Int)) = ((x + k : Nat) : Int) := by rw [wrap_i64 (by omega) (by omega)]; omega
  have small : ∀ t', t' < t → (t' + 1) * (2 * k) ≤ x := fun t' ht' => by rw [← hx]; exact Nat.mul_le_mul_right _ ht'
  have big : ∀ t', 2 * (t + 1) ≤ t' → x + 2 * k ≤ t' * k := fun t' ht' => by
    have := Nat.mul_le_mul_right k ht'
    have e : 2 * (t + 1) * k = x + 2 * k := by rw [← m4, Nat.mul_comm 2 (t + 1), Nat.mul_assoc]
    omega
  refine xif_of (fun hle => ?_) (fun hgt2 => ?_)
  · have hle : ((t * (2 * k) + 2 * k : Nat) : Int) ≤ n := of_decide_eq_true hle
    rw [hx] at hle
    have := sym_part (bf := bf) S C (a := x) (m := x + k) (b := x + 2 * k) H5 l5 hn (by omega) (by omega) (by omega) (by omega) q1 q2 asc hD
    rw [← exk, ← hx] at this
    refine this.mono ?_
    rintro v h6 ⟨L6, H6, l6, o6, s6⟩
    rw [hx] at o6 s6
    have en : IntKind.i64.wrap (((t * (2 * k) + 2 * k : Nat) : Int) + IntKind.i64.wrap ((k : Int) * 2)) = (((t + 1) * (2 * k) + 2 * k : Nat) : Int) := by
      rw [hx, m4, wrap_i64 (x := (k : Int) * 2) (by omega) (by omega), wrap_i64 (by omega) (by omega)]; omega
    have en0 : IntKind.i64.wrap (((t * (2 * k) + 2 * k : Nat) : Int) + IntKind.i64.wrap (2 * (k : Int))) = (((t + 1) * (2 * k) + 2 * k : Nat) : Int) := by
      rw [hx, m4, e2k, wrap_i64 (by omega) (by omega)]; omega
    have en1 : ((t * (2 * k) + 2 * k : Nat) : Int) = (((t + 1) * (2 * k) : Nat) : Int) := by rw [m4, hx]
    refine ⟨(t + 1, L6), ⟨rfl, rfl, rfl, rfl, congrArg (fun x => some (Value.int .i64 x)) en1, congrArg (fun x => some (Value.int .i64 x)) en0, trivial⟩, ⟨⟨by show (t + 1) * (2 * k) ≤ n; omega, l6⟩, (fun t' ht' => ?_), (fun t' ht' => ?_), H6⟩, ?_⟩
    · have ht' : t' < t + 1 := ht'
      by_cases e : t' = t
      · subst e
        rw [hx, m4]; exact o6
      · exact (oA t' (by omega)).same (s6 _ _ (.inl (small t' (by omega))))
    · have ht' : 2 * (t + 1) ≤ t' := ht'
      exact (oB t' (by omega)).same (s6 _ _ (.inr (big t' ht')))
    · show n - (t + 1) < n - t
      have : t ≤ x := by rw [← hx]; exact Nat.le_mul_of_pos_right _ (by omega)
      omega
  have hgt2 : ¬ ((t * (2 * k) + 2 * k : Nat) : Int) ≤ n := of_decide_eq_false hgt2
  rw [hx] at hgt2
  have ek2 : IntKind.i64.wrap ((k : Int) * 2) = ((2 * k : Nat) : Int) := by rw [wrap_i64 (by omega) (by omega)]; omega
  have fin : ∀ L6 : List EI, L6.length = n → Ok1 lt bf x (x + 2 * k) L6 L0 → (∀ lo hi, hi ≤ x → seg lo hi L6 = seg lo hi L5) → ∀ t', Ok1 lt bf (t' * (2 * k)) ((t' + 1) * (2 * k)) L6 L0 := by
    intro L6 l6 o6 s6 t'
    rcases Nat.lt_trichotomy t' t with q | q | q
    · exact (oA t' q).same (s6 _ _ (small t' q))
    · subst q
      rw [hx, m4]; exact o6
    · have : (t + 1) * (2 * k) ≤ t' * (2 * k) := Nat.mul_le_mul_right _ q
      exact ok_none (by omega) (by omega)
  refine xif_of (fun hm => ?_) (fun hm => ?_)
  · have hm : IntKind.i64.wrap (((t * (2 * k) : Nat) : Int) + (k : Int)) < n := of_decide_eq_true hm
    rw [hx, exk] at hm
    have q2' : Ok1 lt bf (x + k) n L5 L0 := ok_more q2 (by omega) (by omega) (by omega)
    have := sym_part (bf := bf) S C (a := x) (m := x + k) (b := n) H5 l5 hn (by omega) (by omega) (by omega) (Nat.le_refl _) q1 q2' asc hD
    rw [← exk, ← hx] at this
    refine this.mono ?_
    rintro v h6 ⟨L6, H6, l6, o6, s6⟩
    rw [hx] at o6 s6
    exact ⟨(2 * k, L6), ⟨rfl, rfl, rfl, congrArg (fun x => some (Value.int .i64 x)) ek2, trivial⟩, ⟨⟨by show 1 ≤ 2 * k; omega, by show 2 * k ≤ 20 + 2 * n; omega, l6⟩, fin L6 l6 (ok_more o6 (by omega) (by omega) (by omega)) (fun lo hi q => s6 lo hi (.inl q)), H6⟩, by show 20 + 2 * n - 2 * k < 20 + 2 * n - k; omega⟩
  · have hm : ¬ IntKind.i64.wrap (((t * (2 * k) : Nat) : Int) + (k : Int)) < n := of_decide_eq_false hm
    rw [hx, exk] at hm
    exact ⟨(2 * k, L5), ⟨rfl, rfl, rfl, congrArg (fun x => some (Value.int .i64 x)) ek2, trivial⟩, ⟨⟨by show 1 ≤ 2 * k; omega, by show 2 * k ≤ 20 + 2 * n; omega, l5⟩, fin L5 l5 (ok_more q1 (by omega) (by omega) (by omega)) (fun lo hi q => rfl), H5⟩, by show 20 + 2 * n - 2 * k < 20 + 2 * n - k; omega⟩
theorem gSort_spec (S : Swo lt) (C : CmpOk g lt D f lb) {L0 : List EI} {n : Nat} (H : Lst g h A c L0) (hn : L0.length = n) (hbig : n ≤ 10000) (asc : L0.Pairwise bf) (hD : ∀ x ∈ L0, D x) :
    HCalls Tryz.prog 84 #[.slice A n c, .func (.func f) #[] #[.pointer (some ⟨lb, 0, none⟩)]] h (fun v h' => ∃ L', Lst g h' A c L' ∧ L'.Perm L0 ∧ L'.Pairwise (Lx lt bf)) := by
  refine xcalls env0 Tryz.func84 rfl (by kernel_rfl) rfl (by kernel_rfl) ?_
  refine (gStable_spec S C H hn hbig asc hD).mono ?_
  rintro v h2 ⟨L', H2, p, s⟩
  exact ⟨L', H2, p, s⟩
end
end Go.Proofs.YtgiofdiifkahoaaGreatE
