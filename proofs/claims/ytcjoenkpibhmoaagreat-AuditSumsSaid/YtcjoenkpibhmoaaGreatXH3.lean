/- Go's stable sort of numbers by a function: the whole. Conditions: the list is the call's own, and not long; the function is a strict weak order and leaves all as it is. -/
import Derived.Test.YtcjoenkpibhmoaaGreatXH2
import Derived.Test.YtcjoenkpibhmoaaGreatXA4
set_option linter.unusedVariables false
set_option linter.unusedSimpArgs false
set_option maxRecDepth 100000
namespace Go.Proofs.YtcjoenkpibhmoaaGreatE
open Go Go.Proofs
def env_hOrder1 : Nat → Ann
  | 1 => ⟨.op 0 [] <| .op 1 [] <| .op 2 [] <| .op 3 [] <| .op 4 [] <| .op 5 [] <| .op 6 [] <| .op 7 [] <| .op 8 [] <| .op 9 [] <| .op 10 [] <| .op 11 [] <| .nil, [0, 0, 3, 7, 15, 0, 0, 96, 224, 480, 1023, 2047], false⟩
  | _ => ⟨.nil, [], false⟩
section
variable {α : Type} {lt bf : α → α → Prop}
/-- A part of a list is that of another one, in order. -/
structure Ok1 (lt bf : α → α → Prop) (lo hi : Nat) (L L0 : List α) : Prop where
  perm : (seg lo hi L).Perm (seg lo hi L0)
  sorted : (seg lo hi L).Pairwise (Lx lt bf)
theorem seg_eq (a b : Nat) (L : List α) : seg a b L = (L.drop a).take (b - a) := by unfold seg; exact List.drop_take ..
theorem seg_out {P T W Q : List α} {lo hi : Nat} (hw : W.length = T.length) (h : hi ≤ P.length ∨ P.length + T.length ≤ lo) : seg lo hi (P ++ (W ++ Q)) = seg lo hi (P ++ (T ++ Q)) := by
  rcases h with h | h
  · unfold seg
    rw [List.take_append_of_le_length h, List.take_append_of_le_length h]
  · rw [seg_eq, seg_eq]
    have e : ∀ X : List α, X.length = T.length → (P ++ (X ++ Q)).drop lo = Q.drop (lo - (P.length + T.length)) := by
      intro X hX
      rw [← List.append_assoc, List.drop_append, List.drop_eq_nil_of_le (by rw [List.length_append]; omega), List.nil_append, List.length_append, hX]
    rw [e W hw, e T rfl]
theorem seg_none {lo hi : Nat} {L : List α} (h : L.length ≤ lo) : seg lo hi L = [] := by
  rw [seg_eq, List.drop_eq_nil_of_le h, List.take_nil]
theorem seg_more {lo hi hi' : Nat} {L : List α} (h : L.length ≤ hi) (h' : L.length ≤ hi') : seg lo hi L = seg lo hi' L := by
  unfold seg; rw [List.take_of_length_le h, List.take_of_length_le h']
theorem ok_none {lo hi : Nat} {L L0 : List α} (h : L.length ≤ lo) (hl : L.length = L0.length) : Ok1 lt bf lo hi L L0 := by
  refine ⟨?_, ?_⟩
  · rw [seg_none h, seg_none (by omega)]
  · rw [seg_none h]; exact List.Pairwise.nil
theorem ok_more {lo hi hi' : Nat} {L L0 : List α} (o : Ok1 lt bf lo hi L L0) (h : L.length ≤ hi) (h' : L.length ≤ hi') (hl : L.length = L0.length) : Ok1 lt bf lo hi' L L0 := by
  refine ⟨?_, ?_⟩
  · rw [seg_more h' h, seg_more (L := L0) (by omega) (by omega : L0.length ≤ hi)]; exact o.perm
  · rw [seg_more h' h]; exact o.sorted
theorem ok_out {P T W Q L0 : List α} {lo hi : Nat} (hw : W.length = T.length) (h : hi ≤ P.length ∨ P.length + T.length ≤ lo) (o : Ok1 lt bf lo hi (P ++ (T ++ Q)) L0) : Ok1 lt bf lo hi (P ++ (W ++ Q)) L0 := by
  refine ⟨?_, ?_⟩
  · rw [seg_out hw h]; exact o.perm
  · rw [seg_out hw h]; exact o.sorted
theorem seg_pw {L : List α} (h : L.Pairwise bf) (a b : Nat) : (seg a b L).Pairwise bf := by unfold seg; exact (h.take).drop
theorem seg_cross {L : List α} (h : L.Pairwise bf) {a m b : Nat} (h1 : a ≤ m) (h2 : m ≤ b) : ∀ x ∈ seg a m L, ∀ y ∈ seg m b L, bf x y := by
  have := seg_pw h a b
  rw [seg_split h1 h2] at this
  exact (List.pairwise_append.1 this).2.2
theorem seg_mem {L : List α} {a b : Nat} {x : α} (h : x ∈ seg a b L) : x ∈ L := List.mem_of_mem_take (List.mem_of_mem_drop h)
end
section
variable {g h h' : Heap} {A : Option Addr} {c : Nat} {lt bf : EI → EI → Prop} {D : EI → Prop} {f lb : Nat}
/-- A part is sorted in its place. -/
theorem ins_part (S : Swo lt) (C : CmpOk g lt D f lb) {L L0 : List EI} {a b k : Nat} (H : Lst g h A c L) (hk : L.length = k) (hbig : k ≤ 100000) (h1 : a ≤ b) (h2 : b ≤ k) (hs : seg a b L = seg a b L0) (asc : L0.Pairwise bf) (hD : ∀ x ∈ L0, D x) :
    HCalls Tryz.prog 162 #[.slice A k c, .int .i64 a, .int .i64 b, .func (.func f) #[] #[.pointer (some ⟨lb, 0, none⟩)]] h (fun v h' => ∃ L', Lst g h' A c L' ∧ L'.length = k ∧ Ok1 lt bf a b L' L0 ∧ (∀ lo hi, hi ≤ a ∨ b ≤ lo → seg lo hi L' = seg lo hi L) ∧ L'.drop b = L.drop b) := by
  have hc := cut3 (L := L) h1 (by omega)
  have hl := seg_len a b L (by omega)
  have hta : (L.take a).length = a := by rw [List.length_take]; omega
  have H' := H
  rw [hc] at H'
  refine (gIns_spec (bf := bf) S C (a := a) (b := b) (k := k) H' hta (by omega) (by rw [← hc]; exact hk) hbig (by rw [hs]; exact seg_pw asc a b) (by rw [hs]; exact fun x hx => hD x (seg_mem hx))).mono ?_
  rintro v h' ⟨W, HW, p, s⟩
  have hw := p.length_eq
  have e : seg a b (L.take a ++ (W ++ L.drop b)) = W := seg_app hta (by omega)
  refine ⟨_, HW, ?_, ⟨by rw [e, ← hs]; exact p, by rw [e]; exact s⟩, fun lo hi q => ?_, ?_⟩
  · simp only [List.length_append, List.length_drop]; omega
  · rw [seg_out (T := seg a b L) (by omega) (by omega), ← hc]
  · rw [← List.append_assoc, List.drop_append, List.drop_eq_nil_of_le (by rw [List.length_append]; omega), List.nil_append, List.length_append, show b - ((L.take a).length + W.length) = 0 by omega, List.drop_zero]
/-- Two parts are merged in their place. -/
theorem sym_part (S : Swo lt) (C : CmpOk g lt D f lb) {L L0 : List EI} {a m b k : Nat} (H : Lst g h A c L) (hk : L.length = k) (hk0 : L0.length = k) (hbig : k ≤ 100000) (h1 : a < m) (h2 : m < b) (h3 : b ≤ k) (o1 : Ok1 lt bf a m L L0) (o2 : Ok1 lt bf m b L L0) (asc : L0.Pairwise bf) (hD : ∀ x ∈ L0, D x) :
    HCalls Tryz.prog 163 #[.slice A k c, .int .i64 a, .int .i64 m, .int .i64 b, .func (.func f) #[] #[.pointer (some ⟨lb, 0, none⟩)]] h (fun v h' => ∃ L', Lst g h' A c L' ∧ L'.length = k ∧ Ok1 lt bf a b L' L0 ∧ (∀ lo hi, hi ≤ a ∨ b ≤ lo → seg lo hi L' = seg lo hi L)) := by
  have hc := cut3 (L := L) (a := a) (b := b) (by omega) (by omega)
  have hsp := seg_split (L := L) (a := a) (m := m) (b := b) (by omega) (by omega)
  have hsp0 := seg_split (L := L0) (a := a) (m := m) (b := b) (by omega) (by omega)
  have hl1 := seg_len a m L (by omega)
  have hl2 := seg_len m b L (by omega)
  have hl := seg_len a b L (by omega)
  have hta : (L.take a).length = a := by rw [List.length_take]; omega
  have H' := H
  rw [hc, hsp, List.append_assoc] at H'
  refine (gSym_spec (bf := bf) S C (b - a) (a := a) (m := m) (b := b) (k := k) (Nat.le_refl _) H' hta (by omega) (by omega) h1 h2 (by rw [← List.append_assoc (seg a m L), ← hsp, ← hc]; exact hk) hbig o1.sorted o2.sorted (fun x hx y hy => seg_cross asc (by omega) (by omega) x (o1.perm.mem_iff.1 hx) y (o2.perm.mem_iff.1 hy)) (fun x hx => hD x (seg_mem (o1.perm.mem_iff.1 hx))) (fun x hx => hD x (seg_mem (o2.perm.mem_iff.1 hx)))).mono ?_
  rintro v h' ⟨W, HW, p, s⟩
  have hw := p.length_eq
  rw [List.length_append] at hw
  have e : seg a b (L.take a ++ (W ++ L.drop b)) = W := seg_app hta (by omega)
  refine ⟨_, HW, ?_, ⟨by rw [e, hsp0]; exact p.trans (List.Perm.append o1.perm o2.perm), by rw [e]; exact s⟩, fun lo hi q => ?_⟩
  · simp only [List.length_append, List.length_drop]; omega
  · rw [seg_out (T := seg a b L) (by omega) (by omega), ← hc]
theorem Ok1.same {lo hi : Nat} {L L' L0 : List EI} (o : Ok1 lt bf lo hi L L0) (e : seg lo hi L' = seg lo hi L) : Ok1 lt bf lo hi L' L0 := ⟨by rw [e]; exact o.perm, by rw [e]; exact o.sorted⟩
theorem gStable_spec (S : Swo lt) (C : CmpOk g lt D f lb) {L0 : List EI} {n : Nat} (H : Lst g h A c L0) (hn : L0.length = n) (hbig : n ≤ 10000) (asc : L0.Pairwise bf) (hD : ∀ x ∈ L0, D x) :
    HCalls Tryz.prog 133 #[.slice A n c, .int .i64 n, .func (.func f) #[] #[.pointer (some ⟨lb, 0, none⟩)]] h (fun v h' => ∃ L', Lst g h' A c L' ∧ L'.Perm L0 ∧ L'.Pairwise (Lx lt bf)) := by
  refine xcalls env0 Tryz.func133 rfl (by kernel_rfl) rfl (by kernel_rfl) ?_
  refine ⟨Nat × List EI, fun z => [(0, .slice A n c), (1, .int .i64 n), (2, .func (.func f) #[] #[.pointer (some ⟨lb, 0, none⟩)]), (6, .int .i64 20), (7, .int .i64 ((20 * z.1 : Nat) : Int)), (8, .int .i64 ((20 * z.1 + 20 : Nat) : Int))],
    fun z h' => (20 * z.1 ≤ n ∧ z.2.length = n) ∧ z.2.drop (20 * z.1) = L0.drop (20 * z.1) ∧ (∀ t, t < z.1 → Ok1 lt bf (t * 20) ((t + 1) * 20) z.2 L0) ∧ Lst g h' A c z.2, fun z => n - z.1, (0, L0), ⟨rfl, rfl, rfl, rfl, rfl, rfl, trivial⟩, ⟨⟨Nat.zero_le _, hn⟩, rfl, (fun t ht => by have ht : t < 0 := ht; omega), H⟩, ?_⟩
  rintro ⟨t, L⟩ h2 ⟨⟨i1, i2⟩, hd, ho, H2⟩
  simp only at i1 i2 hd ho H2
  have same : ∀ b, seg (20 * t) b L = seg (20 * t) b L0 := fun b => by rw [seg_eq, seg_eq, hd]
  refine xif_of (fun hle => ?_) (fun hgt => ?_)
  · have hle : ((20 * t + 20 : Nat) : Int) ≤ n := of_decide_eq_true hle
    refine (ins_part (bf := bf) S C (a := 20 * t) (b := 20 * t + 20) H2 i2 (by omega) (by omega) (by omega) (same _) asc hD).mono ?_
    rintro v h3 ⟨L', H3, l3, o3, s3, d3⟩
    have en : IntKind.i64.wrap (((20 * t + 20 : Nat) : Int) + 20) = ((20 * (t + 1) + 20 : Nat) : Int) := by rw [wrap_i64 (by omega) (by omega)]; omega
    refine ⟨(t + 1, L'), ⟨rfl, rfl, rfl, rfl, rfl, congrArg (fun x => some (Value.int .i64 x)) en, trivial⟩, ⟨⟨by show 20 * (t + 1) ≤ n; omega, l3⟩, ?_, fun t' ht' => ?_, H3⟩, by show n - (t + 1) < n - t; omega⟩
    · show L'.drop (20 * t + 20) = L0.drop (20 * t + 20)
      rw [d3, ← List.drop_drop, hd, List.drop_drop]
    · by_cases e : t' = t
      · subst e
        rw [show t' * 20 = 20 * t' by omega, show (t' + 1) * 20 = 20 * t' + 20 by omega]
        exact o3
      · have ht' : t' < t + 1 := ht'
        exact (ho t' (by omega)).same (s3 _ _ (.inl (by omega)))
  have hgt : ¬ ((20 * t + 20 : Nat) : Int) ≤ n := of_decide_eq_false hgt
  refine (ins_part (bf := bf) S C (a := 20 * t) (b := n) H2 i2 (by omega) (by omega) (Nat.le_refl _) (same _) asc hD).mono ?_
  rintro v h3 ⟨L3, H3, l3, o3, s3, _⟩
  refine ⟨Nat × List EI, fun z => [(0, .slice A n c), (1, .int .i64 n), (2, .func (.func f) #[] #[.pointer (some ⟨lb, 0, none⟩)]), (6, .int .i64 z.1)],
    fun z h' => (1 ≤ z.1 ∧ z.1 ≤ 20 + 2 * n ∧ z.2.length = n) ∧ (∀ t, Ok1 lt bf (t * z.1) ((t + 1) * z.1) z.2 L0) ∧ Lst g h' A c z.2, fun z => 20 + 2 * n - z.1, (20, L3), ⟨rfl, rfl, rfl, rfl, trivial⟩, ⟨⟨by show 1 ≤ 20; omega, by show 20 ≤ 20 + 2 * n; omega, l3⟩, (fun t' => ?_), H3⟩, ?_⟩
  · show Ok1 lt bf (t' * 20) ((t' + 1) * 20) L3 L0
    rcases Nat.lt_trichotomy t' t with q | q | q
    · exact (ho t' q).same (s3 _ _ (.inl (by omega)))
    · subst q
      rw [show t' * 20 = 20 * t' by omega]
      exact ok_more o3 (by omega) (by omega) (by omega)
    · exact ok_none (by omega) (by omega)
  rintro ⟨k, L4⟩ h4 ⟨⟨k1, k2, l4⟩, o4, H4⟩
  simp only at k1 k2 l4 o4 H4
  refine xif_of (fun hlt => ?_) (fun hge => ?_)
  rotate_left
  · have hge : ¬ (k : Int) < n := of_decide_eq_false hge
    have := o4 0
    rw [Nat.zero_mul] at this
    have e : ∀ L : List EI, L.length = n → seg 0 ((0 + 1) * k) L = L := fun L hL => by unfold seg; rw [List.drop_zero, List.take_of_length_le (by omega)]
    obtain ⟨p, s⟩ := this
    rw [e _ l4, e _ hn] at p
    rw [e _ l4] at s
    exact ⟨L4, H4, p, s⟩
  have hlt : (k : Int) < n := of_decide_eq_true hlt
  have e2k : IntKind.i64.wrap (2 * (k : Int)) = ((2 * k : Nat) : Int) := by rw [wrap_i64 (by omega) (by omega)]; omega
  refine ⟨Nat × List EI, fun z => [(0, .slice A n c), (1, .int .i64 n), (2, .func (.func f) #[] #[.pointer (some ⟨lb, 0, none⟩)]), (6, .int .i64 k), (7, .int .i64 ((z.1 * (2 * k) : Nat) : Int)), (8, .int .i64 ((z.1 * (2 * k) + 2 * k : Nat) : Int))],
    fun z h' => (z.1 * (2 * k) ≤ n ∧ z.2.length = n) ∧ (∀ t, t < z.1 → Ok1 lt bf (t * (2 * k)) ((t + 1) * (2 * k)) z.2 L0) ∧ (∀ t, 2 * z.1 ≤ t → Ok1 lt bf (t * k) ((t + 1) * k) z.2 L0) ∧ Lst g h' A c z.2, fun z => n - z.1, (0, L4),
    ⟨rfl, rfl, rfl, rfl, congrArg (fun x : Nat => some (Value.int .i64 (x : Int))) (Nat.zero_mul _).symm, congrArg (fun x => some (Value.int .i64 x)) (by rw [e2k]; simp), trivial⟩, ⟨⟨by show 0 * (2 * k) ≤ n; omega, l4⟩, (fun t ht => by have ht : t < 0 := ht; omega), (fun t _ => o4 t), H4⟩, ?_⟩
  rintro ⟨t, L5⟩ h5 ⟨⟨a1, l5⟩, oA, oB, H5⟩
  simp only at a1 l5 oA oB H5
  have q1 := oB (2 * t) (Nat.le_refl _)
  have q2 := oB (2 * t + 1) (by omega)
  have m1 : 2 * t * k = t * (2 * k) := by rw [Nat.mul_comm 2 t, Nat.mul_assoc]
  have m2 : (2 * t + 1) * k = t * (2 * k) + k := by rw [Nat.succ_mul, m1]
  have m3 : (2 * t + 1 + 1) * k = t * (2 * k) + 2 * k := by rw [Nat.succ_mul, m2]; omega
  have m4 : (t + 1) * (2 * k) = t * (2 * k) + 2 * k := Nat.succ_mul ..
  rw [m1, m2] at q1
  rw [m2, m3] at q2
  obtain ⟨x, hx⟩ : ∃ x, t * (2 * k) = x := ⟨_, rfl⟩
  rw [hx] at q1 q2 m1 m2 m3 m4 a1
  have exk : IntKind.i64.wrap ((x : Int) + (k : Int)) = ((x + k : Nat) : Int) := by rw [wrap_i64 (by omega) (by omega)]; omega
  have small : ∀ t', t' < t → (t' + 1) * (2 * k) ≤ x := fun t' ht' => by rw [← hx]; exact Nat.mul_le_mul_right _ ht'
  have big : ∀ t', 2 * (t + 1) ≤ t' → x + 2 * k ≤ t' * k := fun t' ht' => by
    have := Nat.mul_le_mul_right k ht'
    have e : 2 * (t + 1) * k = x + 2 * k := by rw [← m4, Nat.mul_comm 2 (t + 1), Nat.mul_assoc]
    omega
  refine xif_of (fun hle => ?_) (fun hgt2 => ?_)
  · have hle : ((t * (2 * k) + 2 * k : Nat) : Int) ≤ n := of_decide_eq_true hle
    rw [hx] at hle
    have := sym_part (bf := bf) S C (a := x) (m := x + k) (b := x + 2 * k) H5 l5 hn (by omega) (by omega) (by omega) (by omega) q1 q2 asc hD
    rw [← exk, ← hx] at this
    refine this.mono ?_
    rintro v h6 ⟨L6, H6, l6, o6, s6⟩
    rw [hx] at o6 s6
    have en : IntKind.i64.wrap (((t * (2 * k) + 2 * k : Nat) : Int) + IntKind.i64.wrap ((k : Int) * 2)) = (((t + 1) * (2 * k) + 2 * k : Nat) : Int) := by
      rw [hx, m4, wrap_i64 (x := (k : Int) * 2) (by omega) (by omega), wrap_i64 (by omega) (by omega)]; omega
    have en0 : IntKind.i64.wrap (((t * (2 * k) + 2 * k : Nat) : Int) + IntKind.i64.wrap (2 * (k : Int))) = (((t + 1) * (2 * k) + 2 * k : Nat) : Int) := by
      rw [hx, m4, e2k, wrap_i64 (by omega) (by omega)]; omega
    have en1 : ((t * (2 * k) + 2 * k : Nat) : Int) = (((t + 1) * (2 * k) : Nat) : Int) := by rw [m4, hx]
    refine ⟨(t + 1, L6), ⟨rfl, rfl, rfl, rfl, congrArg (fun x => some (Value.int .i64 x)) en1, congrArg (fun x => some (Value.int .i64 x)) en0, trivial⟩, ⟨⟨by show (t + 1) * (2 * k) ≤ n; omega, l6⟩, (fun t' ht' => ?_), (fun t' ht' => ?_), H6⟩, ?_⟩
    · have ht' : t' < t + 1 := ht'
      by_cases e : t' = t
      · subst e
        rw [hx, m4]; exact o6
      · exact (oA t' (by omega)).same (s6 _ _ (.inl (small t' (by omega))))
    · have ht' : 2 * (t + 1) ≤ t' := ht'
      exact (oB t' (by omega)).same (s6 _ _ (.inr (big t' ht')))
    · show n - (t + 1) < n - t
      have : t ≤ x := by rw [← hx]; exact Nat.le_mul_of_pos_right _ (by omega)
      omega
  have hgt2 : ¬ ((t * (2 * k) + 2 * k : Nat) : Int) ≤ n := of_decide_eq_false hgt2
  rw [hx] at hgt2
  have ek2 : IntKind.i64.wrap ((k : Int) * 2) = ((2 * k : Nat) : Int) := by rw [wrap_i64 (by omega) (by omega)]; omega
  have fin : ∀ L6 : List EI, L6.length = n → Ok1 lt bf x (x + 2 * k) L6 L0 → (∀ lo hi, hi ≤ x → seg lo hi L6 = seg lo hi L5) → ∀ t', Ok1 lt bf (t' * (2 * k)) ((t' + 1) * (2 * k)) L6 L0 := by
    intro L6 l6 o6 s6 t'
    rcases Nat.lt_trichotomy t' t with q | q | q
    · exact (oA t' q).same (s6 _ _ (small t' q))
    · subst q
      rw [hx, m4]; exact o6
    · have : (t + 1) * (2 * k) ≤ t' * (2 * k) := Nat.mul_le_mul_right _ q
      exact ok_none (by omega) (by omega)
  refine xif_of (fun hm => ?_) (fun hm => ?_)
  · have hm : IntKind.i64.wrap (((t * (2 * k) : Nat) : Int) + (k : Int)) < n := of_decide_eq_true hm
    rw [hx, exk] at hm
    have q2' : Ok1 lt bf (x + k) n L5 L0 := ok_more q2 (by omega) (by omega) (by omega)
    have := sym_part (bf := bf) S C (a := x) (m := x + k) (b := n) H5 l5 hn (by omega) (by omega) (by omega) (Nat.le_refl _) q1 q2' asc hD
    rw [← exk, ← hx] at this
    refine this.mono ?_
    rintro v h6 ⟨L6, H6, l6, o6, s6⟩
    rw [hx] at o6 s6
    exact ⟨(2 * k, L6), ⟨rfl, rfl, rfl, congrArg (fun x => some (Value.int .i64 x)) ek2, trivial⟩, ⟨⟨by show 1 ≤ 2 * k; omega, by show 2 * k ≤ 20 + 2 * n; omega, l6⟩, fin L6 l6 (ok_more o6 (by omega) (by omega) (by omega)) (fun lo hi q => s6 lo hi (.inl q)), H6⟩, by show 20 + 2 * n - 2 * k < 20 + 2 * n - k; omega⟩
  · have hm : ¬ IntKind.i64.wrap (((t * (2 * k) : Nat) : Int) + (k : Int)) < n := of_decide_eq_false hm
    rw [hx, exk] at hm
    exact ⟨(2 * k, L5), ⟨rfl, rfl, rfl, congrArg (fun x => some (Value.int .i64 x)) ek2, trivial⟩, ⟨⟨by show 1 ≤ 2 * k; omega, by show 2 * k ≤ 20 + 2 * n; omega, l5⟩, fin L5 l5 (ok_more q1 (by omega) (by omega) (by omega)) (fun lo hi q => rfl), H5⟩, by show 20 + 2 * n - 2 * k < 20 + 2 * n - k; omega⟩
theorem gSort_spec (S : Swo lt) (C : CmpOk g lt D f lb) {L0 : List EI} {n : Nat} (H : Lst g h A c L0) (hn : L0.length = n) (hbig : n ≤ 10000) (asc : L0.Pairwise bf) (hD : ∀ x ∈ L0, D x) :
    HCalls Tryz.prog 102 #[.slice A n c, .func (.func f) #[] #[.pointer (some ⟨lb, 0, none⟩)]] h (fun v h' => ∃ L', Lst g h' A c L' ∧ L'.Perm L0 ∧ L'.Pairwise (Lx lt bf)) := by
  refine xcalls env0 Tryz.func102 rfl (by kernel_rfl) rfl (by kernel_rfl) ?_
  refine (gStable_spec S C H hn hbig asc hD).mono ?_
  rintro v h2 ⟨L', H2, p, s⟩
  exact ⟨L', H2, p, s⟩
end
end Go.Proofs.YtcjoenkpibhmoaaGreatE
/- Histories: their entries, the order of those that took effect. Conditions: the arguments are of their types, and not too many. -/
set_option linter.unusedVariables false
set_option linter.unusedSimpArgs false
set_option maxRecDepth 100000
namespace Go.Proofs.YtcjoenkpibhmoaaGreatE
open Go Go.Proofs
structure He where
  who : Int
  beg : Int
  mark : Int
  fin : Int
  op : Op17
  ans : Int
def encHe (e : He) : List Value := [.int .i64 e.who, .int .i64 e.beg, .int .i64 e.mark, .int .i64 e.fin, .int .i64 e.op.kind, .int .i64 e.op.port, .int .i64 e.op.to, .int .i64 e.op.vid, .int .i64 e.op.state, .int .i64 e.op.kvid, .int .u64 e.op.mac, .int .u64 e.op.mem, .int .u64 e.op.unt, .int .u32 e.op.now, .int .u32 e.op.limit, .int .i64 e.op.shard, .int .i64 e.op.bucket, .int .i64 e.op.id, .int .i64 e.ans]
theorem encHe_len (e : He) : (encHe e).length = 19 := rfl
theorem encHe_one (e : He) : (encHe e).all Value.oneCell' = true := rfl
def op0 : Op17 := ⟨0, 0, 0, 0, 0, 0, 0, 0, 0, 0, 0, 0, 0, 0⟩
def he0 : He := ⟨0, 0, 0, 0, op0, 0⟩
/-- When the one at a place took effect. -/
def mkI (l : List He) (x : Int) : Int := (l.getD x.toNat he0).mark
theorem mkI_at {l : List He} {i : Nat} {e : He} (h : l[i]? = some e) : mkI l i = e.mark := by unfold mkI; rw [Int.toNat_natCast, List.getD_eq_getElem?_getD, h]; rfl
def ltM (l : List He) (x y : EI) : Prop := mkI l x < mkI l y
def bfM (x y : Int) : Prop := x < y
theorem ltM_swo (l : List He) : Swo (ltM l) := ⟨fun x y h => by unfold ltM at *; omega, fun x y z h k => by unfold ltM at *; omega⟩
/-- The places of the first n that took effect. -/
def plcN (l : List He) : Nat → List Int
  | 0 => []
  | n + 1 => plcN l n ++ (if 0 < mkI l n then [(n : Int)] else [])
theorem plcN_len (l : List He) : ∀ n, (plcN l n).length ≤ n
  | 0 => Nat.le_refl _
  | n + 1 => by
    have := plcN_len l n
    rw [plcN, List.length_append]
    split
    · rw [List.length_singleton]; omega
    · rw [List.length_nil]; omega
theorem plcN_mem (l : List He) : ∀ n (x : Int), x ∈ plcN l n ↔ 0 ≤ x ∧ x < n ∧ 0 < mkI l x
  | 0, x => by simp [plcN]; omega
  | n + 1, x => by
    rw [plcN, List.mem_append, plcN_mem l n]
    by_cases h : 0 < mkI l n
    · rw [if_pos h, List.mem_singleton]
      constructor
      · rintro (q | rfl)
        · exact ⟨q.1, by omega, q.2.2⟩
        · exact ⟨by omega, by omega, h⟩
      · rintro ⟨q1, q2, q3⟩
        by_cases e : x = n
        · exact .inr e
        · exact .inl ⟨q1, by omega, q3⟩
    · rw [if_neg h]
      constructor
      · rintro (q | q)
        · exact ⟨q.1, by omega, q.2.2⟩
        · cases q
      · rintro ⟨q1, q2, q3⟩
        by_cases e : x = n
        · subst e; exact absurd q3 h
        · exact .inl ⟨q1, by omega, q3⟩
theorem plcN_asc (l : List He) : ∀ n, (plcN l n).Pairwise bfM
  | 0 => List.Pairwise.nil
  | n + 1 => by
    rw [plcN]
    refine List.pairwise_append.2 ⟨plcN_asc l n, ?_, fun x hx y hy => ?_⟩
    · split
      · exact List.pairwise_singleton _ _
      · exact List.Pairwise.nil
    · split at hy
      · rw [List.mem_singleton] at hy
        have := ((plcN_mem l n x).1 hx).2.1
        unfold bfM; omega
      · cases hy
/-- The order of those that took effect. -/
structure IsOrd (l : List He) (n : Nat) (O : List Int) : Prop where
  perm : O.Perm (plcN l n)
  sorted : O.Pairwise (Lx (ltM l) bfM)
theorem IsOrd.one {l : List He} {n : Nat} {O O' : List Int} (h : IsOrd l n O) (h' : IsOrd l n O') : O = O' :=
  pw_unique (ltM_swo l) (fun x y a b => by unfold bfM at *; omega) (h.perm.trans h'.perm.symm) h.sorted h'.sorted
theorem IsOrd.mem {l : List He} {n : Nat} {O : List Int} (h : IsOrd l n O) {x : Int} (hx : x ∈ O) : 0 ≤ x ∧ x < n ∧ 0 < mkI l x := (plcN_mem l n x).1 (h.perm.mem_iff.1 hx)
theorem IsOrd.len {l : List He} {n : Nat} {O : List Int} (h : IsOrd l n O) : O.length ≤ n := by rw [h.perm.length_eq]; exact plcN_len l n
section
variable {h : Heap}
theorem cIsNan_spec (x : Int) : HCalls Tryz.prog 98 #[.int .i64 x] h (fun v h' => v = .bool false ∧ h' = h) := by
  refine xcalls env0 Tryz.func98 rfl (by kernel_rfl) rfl (by kernel_rfl) ?_
  exact ⟨congrArg Value.bool (by simp), rfl⟩
theorem cCompare_spec (x y : Int) : HCalls Tryz.prog 77 #[.int .i64 x, .int .i64 y] h (fun v h' => v = .int .i64 (if x < y then -1 else if y < x then 1 else 0) ∧ h' = h) := by
  refine xcalls env0 Tryz.func77 rfl (by kernel_rfl) rfl (by kernel_rfl) ?_
  refine (cIsNan_spec x).mono ?_
  rintro v h1 ⟨rfl, rfl⟩
  refine (cIsNan_spec y).mono ?_
  rintro v h2 ⟨rfl, rfl⟩
  refine xif_of (fun q => ?_) (fun q => ?_)
  · have q : x < y := of_decide_eq_true q
    exact ⟨by rw [if_pos q]; rfl, rfl⟩
  have q : ¬ x < y := of_decide_eq_false q
  refine xif_of (fun q2 => ?_) (fun q2 => ?_)
  · have q2 : x > y := of_decide_eq_true q2
    exact ⟨by rw [if_neg q, if_pos q2]; rfl, rfl⟩
  · have q2 : ¬ x > y := of_decide_eq_false q2
    exact ⟨by rw [if_neg q, if_neg q2]; rfl, rfl⟩
theorem heInfoI : (Tryz.prog.info? 3).map (fun i => (i.size, i.bytes)) = some (1, 8) := by kernel_rfl
theorem hOrder_cmp {A : Option Addr} {n c lb : Nat} {l : List He} (hr : Row encHe 19 h A l) (hl : l.length = n) (hb : h[lb]? = some (.cells [.slice A n c].toArray 44 (0, 0))) : CmpOk h (ltM l) (fun x => 0 ≤ x ∧ x < (n : Int)) 103 lb := by
  refine ⟨fun h1 x y e hx hy => ?_⟩
  obtain ⟨i, rfl⟩ : ∃ i : Nat, x = i := ⟨x.toNat, (Int.toNat_of_nonneg hx.1).symm⟩
  obtain ⟨j, rfl⟩ : ∃ j : Nat, y = j := ⟨y.toNat, (Int.toNat_of_nonneg hy.1).symm⟩
  have hi : (i : Int) < n := hx.2
  have hj : (j : Int) < n := hy.2
  obtain ⟨u, hu⟩ : ∃ u, l[i]? = some u := ⟨l[i]'(by omega), List.getElem?_eq_getElem (by omega)⟩
  obtain ⟨w, hw⟩ : ∃ w, l[j]? = some w := ⟨l[j]'(by omega), List.getElem?_eq_getElem (by omega)⟩
  obtain ⟨a1, hA1, r1⟩ := (e.row hr) i u hu
  obtain ⟨a2, hA2, r2⟩ := (e.row hr) j w hw
  have hb1 := e.blk hb
  have m1 := mkI_at hu
  have m2 := mkI_at hw
  have i0 : (0 : Int) ≤ i := by omega
  have j0 : (0 : Int) ≤ j := by omega
  refine xcalls env_hOrder1 Tryz.func103 rfl (by kernel_rfl) rfl (by kernel_rfl) ?_
  refine ⟨_, cell_blk hb1 rfl, a1, hA1, i0, hi, _, r1.get 2 rfl, _, cell_blk hb1 rfl, a2, hA2, j0, hj, _, r2.get 2 rfl, ?_⟩
  refine (cCompare_spec u.mark w.mark).mono ?_
  rintro v h2 ⟨rfl, rfl⟩
  refine ⟨_, rfl, ?_, Ext.refl _⟩
  unfold ltM
  rw [m1, m2]
  split
  · constructor <;> intro <;> omega
  · split
    · constructor <;> intro <;> omega
    · constructor <;> intro <;> omega
set_option maxHeartbeats 2000000 in
theorem hOrder_spec {A : Option Addr} {n c : Nat} {l : List He} (hr : Row encHe 19 h A l) (hl : l.length = n) (hn : n ≤ 2000) :
    HCalls Tryz.prog 79 #[.slice A n c] h (fun v h' => ∃ A' c' O, v = .slice A' O.length c' ∧ IsOrd l n O ∧ OwnA encI 1 3 h.size h' A' c' O ∧ Ext h h') := by
  refine xcalls env0 Tryz.func79 rfl (by kernel_rfl) rfl (by kernel_rfl) ?_
  intro lb g n1
  have hlb : g[lb]? = some (.cells [.slice A n c].toArray 44 (0, 0)) := n1.this
  have x1 := n1.ext
  refine ⟨_, cell_blk hlb rfl, ?_⟩
  refine ⟨Nat × Option Addr × Nat × Nat, fun z => [(1, .pointer (some ⟨lb, 0, none⟩)), (3, .slice z.2.1 z.2.2.2 z.2.2.1), (6, .slice A n c), (7, .int .i64 n), (8, .int .i64 z.1)],
    fun z h' => (z.1 ≤ n ∧ (plcN l z.1).length = z.2.2.2) ∧ Lst g h' z.2.1 z.2.2.1 (plcN l z.1), fun z => n - z.1, (0, none, 0, 0), ⟨rfl, rfl, rfl, rfl, rfl, trivial⟩, ⟨⟨Nat.zero_le _, rfl⟩, .inl ⟨rfl, rfl, rfl⟩, Ext.refl _⟩, ?_⟩
  rintro ⟨i, B, d, k⟩ h2 ⟨⟨hi, hk⟩, H2⟩
  simp only at hi hk H2
  refine xif_of (fun hlt => ?_) (fun hge => ?_)
  · have hlt : (i : Int) < n := of_decide_eq_true hlt
    obtain ⟨u, hu⟩ : ∃ u, l[i]? = some u := ⟨l[i]'(by omega), List.getElem?_eq_getElem (by omega)⟩
    obtain ⟨a1, hA1, r1⟩ := ((x1.trans H2.ext).row hr) i u hu
    have m1 := mkI_at hu
    refine ⟨a1, hA1, by omega, hlt, encHe u, rfl, r1, ?_⟩
    intro eb h3 n3
    refine ⟨rfl, rfl, canset_blk n3.this rfl, fun h4 s4 => ?_⟩
    have heb : h4[eb]? = some (.cells (encHe u).toArray 116 (0, 0)) := n3.fill rfl s4
    have x24 : Ext h2 h4 := n3.ext.stored s4 (n3.ge (Ext.refl _))
    have H4 := H2.after x24
    refine ⟨_, cell_blk heb rfl, ?_⟩
    refine xif_of (fun q => ?_) (fun q => ?_)
    · have q : u.mark > 0 := of_decide_eq_true q
      intro bs h5 n5
      have hpl := plcN_len l i
      refine xappend_one (x := (i : Int)) intInfo intZero rfl (by decide) encI_len encI_one H4.own n5 hk (by show (k + 1) * 8 ≤ _; omega) H4.ext.size fun B' d' h' o k' => ?_
      have e : plcN l (i + 1) = plcN l i ++ [(i : Int)] := by rw [plcN, m1, if_pos q]
      rw [← e] at o
      refine ⟨(i + 1, B', d', k + 1), ⟨rfl, rfl, rfl, rfl, slot_inc (by omega), trivial⟩, ⟨⟨by show i + 1 ≤ n; omega, by show (plcN l (i + 1)).length = k + 1; rw [e, List.length_append, hk]; rfl⟩, o, k'.ext H4.ext fun b hb => H4.own.ge b hb⟩, by show n - (i + 1) < n - i; omega⟩
    · have q : ¬ u.mark > 0 := of_decide_eq_false q
      have e : plcN l (i + 1) = plcN l i := by rw [plcN, m1, if_neg q, List.append_nil]
      exact ⟨(i + 1, B, d, k), ⟨rfl, rfl, rfl, rfl, slot_inc (by omega), trivial⟩, ⟨⟨by show i + 1 ≤ n; omega, by show (plcN l (i + 1)).length = k; rw [e, hk]⟩, by show Lst g h4 B d (plcN l (i + 1)); rw [e]; exact H4⟩, by show n - (i + 1) < n - i; omega⟩
  have hge : ¬ (i : Int) < n := of_decide_eq_false hge
  obtain rfl : i = n := by omega
  have C := hOrder_cmp (x1.row hr) hl hlb
  have hpl := plcN_len l i
  refine (gSort_spec (bf := bfM) (ltM_swo l) C H2 hk (by omega) (plcN_asc l i) (fun x hx => ⟨((plcN_mem l i x).1 hx).1, ((plcN_mem l i x).1 hx).2.1⟩)).mono ?_
  rintro v h3 ⟨O, H3, p3, s3⟩
  have := p3.length_eq
  rw [hk] at this
  exact ⟨B, d, O, by rw [this]; rfl, ⟨p3, s3⟩, H3.own.mono x1.size, x1.trans H3.ext⟩
end
end Go.Proofs.YtcjoenkpibhmoaaGreatE
