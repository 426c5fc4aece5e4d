/- Go's stable sort of entries by a function: parts swapped, turned, sorted, merged, the whole. Conditions: the list is the call's own, and not long; the function is a strict weak order and leaves all as it is. -/
import Derived.Test.YtcjoenkpibhmoaaGreatXH6
set_option linter.unusedVariables false
set_option linter.unusedSimpArgs false
set_option maxRecDepth 100000
namespace Go.Proofs.YtcjoenkpibhmoaaGreatE
open Go Go.Proofs
def env_eSwap : Nat → Ann
  | 3 => ⟨.op 0 [] <| .op 1 [] <| .op 2 [] <| .op 3 [] <| .op 4 [] <| .op 5 [] <| .op 6 [] <| .op 7 [] <| .op 8 [] <| .op 9 [] <| .op 10 [] <| .op 11 [] <| .op 12 [] <| .op 13 [] <| .op 14 [] <| .op 15 [] <| .op 16 [] <| .op 17 [] <| .op 18 [] <| .op 19 [] <| .op 20 [] <| .op 21 [] <| .op 22 [] <| .op 23 [] <| .nil, [0, 0, 0, 6, 0, 0, 0, 96, 0, 0, 0, 1536, 3840, 7936, 0, 0, 0, 98304, 245760, 507904, 1048335, 2096911, 4194303, 8388607], false⟩
  | _ => ⟨.nil, [], false⟩
def env_eIns : Nat → Ann
  | 4 => ⟨.op 0 [] <| .op 1 [] <| .op 2 [] <| .op 3 [] <| .op 4 [] <| .op 5 [] <| .op 6 [] <| .op 7 [] <| .op 8 [] <| .op 9 [] <| .op 10 [] <| .op 11 [] <| .op 12 [] <| .op 13 [] <| .op 14 [] <| .op 15 [] <| .op 16 [] <| .nil, [0, 0, 3, 7, 15, 15, 15, 111, 239, 15, 15, 1039, 3599, 7695, 16383, 32767, 65535], false⟩
  | 6 => ⟨.op 0 [] <| .op 1 [] <| .op 2 [] <| .op 3 [] <| .op 4 [] <| .op 5 [] <| .op 6 [] <| .op 7 [] <| .op 8 [] <| .op 9 [] <| .op 10 [] <| .op 11 [] <| .op 12 [] <| .op 13 [] <| .op 14 [] <| .op 15 [] <| .op 16 [] <| .op 17 [] <| .nil, [0, 0, 0, 0, 8, 0, 0, 64, 224, 480, 0, 0, 3072, 7168, 16355, 32739, 65535, 131071], false⟩
  | _ => ⟨.nil, [], false⟩
def env_eSym : Nat → Ann
  | 5 => ⟨.op 0 [] <| .op 1 [] <| .op 2 [] <| .op 3 [] <| .op 4 [] <| .op 5 [] <| .op 6 [] <| .op 7 [] <| .op 8 [] <| .op 9 [] <| .op 10 [] <| .nil, [0, 0, 0, 6, 14, 0, 0, 96, 224, 511, 1023], false⟩
  | 11 => ⟨.op 0 [] <| .op 1 [] <| .op 2 [] <| .op 3 [] <| .op 4 [] <| .op 5 [] <| .op 6 [] <| .op 7 [] <| .op 8 [] <| .op 9 [] <| .op 10 [] <| .op 11 [] <| .op 12 [] <| .op 13 [] <| .op 14 [] <| .op 15 [] <| .op 16 [] <| .op 17 [] <| .nil, [0, 0, 0, 0, 8, 0, 0, 64, 224, 480, 0, 0, 3072, 7168, 16355, 32739, 65535, 131071], false⟩
  | 17 => ⟨.op 0 [] <| .op 1 [] <| .op 2 [] <| .op 3 [] <| .op 4 [] <| .op 5 [] <| .op 6 [] <| .op 7 [] <| .op 8 [] <| .op 9 [] <| .op 10 [] <| .op 11 [] <| .nil, [0, 0, 0, 6, 14, 0, 0, 96, 224, 511, 1023, 2047], false⟩
  | 23 => ⟨.op 0 [] <| .op 1 [] <| .op 2 [] <| .op 3 [] <| .op 4 [] <| .op 5 [] <| .op 6 [] <| .op 7 [] <| .op 8 [] <| .op 9 [] <| .op 10 [] <| .op 11 [] <| .op 12 [] <| .op 13 [] <| .op 14 [] <| .op 15 [] <| .op 16 [] <| .op 17 [] <| .nil, [0, 0, 0, 0, 8, 0, 0, 64, 224, 480, 0, 0, 3072, 7168, 16355, 32739, 65535, 131071], false⟩
  | 32 => ⟨.nil, [], true⟩
  | 35 => ⟨.op 0 [] <| .op 1 [] <| .op 2 [] <| .op 3 [] <| .op 4 [] <| .op 5 [] <| .op 6 [] <| .op 7 [] <| .op 8 [] <| .op 9 [] <| .op 10 [] <| .op 11 [] <| .op 12 [] <| .op 13 [] <| .nil, [0, 0, 0, 0, 12, 30, 62, 0, 0, 384, 896, 2047, 4095, 8191], false⟩
  | 41 => ⟨.nil, [], true⟩
  | 43 => ⟨.nil, [], true⟩
  | _ => ⟨.nil, [], false⟩
/-- An entry, and which one it was. -/
abbrev EE : Type := He × Nat
def encEn (x : EE) : List Value := encHe x.1
theorem encEn_len (x : EE) : (encEn x).length = 19 := rfl
theorem encEn_one (x : EE) : (encEn x).all Value.oneCell' = true := rfl
/-- Where a sort begins: the heap, and a block that the function reads. -/
structure GH where
  heap : Heap
  lb : Nat
  o : Obj
/-- A list of entries of the call's own; what was there at g is as it was, and what the function reads. -/
structure LstE (g : GH) (h : Heap) (A : Option Addr) (c : Nat) (L : List EE) : Prop where
  own : OwnA encEn 19 116 g.heap.size h A c L
  ext : Ext g.heap h
  box : h[g.lb]? = some g.o
  off : ∀ b, A = some ⟨b, 0, none⟩ → b ≠ g.lb
section
variable {g : GH} {h h' : Heap} {A : Option Addr} {c : Nat} {L : List EE}
theorem LstE.after (H : LstE g h A c L) (x : Ext h h') : LstE g h' A c L := ⟨H.own.ext x, H.ext.trans x, x.blk H.box, H.off⟩
/-- An element, at a place that is reckoned. -/
theorem LstE.rd (H : LstE g h A c L) {z : Int} {i : Nat} {x : EE} (e : z = (i : Int)) (hi : L[i]? = some x) : ∃ a, A = some a ∧ 0 ≤ z ∧ z < (L.length : Int) ∧ (encEn x).length = 19 ∧ Reads h (a.add (z.toNat * 19)) (encEn x) := by
  subst e
  obtain ⟨a, hA, hrd⟩ := (H.own.row encEn_len) i x hi
  have := (List.getElem?_eq_some_iff.1 hi).1
  exact ⟨a, hA, by omega, by omega, rfl, by rw [Int.toNat_natCast]; exact hrd⟩
theorem LstE.wr (H : LstE g h A c L) {z : Int} {i : Nat} (e : z = (i : Int)) (hi : i < L.length) (y : EE) : ∃ a, A = some a ∧ 0 ≤ z ∧ z < (L.length : Int) ∧ CanSet h (a.add (z.toNat * 19)) 19 ∧ ∀ h', Stored h (a.add (z.toNat * 19)) (encEn y) h' → LstE g h' A c (L.set i y) := by
  subst e
  obtain ⟨b, hA, hg, hcs⟩ := H.own.canset encEn_len (i := i) (j := 0) (n := 19) hi (by omega)
  obtain ⟨x, hx⟩ : ∃ x, L[i]? = some x := ⟨L[i], List.getElem?_eq_getElem hi⟩
  refine ⟨_, hA, by omega, by omega, ?_, fun h' s => ?_⟩
  · rw [add_lit, Int.toNat_natCast, Nat.zero_add]; exact hcs
  · rw [add_lit, Int.toNat_natCast, Nat.zero_add] at s
    exact ⟨H.own.put (j := 0) (vs := encEn y) encEn_len hA s hx (Nat.le_refl _) (lset_full (encEn y) (encEn x) rfl).symm, H.ext.stored s hg, s.blk H.box (Ne.symm (H.off b hA)), H.off⟩
theorem eSwap_spec {P X Y Z Q : List EE} {a b n k : Nat} {fv : Value} (H : LstE g h A c (P ++ (X ++ (Y ++ (Z ++ Q))))) (ha : P.length = a) (hb : a + X.length + Y.length = b) (hx : X.length = n) (hz : Z.length = n) (hk : (P ++ (X ++ (Y ++ (Z ++ Q)))).length = k) (hbig : k ≤ 100000) :
    HCalls Tryz.prog 185 #[.slice A k c, .int .i64 a, .int .i64 b, .int .i64 n, fv] h (fun v h' => LstE g h' A c (P ++ (Z ++ (Y ++ (X ++ Q))))) := by
  refine xcalls env_eSwap Tryz.func185 rfl (by kernel_rfl) rfl (by kernel_rfl) ?_
  have hl : a + n + Y.length + n + Q.length = k := by rw [← hk]; simp only [List.length_append]; omega
  have step : ∀ i, i < n → ∀ x z, X[i]? = some x → Z[i]? = some z → ((P ++ (mixS X Z i ++ (Y ++ (mixS Z X i ++ Q)))).set (a + i) z).set (b + i) x = P ++ (mixS X Z (i + 1) ++ (Y ++ (mixS Z X (i + 1) ++ Q))) := by
    intro i hi x z hxi hzi
    rw [set_mid ha (by rw [mixS_len (by omega)]; omega), mixS_set (by omega) (by omega) hzi]
    have e : P ++ (mixS X Z (i + 1) ++ (Y ++ (mixS Z X i ++ Q))) = (P ++ (mixS X Z (i + 1) ++ Y)) ++ (mixS Z X i ++ Q) := by simp
    rw [e, set_mid (by simp only [List.length_append]; rw [mixS_len (by omega)]; omega) (by rw [mixS_len (by omega)]; omega), mixS_set (by omega) (by omega) hxi]
    simp
  refine ⟨Nat, fun i => [(0, .slice A k c), (1, .int .i64 a), (2, .int .i64 b), (3, .int .i64 n), (10, .int .i64 i)], fun i h' => i ≤ n ∧ LstE g h' A c (P ++ (mixS X Z i ++ (Y ++ (mixS Z X i ++ Q)))), fun i => n - i, 0, ⟨rfl, rfl, rfl, rfl, rfl, trivial⟩, ⟨Nat.zero_le _, H⟩, ?_⟩
  rintro i h2 ⟨hi, H2⟩
  have hlen : (P ++ (mixS X Z i ++ (Y ++ (mixS Z X i ++ Q)))).length = k := by simp only [List.length_append]; rw [mixS_len (by omega), mixS_len (by omega)]; omega
  refine xif_of (fun hlt => ?_) (fun hge => ?_)
  rotate_left
  · have hge : ¬ (i : Int) < n := of_decide_eq_false hge
    obtain rfl : i = n := by omega
    have e1 : mixS X Z i = Z := by unfold mixS; rw [List.take_of_length_le (by omega), List.drop_eq_nil_of_le (by omega), List.append_nil]
    have e2 : mixS Z X i = X := by unfold mixS; rw [List.take_of_length_le (by omega), List.drop_eq_nil_of_le (by omega), List.append_nil]
    rw [e1, e2] at H2
    exact H2
  have hlt : (i : Int) < n := of_decide_eq_true hlt
  obtain ⟨x, hxi⟩ : ∃ x, X[i]? = some x := ⟨X[i]'(by omega), List.getElem?_eq_getElem (by omega)⟩
  obtain ⟨z, hzi⟩ : ∃ z, Z[i]? = some z := ⟨Z[i]'(by omega), List.getElem?_eq_getElem (by omega)⟩
  have ea : IntKind.i64.wrap ((a : Int) + (i : Int)) = ((a + i : Nat) : Int) := by rw [wrap_i64 (by omega) (by omega)]; omega
  have eb : IntKind.i64.wrap ((b : Int) + (i : Int)) = ((b + i : Nat) : Int) := by rw [wrap_i64 (by omega) (by omega)]; omega
  have g1 : (P ++ (mixS X Z i ++ (Y ++ (mixS Z X i ++ Q))))[a + i]? = some x := by rw [get_mid ha (by rw [mixS_len (by omega)]; omega), mixS_get (by omega) (by omega), hxi]
  have g2 : (P ++ (mixS X Z i ++ (Y ++ (mixS Z X i ++ Q))))[b + i]? = some z := by
    have e : P ++ (mixS X Z i ++ (Y ++ (mixS Z X i ++ Q))) = (P ++ (mixS X Z i ++ Y)) ++ (mixS Z X i ++ Q) := by simp
    rw [e, get_mid (by simp only [List.length_append]; rw [mixS_len (by omega)]; omega) (by rw [mixS_len (by omega)]; omega), mixS_get (by omega) (by omega), hzi]
  obtain ⟨a1, hA1, l1, u1, c1l, c1⟩ := H2.rd eb g2
  obtain ⟨a2, hA2, l2, u2, c2l, c2⟩ := H2.rd ea g1
  rw [hlen] at u1 u2
  refine ⟨a1, hA1, l1, u1, _, c1l, c1, a2, hA2, l2, u2, _, c2l, c2, ?_⟩
  obtain ⟨a3, hA3, l3, u3, cs3, H3⟩ := H2.wr ea (by omega) z
  rw [hlen] at u3
  refine ⟨a3, hA3, l3, u3, rfl, rfl, cs3, fun h3 s3 => ?_⟩
  have H3 := H3 h3 s3
  obtain ⟨a4, hA4, l4, u4, cs4, H4⟩ := H3.wr eb (by rw [List.length_set]; omega) x
  rw [List.length_set, hlen] at u4
  refine ⟨a4, hA4, l4, u4, rfl, rfl, cs4, fun h4 s4 => ?_⟩
  have H4 := H4 h4 s4
  rw [step i (by omega) x z hxi hzi] at H4
  exact ⟨i + 1, ⟨rfl, rfl, rfl, rfl, slot_inc (by omega), trivial⟩, ⟨by omega, H4⟩, by show n - (i + 1) < n - i; omega⟩
theorem eRotate_spec {P U V Q : List EE} {a m b k : Nat} {fv : Value} (H : LstE g h A c (P ++ (U ++ (V ++ Q)))) (ha : P.length = a) (hm : a + U.length = m) (hb : m + V.length = b) (h1 : a < m) (h2 : m < b) (hk : (P ++ (U ++ (V ++ Q))).length = k) (hbig : k ≤ 100000) :
    HCalls Tryz.prog 161 #[.slice A k c, .int .i64 a, .int .i64 m, .int .i64 b, fv] h (fun v h' => LstE g h' A c (P ++ (V ++ (U ++ Q)))) := by
  refine xcalls env0 Tryz.func161 rfl (by kernel_rfl) rfl (by kernel_rfl) ?_
  have hl : b + Q.length = k := by rw [← hk]; simp only [List.length_append]; omega
  have e1 : IntKind.i64.wrap ((m : Int) - (a : Int)) = ((m - a : Nat) : Int) := by rw [wrap_i64 (by omega) (by omega)]; omega
  have e2 : IntKind.i64.wrap ((b : Int) - (m : Int)) = ((b - m : Nat) : Int) := by rw [wrap_i64 (by omega) (by omega)]; omega
  refine ⟨Nat × Nat × List EE × List EE × List EE × List EE, fun z => [(0, .slice A k c), (2, .int .i64 m), (4, fv), (10, .int .i64 z.1), (11, .int .i64 z.2.1)],
    fun z h' => (1 ≤ z.1 ∧ z.1 ≤ m ∧ 1 ≤ z.2.1 ∧ m + z.2.1 ≤ b) ∧ (z.2.2.1.length + z.1 = m ∧ z.2.2.2.1.length = z.1 ∧ z.2.2.2.2.1.length = z.2.1) ∧ z.2.2.1 ++ (z.2.2.2.2.1 ++ (z.2.2.2.1 ++ z.2.2.2.2.2)) = P ++ (V ++ (U ++ Q)) ∧ LstE g h' A c (z.2.2.1 ++ (z.2.2.2.1 ++ (z.2.2.2.2.1 ++ z.2.2.2.2.2))),
    fun z => z.1 + z.2.1, (m - a, b - m, P, U, V, Q), ⟨rfl, rfl, rfl, congrArg (fun x => some (Value.int .i64 x)) e1, congrArg (fun x => some (Value.int .i64 x)) e2, trivial⟩, ⟨by show 1 ≤ m - a ∧ m - a ≤ m ∧ 1 ≤ b - m ∧ m + (b - m) ≤ b; omega, by show P.length + (m - a) = m ∧ U.length = m - a ∧ V.length = b - m; omega, rfl, H⟩, ?_⟩
  rintro ⟨i, j, P', U', V', Q'⟩ h2' ⟨⟨i1, i2, j1, j2⟩, ⟨lp, lu, lv⟩, heq, H2⟩
  simp only at i1 i2 j1 j2 lp lu lv heq H2
  have hlen : (P' ++ (U' ++ (V' ++ Q'))).length = k := by
    have := congrArg List.length heq
    simp only [List.length_append] at this ⊢
    omega
  have ei : IntKind.i64.wrap ((m : Int) - (i : Int)) = ((m - i : Nat) : Int) := by rw [wrap_i64 (by omega) (by omega)]; omega
  refine xif_of (fun hne => ?_) (fun hne => ?_)
  rotate_left
  · have hne : i = j := by have : (i : Int) = j := by simpa using hne
                           omega
    subst hne
    have H2' : LstE g h2' A c (P' ++ (U' ++ ([] ++ (V' ++ Q')))) := H2
    have := eSwap_spec (n := i) (fv := fv) H2' (a := m - i) (b := m) (by omega) (by simp; omega) (by omega) (by omega) hlen hbig
    rw [← ei] at this
    refine this.mono ?_
    rintro v h3 H3
    have H3 : LstE g h3 A c (P' ++ (V' ++ (U' ++ Q'))) := H3
    rw [heq] at H3
    exact H3
  have hne : ¬ i = j := by have : ¬ (i : Int) = j := by simpa using hne
                           omega
  refine xif_of (fun hgt => ?_) (fun hgt => ?_)
  · have hgt : (i : Int) > (j : Int) := of_decide_eq_true hgt
    obtain ⟨X, Y, rfl, hX⟩ : ∃ X Y, U' = X ++ Y ∧ X.length = j := ⟨U'.take j, U'.drop j, (List.take_append_drop ..).symm, by rw [List.length_take]; omega⟩
    rw [List.length_append] at lu
    have H2' : LstE g h2' A c (P' ++ (X ++ (Y ++ (V' ++ Q')))) := by have := H2; rwa [List.append_assoc] at this
    have := eSwap_spec (n := j) (fv := fv) H2' (a := m - i) (b := m) (by omega) (by omega) (by omega) (by omega) (by rw [← hlen]; simp) hbig
    rw [← ei] at this
    refine this.mono ?_
    rintro v h3 H3
    have es : IntKind.i64.wrap ((i : Int) - (j : Int)) = ((i - j : Nat) : Int) := by rw [wrap_i64 (by omega) (by omega)]; omega
    refine ⟨(i - j, j, P' ++ V', Y, X, Q'), ⟨rfl, rfl, rfl, congrArg (fun x => some (Value.int .i64 x)) es, rfl, trivial⟩, ⟨by show 1 ≤ i - j ∧ i - j ≤ m ∧ 1 ≤ j ∧ m + j ≤ b; omega, by show (P' ++ V').length + (i - j) = m ∧ Y.length = i - j ∧ X.length = j; rw [List.length_append]; omega, ?_, ?_⟩, by show i - j + j < i + j; omega⟩
    · show P' ++ V' ++ (X ++ (Y ++ Q')) = _
      rw [← heq]; simp
    · show LstE g h3 A c (P' ++ V' ++ (Y ++ (X ++ Q')))
      rw [List.append_assoc]; exact H3
  · have hgt : ¬ (i : Int) > (j : Int) := of_decide_eq_false hgt
    obtain ⟨Y, Z, rfl, hY⟩ : ∃ Y Z, V' = Y ++ Z ∧ Y.length = j - i := ⟨V'.take (j - i), V'.drop (j - i), (List.take_append_drop ..).symm, by rw [List.length_take]; omega⟩
    rw [List.length_append] at lv
    have H2' : LstE g h2' A c (P' ++ (U' ++ (Y ++ (Z ++ Q')))) := by have := H2; rwa [List.append_assoc] at this
    have ej : IntKind.i64.wrap (IntKind.i64.wrap ((m : Int) + (j : Int)) - (i : Int)) = ((m + j - i : Nat) : Int) := by rw [wrap_i64 (x := (m : Int) + j) (by omega) (by omega), wrap_i64 (by omega) (by omega)]; omega
    have := eSwap_spec (n := i) (fv := fv) H2' (a := m - i) (b := m + j - i) (by omega) (by omega) (by omega) (by omega) (by rw [← hlen]; simp) hbig
    rw [← ei, ← ej] at this
    refine this.mono ?_
    rintro v h3 H3
    have es : IntKind.i64.wrap ((j : Int) - (i : Int)) = ((j - i : Nat) : Int) := by rw [wrap_i64 (by omega) (by omega)]; omega
    refine ⟨(i, j - i, P', Z, Y, U' ++ Q'), ⟨rfl, rfl, rfl, rfl, congrArg (fun x => some (Value.int .i64 x)) es, trivial⟩, ⟨by show 1 ≤ i ∧ i ≤ m ∧ 1 ≤ j - i ∧ m + (j - i) ≤ b; omega, by show P'.length + i = m ∧ Z.length = i ∧ Y.length = j - i; omega, ?_, ?_⟩, by show i + (j - i) < i + j; omega⟩
    · show P' ++ (Y ++ (Z ++ (U' ++ Q'))) = _
      rw [← heq]; simp
    · exact H3
end
/-- A function that tells which of two is less, and leaves all as it was. -/
structure CmpOkE (g : GH) (lt : EE → EE → Prop) (D : EE → Prop) (f lb : Nat) : Prop where
  call : ∀ (h : Heap) (x y : EE), h[g.lb]? = some g.o → D x → D y → HCalls Tryz.prog f #[.agg (encEn x).toArray, .agg (encEn y).toArray, .pointer (some ⟨lb, 0, none⟩)] h (fun v h' => ∃ r : Int, v = .int .i64 r ∧ (r < 0 ↔ lt x y) ∧ Ext h h')
section
variable {g : GH} {h h' : Heap} {A : Option Addr} {c : Nat} {lt bf : EE → EE → Prop} {D : EE → Prop} {f lb : Nat}
theorem eIns_spec (S : Swo lt) (C : CmpOkE g lt D f lb) {P T Q : List EE} {a b k : Nat} (H : LstE g h A c (P ++ (T ++ Q))) (ha : P.length = a) (hb : a + T.length = b) (hk : (P ++ (T ++ Q)).length = k) (hbig : k ≤ 100000) (asc : T.Pairwise bf) (hD : ∀ x ∈ T, D x) :
    HCalls Tryz.prog 131 #[.slice A k c, .int .i64 a, .int .i64 b, .func (.func f) #[] #[.pointer (some ⟨lb, 0, none⟩)]] h (fun v h' => ∃ W, LstE g h' A c (P ++ (W ++ Q)) ∧ W.Perm T ∧ W.Pairwise (Lx lt bf)) := by
  refine xcalls env_eIns Tryz.func131 rfl (by kernel_rfl) rfl (by kernel_rfl) ?_
  have hl : b + Q.length = k := by rw [← hk]; simp only [List.length_append]; omega
  have e1 : IntKind.i64.wrap ((a : Int) + 1) = ((a + 1 : Nat) : Int) := by rw [wrap_i64 (by omega) (by omega)]; omega
  refine ⟨Nat × List EE × List EE, fun z => [(0, .slice A k c), (1, .int .i64 a), (2, .int .i64 b), (3, .func (.func f) #[] #[.pointer (some ⟨lb, 0, none⟩)]), (8, .int .i64 z.1)],
    fun z h' => (a + 1 ≤ z.1 ∧ b ≤ a + z.2.1.length + z.2.2.length ∧ (a + z.2.1.length = z.1 ∨ T = [])) ∧ (∃ T1, T = T1 ++ z.2.2 ∧ z.2.1.Perm T1) ∧ z.2.1.Pairwise (Lx lt bf) ∧ LstE g h' A c (P ++ (z.2.1 ++ (z.2.2 ++ Q))), fun z => k - z.1,
    (a + 1, T.take 1, T.drop 1), ⟨rfl, rfl, rfl, rfl, congrArg (fun x => some (Value.int .i64 x)) e1, trivial⟩, ?_, ?_⟩
  · refine ⟨⟨Nat.le_refl _, ?_, ?_⟩, ⟨T.take 1, (List.take_append_drop ..).symm, List.Perm.refl _⟩, ?_, ?_⟩
    · show b ≤ a + (T.take 1).length + (T.drop 1).length
      rw [List.length_take, List.length_drop]; omega
    · cases T with
      | nil => exact .inr rfl
      | cons t T => exact .inl rfl
    · cases T with
      | nil => exact List.Pairwise.nil
      | cons t T => exact List.pairwise_singleton _ _
    · show LstE g h A c (P ++ (T.take 1 ++ (T.drop 1 ++ Q)))
      rw [← List.append_assoc (T.take 1), List.take_append_drop]; exact H
  rintro ⟨i, W, R⟩ h2 ⟨⟨i1, i2, i3⟩, ⟨T1, hT, hp⟩, hs, H2⟩
  simp only at i1 i2 i3 hT hp hs H2
  have hpl := hp.length_eq
  have hTl : T.length = T1.length + R.length := by rw [hT, List.length_append]
  refine xif_of (fun hlt => ?_) (fun hge => ?_)
  rotate_left
  · have hge : ¬ (i : Int) < b := of_decide_eq_false hge
    have hR : R = [] := by
      cases R with
      | nil => rfl
      | cons r R =>
        rcases i3 with i3 | i3
        · simp only [List.length_cons] at i2 hTl; omega
        · rw [i3] at hTl; simp at hTl
    subst hR
    rw [List.append_nil] at hT
    exact ⟨W, H2, hT ▸ hp, hs⟩
  have hlt : (i : Int) < b := of_decide_eq_true hlt
  have i3 : a + W.length = i := by
    rcases i3 with i3 | i3
    · exact i3
    · rw [i3] at hb; simp at hb; omega
  obtain ⟨z, R', rfl⟩ : ∃ z R', R = z :: R' := by
    cases R with
    | nil => simp only [List.length_nil] at i2; omega
    | cons z R' => exact ⟨z, R', rfl⟩
  have hzb : ∀ t ∈ W, bf t z := fun t ht => by
    have := asc
    rw [hT] at this
    exact (List.pairwise_append.1 this).2.2 t (hp.mem_iff.1 ht) z (List.mem_cons_self ..)
  have hDz : D z := hD z (by rw [hT]; simp)
  have hDW : ∀ t ∈ W, D t := fun t ht => hD t (by rw [hT]; exact List.mem_append_left _ (hp.mem_iff.1 ht))
  have fin : ∀ (T1' T2' : List EE), W = T1' ++ T2' → (∀ t ∈ T2', lt z t) → (∀ y, T1'.getLast? = some y → ¬ lt z y) → (∃ T1, T = T1 ++ R' ∧ (T1' ++ z :: T2').Perm T1) ∧ (T1' ++ z :: T2').Pairwise (Lx lt bf) := by
    intro X Y e1 e2 e3
    refine ⟨⟨T1 ++ [z], by rw [hT]; simp, ?_⟩, pw_insert S (e1 ▸ hs) e2 e3 fun t ht => hzb t (by rw [e1]; exact List.mem_append_left _ ht)⟩
    exact List.perm_middle.trans ((List.Perm.cons z (e1 ▸ hp)).trans (List.perm_append_comm (l₁ := [z])))
  refine ⟨Nat × List EE × List EE, fun y => [(0, .slice A k c), (1, .int .i64 a), (2, .int .i64 b), (3, .func (.func f) #[] #[.pointer (some ⟨lb, 0, none⟩)]), (8, .int .i64 i), (9, .int .i64 y.1)],
    fun y h' => a + y.2.1.length = y.1 ∧ W = y.2.1 ++ y.2.2 ∧ (∀ t ∈ y.2.2, lt z t) ∧ LstE g h' A c (P ++ (y.2.1 ++ (z :: (y.2.2 ++ (R' ++ Q))))), fun y => y.1,
    (i, W, []), ⟨rfl, rfl, rfl, rfl, rfl, rfl, trivial⟩, ⟨i3, (List.append_nil _).symm, (fun t ht => by cases ht), H2⟩, ?_⟩
  rintro ⟨j, X, Y⟩ h3 ⟨j1, hW, hY, H3⟩
  simp only at j1 hW hY H3
  have hWl : W.length = X.length + Y.length := by rw [hW, List.length_append]
  have next : ∀ h', LstE g h' A c (P ++ (X ++ (z :: (Y ++ (R' ++ Q))))) → LstE g h' A c (P ++ ((X ++ z :: Y) ++ (R' ++ Q))) := fun h' q => by simpa using q
  refine xif_of (fun hgt => ?_) (fun hgt => ?_)
  rotate_left
  · have hgt : ¬ (j : Int) > a := of_decide_eq_false hgt
    obtain rfl : X = [] := List.length_eq_zero_iff.1 (by omega)
    obtain ⟨q1, q2⟩ := fin [] Y hW hY (fun y e => by cases e)
    exact ⟨(i + 1, [] ++ z :: Y, R'), ⟨rfl, rfl, rfl, rfl, slot_inc (by omega), trivial⟩, ⟨⟨by show a + 1 ≤ i + 1; omega, by show b ≤ a + ([] ++ z :: Y).length + R'.length; simp only [List.nil_append, List.length_cons] at i2 hWl ⊢; omega, .inl (by show a + ([] ++ z :: Y).length = i + 1; simp only [List.nil_append, List.length_cons, List.length_nil] at hWl ⊢; omega)⟩, q1, q2, next h3 H3⟩, by show k - (i + 1) < k - i; omega⟩
  have hgt : (j : Int) > a := of_decide_eq_true hgt
  obtain ⟨X', y, rfl⟩ : ∃ X' y, X = X' ++ [y] := by
    rcases List.eq_nil_or_concat X with rfl | ⟨X', y, h⟩
    · simp only [List.length_nil] at j1; omega
    · exact ⟨X', y, by rw [h, List.concat_eq_append]⟩
  rw [List.length_append, List.length_singleton] at j1 hWl
  have hDy : D y := hDW y (by rw [hW]; simp)
  have shape : P ++ (X' ++ [y] ++ (z :: (Y ++ (R' ++ Q)))) = (P ++ X') ++ y :: z :: (Y ++ (R' ++ Q)) := by simp
  have hPX : (P ++ X').length = j - 1 := by rw [List.length_append]; omega
  rw [shape] at H3
  have hlen : ((P ++ X') ++ y :: z :: (Y ++ (R' ++ Q))).length = k := by
    have := congrArg List.length hT
    simp only [List.length_append, List.length_cons] at this i2 hPX ⊢; omega
  have ej : IntKind.i64.wrap ((j : Int) - 1) = ((j - 1 : Nat) : Int) := by rw [wrap_i64 (by omega) (by omega)]; omega
  have g1 : ((P ++ X') ++ y :: z :: (Y ++ (R' ++ Q)))[j - 1]? = some y := by rw [← hPX]; exact mem_len
  have g2 : ((P ++ X') ++ y :: z :: (Y ++ (R' ++ Q)))[j]? = some z := by
    have : (P ++ X') ++ y :: z :: (Y ++ (R' ++ Q)) = ((P ++ X') ++ [y]) ++ z :: (Y ++ (R' ++ Q)) := by simp
    rw [this, show j = ((P ++ X') ++ [y]).length by rw [List.length_append, hPX, List.length_singleton]; omega]
    exact mem_len
  obtain ⟨a1, hA1, l1, u1, c1l, c1⟩ := H3.rd (z := (j : Int)) rfl g2
  obtain ⟨a2, hA2, l2, u2, c2l, c2⟩ := H3.rd ej g1
  rw [hlen] at u1 u2
  refine ⟨a1, hA1, l1, u1, _, c1l, c1, a2, hA2, l2, u2, _, c2l, c2, ?_⟩
  refine (C.call h3 z y H3.box hDz hDy).mono ?_
  rintro v h4 ⟨r, rfl, hr, x4⟩
  have H4 := H3.after x4
  refine xif_of (fun hlt2 => ?_) (fun hge2 => ?_)
  rotate_left
  · have hge2 : ¬ lt z y := fun q => absurd (hr.2 q) (of_decide_eq_false hge2)
    obtain ⟨q1, q2⟩ := fin (X' ++ [y]) Y hW hY (fun y' e => by rw [List.getLast?_concat] at e; cases e; exact hge2)
    rw [← shape] at H4
    exact ⟨(i + 1, X' ++ [y] ++ z :: Y, R'), ⟨rfl, rfl, rfl, rfl, slot_inc (by omega), trivial⟩, ⟨⟨by show a + 1 ≤ i + 1; omega, by show b ≤ a + (X' ++ [y] ++ z :: Y).length + R'.length; simp only [List.length_append, List.length_cons, List.length_nil] at i2 hWl ⊢; omega, .inl (by show a + (X' ++ [y] ++ z :: Y).length = i + 1; simp only [List.length_append, List.length_cons, List.length_nil] at hWl ⊢; omega)⟩, q1, q2, next h4 H4⟩, by show k - (i + 1) < k - i; omega⟩
  have hlt2 : lt z y := hr.1 (of_decide_eq_true hlt2)
  obtain ⟨b1, hB1, m1, w1, d1l, d1⟩ := H4.rd ej g1
  obtain ⟨b2, hB2, m2, w2, d2l, d2⟩ := H4.rd (z := (j : Int)) rfl g2
  rw [hlen] at w1 w2
  refine ⟨b1, hB1, m1, w1, _, d1l, d1, b2, hB2, m2, w2, _, d2l, d2, ?_⟩
  obtain ⟨a3, hA3, l3, u3, cs3, H5⟩ := H4.wr (z := (j : Int)) (i := j) rfl (by rw [hlen]; omega) y
  rw [hlen] at u3
  refine ⟨a3, hA3, l3, u3, rfl, rfl, cs3, fun h5 s5 => ?_⟩
  have H5 := H5 h5 s5
  obtain ⟨a4, hA4, l4, u4, cs4, H6⟩ := H5.wr ej (by rw [List.length_set, hlen]; omega) z
  rw [List.length_set, hlen] at u4
  refine ⟨a4, hA4, l4, u4, rfl, rfl, cs4, fun h6 s6 => ?_⟩
  have H6 := H6 h6 s6
  have es := swap_next (R := Y ++ (R' ++ Q)) (x := y) (z := z) hPX
  rw [show j - 1 + 1 = j by omega] at es
  rw [es] at H6
  refine ⟨(j - 1, X', y :: Y), ⟨rfl, rfl, rfl, rfl, rfl, congrArg (fun x => some (Value.int .i64 x)) ej, trivial⟩, ⟨by show a + X'.length = j - 1; omega, by rw [hW]; simp, (fun t ht => ?_), by simpa using H6⟩, by show j - 1 < j; omega⟩
  rcases List.mem_cons.1 ht with rfl | ht
  · exact hlt2
  · exact hY t ht
set_option maxHeartbeats 4000000 in
theorem eSym_spec (S : Swo lt) (C : CmpOkE g lt D f lb) : ∀ (d : Nat) {h : Heap} {P U V Q : List EE} {a m b k : Nat}, b - a ≤ d → LstE g h A c (P ++ (U ++ (V ++ Q))) → P.length = a → a + U.length = m → m + V.length = b → a < m → m < b → (P ++ (U ++ (V ++ Q))).length = k → k ≤ 100000 →
    U.Pairwise (Lx lt bf) → V.Pairwise (Lx lt bf) → (∀ x ∈ U, ∀ y ∈ V, bf x y) → (∀ x ∈ U, D x) → (∀ x ∈ V, D x) →
    HCalls Tryz.prog 132 #[.slice A k c, .int .i64 a, .int .i64 m, .int .i64 b, .func (.func f) #[] #[.pointer (some ⟨lb, 0, none⟩)]] h (fun v h' => ∃ W, LstE g h' A c (P ++ (W ++ Q)) ∧ W.Perm (U ++ V) ∧ W.Pairwise (Lx lt bf)) := by
  intro d
  induction d with
  | zero => intro h P U V Q a m b k hd H ha hm hb h1 h2; omega
  | succ d ih =>
  intro h P U V Q a m b k hd H ha hm hb h1 h2 hk hbig hU hV hbf hDU hDV
  refine xcalls env_eSym Tryz.func132 rfl (by kernel_rfl) rfl (by kernel_rfl) ?_
  have hl : b + Q.length = k := by rw [← hk]; simp only [List.length_append]; omega
  have e1 : IntKind.i64.wrap ((m : Int) - (a : Int)) = ((m - a : Nat) : Int) := by rw [wrap_i64 (by omega) (by omega)]; omega
  have e2 : IntKind.i64.wrap ((b : Int) - (m : Int)) = ((b - m : Nat) : Int) := by rw [wrap_i64 (by omega) (by omega)]; omega
  have shape : ∀ h', LstE g h' A c (P ++ (U ++ (V ++ Q))) → LstE g h' A c ((P ++ U) ++ (V ++ Q)) := fun h' q => by rwa [List.append_assoc]
  have lenS : ((P ++ U) ++ (V ++ Q)).length = k := by rw [List.append_assoc]; exact hk
  have gU : ∀ {i : Nat} {x : EE}, U[i]? = some x → (P ++ (U ++ (V ++ Q)))[a + i]? = some x := fun hx => get3 ha hx
  have gV : ∀ {i : Nat} {x : EE}, V[i]? = some x → (P ++ (U ++ (V ++ Q)))[m + i]? = some x := fun hx => by rw [← List.append_assoc]; exact get3 (by rw [List.length_append]; omega) hx
  refine xif_of (fun q => ?_) (fun q => ?_)
  · have q : m - a = 1 := by
      have : ((IntKind.i64.wrap ((m : Int) - (a : Int))) == 1) = true := q
      rw [e1] at this
      simp only [beq_iff_eq] at this
      omega
    obtain ⟨u, rfl⟩ : ∃ u, U = [u] := List.length_eq_one_iff.1 (by omega)
    have gu : (P ++ ([u] ++ (V ++ Q)))[a]? = some u := gU (i := 0) rfl
    have hDu := hDU u (List.mem_cons_self ..)
    refine ⟨Nat × Nat, fun z => [(0, .slice A k c), (1, .int .i64 a), (2, .int .i64 m), (4, .func (.func f) #[] #[.pointer (some ⟨lb, 0, none⟩)]), (10, .int .i64 z.1), (11, .int .i64 z.2)],
      fun z h' => (m ≤ z.1 ∧ z.1 ≤ z.2 ∧ z.2 ≤ b) ∧ (∀ i x, m + i < z.1 → V[i]? = some x → lt x u) ∧ (∀ i x, z.2 ≤ m + i → V[i]? = some x → ¬ lt x u) ∧ LstE g h' A c (P ++ ([u] ++ (V ++ Q))), fun z => z.2 - z.1, (m, b), ⟨rfl, rfl, rfl, rfl, rfl, rfl, trivial⟩, ⟨by show m ≤ m ∧ m ≤ b ∧ b ≤ b; omega, (fun i x hi => by have hi : m + i < m := hi; omega), (fun i x hi hx => by have hi : b ≤ m + i := hi; have := (List.getElem?_eq_some_iff.1 hx).1; omega), H⟩, ?_⟩
    rintro ⟨i, j⟩ h3 ⟨⟨i1, i2, i3⟩, lo, hi, H3⟩
    simp only at i1 i2 i3 lo hi H3
    refine xif_of (fun hlt => ?_) (fun hge => ?_)
    · have hlt : (i : Int) < j := of_decide_eq_true hlt
      have em := mid_eq (i := i) (j := j) (by omega)
      obtain ⟨t, ht⟩ : ∃ t, (i + j) / 2 = m + t := ⟨(i + j) / 2 - m, by omega⟩
      rw [ht] at em
      obtain ⟨x, hx⟩ : ∃ x, V[t]? = some x := ⟨V[t]'(by omega), List.getElem?_eq_getElem (by omega)⟩
      obtain ⟨a1, hA1, l1, u1, c1l, c1⟩ := H3.rd em (gV hx)
      obtain ⟨a2, hA2, l2, u2, c2l, c2⟩ := H3.rd (z := (a : Int)) rfl gu
      rw [hk] at u1 u2
      refine ⟨by decide, a1, hA1, l1, u1, _, c1l, c1, a2, hA2, l2, u2, _, c2l, c2, ?_⟩
      refine (C.call h3 x u H3.box (hDV x (List.mem_of_getElem? hx)) hDu).mono ?_
      rintro v h4 ⟨r, rfl, hr, x4⟩
      refine xif_of (fun q2 => ?_) (fun q2 => ?_)
      · have q2 : lt x u := hr.1 (of_decide_eq_true q2)
        have en : IntKind.i64.wrap (((m + t : Nat) : Int) + 1) = ((m + t + 1 : Nat) : Int) := by rw [wrap_i64 (by omega) (by omega)]; omega
        refine ⟨(m + t + 1, j), ⟨rfl, rfl, rfl, rfl, congrArg (fun x => some (Value.int .i64 x)) (by rw [em]; exact en), rfl, trivial⟩, ⟨by show m ≤ m + t + 1 ∧ m + t + 1 ≤ j ∧ j ≤ b; omega, (fun i' y hi' hy => ?_), hi, H3.after x4⟩, by show j - (m + t + 1) < j - i; omega⟩
        have hi' : m + i' < m + t + 1 := hi'
        exact S.lelt (le_at S hV hy hx (by omega)) q2
      · have q2 : ¬ lt x u := fun e => absurd (hr.2 e) (of_decide_eq_false q2)
        refine ⟨(i, m + t), ⟨rfl, rfl, rfl, rfl, rfl, congrArg (fun x => some (Value.int .i64 x)) em, trivial⟩, ⟨by show m ≤ i ∧ i ≤ m + t ∧ m + t ≤ b; omega, lo, (fun i' y hi' hy => ?_), H3.after x4⟩, by show m + t - i < j - i; omega⟩
        have hi' : m + t ≤ m + i' := hi'
        exact S.negt u x y q2 (le_at S hV hx hy (by omega))
    have hge : ¬ (i : Int) < j := of_decide_eq_false hge
    obtain rfl : i = j := by omega
    obtain ⟨s, rfl⟩ : ∃ s, i = m + s := ⟨i - m, by omega⟩
    have ei : IntKind.i64.wrap (((m + s : Nat) : Int) - 1) = ((a + s : Nat) : Int) := by rw [wrap_i64 (by omega) (by omega)]; omega
    refine ⟨Nat, fun n => [(0, .slice A k c), (10, .int .i64 ((m + s : Nat) : Int)), (13, .int .i64 ((a + n : Nat) : Int))], fun n h' => n ≤ s ∧ LstE g h' A c (P ++ (V.take n ++ u :: (V.drop n ++ Q))), fun n => s - n, 0, ⟨rfl, rfl, rfl, trivial⟩, ⟨Nat.zero_le _, by simpa using H3⟩, ?_⟩
    rintro n h4 ⟨hn, H4⟩
    have hlen : (P ++ (V.take n ++ u :: (V.drop n ++ Q))).length = k := by simp only [List.length_append, List.length_take, List.length_cons, List.length_drop]; omega
    refine xif_of (fun hlt => ?_) (fun hge => ?_)
    · have hlt : ((a + n : Nat) : Int) < IntKind.i64.wrap (((m + s : Nat) : Int) - 1) := of_decide_eq_true hlt
      rw [ei] at hlt
      obtain ⟨x, hx⟩ : ∃ x, V[n]? = some x := ⟨V[n]'(by omega), List.getElem?_eq_getElem (by omega)⟩
      have en : IntKind.i64.wrap (((a + n : Nat) : Int) + 1) = ((a + n + 1 : Nat) : Int) := by rw [wrap_i64 (by omega) (by omega)]; omega
      have g1 : (P ++ (V.take n ++ u :: (V.drop n ++ Q)))[a + n]? = some u := by
        rw [← List.append_assoc, show a + n = (P ++ V.take n).length by rw [List.length_append, List.length_take]; omega]
        exact mem_len
      have g2 : (P ++ (V.take n ++ u :: (V.drop n ++ Q)))[a + n + 1]? = some x := by
        obtain ⟨hl', rfl⟩ := List.getElem?_eq_some_iff.1 hx
        have : P ++ (V.take n ++ u :: (V.drop n ++ Q)) = (P ++ (V.take n ++ [u])) ++ V[n] :: (V.drop (n + 1) ++ Q) := by rw [List.drop_eq_getElem_cons hl', List.append_assoc, List.append_assoc]; rfl
        rw [this, show a + n + 1 = (P ++ (V.take n ++ [u])).length by simp only [List.length_append, List.length_take, List.length_singleton]; omega]
        exact mem_len
      obtain ⟨a1, hA1, l1, u1, c1l, c1⟩ := H4.rd en g2
      obtain ⟨a2, hA2, l2, u2, c2l, c2⟩ := H4.rd (z := ((a + n : Nat) : Int)) rfl g1
      rw [hlen] at u1 u2
      refine ⟨a1, hA1, l1, u1, _, c1l, c1, a2, hA2, l2, u2, _, c2l, c2, ?_⟩
      obtain ⟨a3, hA3, l3, u3, cs3, H5⟩ := H4.wr (z := ((a + n : Nat) : Int)) rfl (by rw [hlen]; omega) x
      rw [hlen] at u3
      refine ⟨a3, hA3, l3, u3, rfl, rfl, cs3, fun h5 s5 => ?_⟩
      have H5 := H5 h5 s5
      obtain ⟨a4, hA4, l4, u4, cs4, H6⟩ := H5.wr en (by rw [List.length_set, hlen]; omega) u
      rw [List.length_set, hlen] at u4
      refine ⟨a4, hA4, l4, u4, rfl, rfl, cs4, fun h6 s6 => ?_⟩
      have H6 := H6 h6 s6
      rw [move_right ha hx] at H6
      exact ⟨n + 1, ⟨rfl, rfl, congrArg (fun x => some (Value.int .i64 x)) en, trivial⟩, ⟨by omega, H6⟩, by show s - (n + 1) < s - n; omega⟩
    · have hge : ¬ ((a + n : Nat) : Int) < IntKind.i64.wrap (((m + s : Nat) : Int) - 1) := of_decide_eq_false hge
      rw [ei] at hge
      obtain rfl : n = s := by omega
      refine ⟨V.take n ++ u :: V.drop n, by simpa using H4, ?_, ?_⟩
      · exact List.perm_middle.trans (List.Perm.cons u (by rw [List.take_append_drop]; exact List.Perm.refl _))
      · rw [← List.take_append_drop n V] at hV
        obtain ⟨p1, p2, p3⟩ := List.pairwise_append.1 hV
        refine pw_app p1 (List.pairwise_cons.2 ⟨fun y hy => ?_, p2⟩) fun x hx y hy => ?_
        · obtain ⟨t, ht⟩ := List.getElem?_of_mem hy
          rw [List.getElem?_drop] at ht
          exact Lx.of_le (hi _ _ (by omega) ht) (hbf u (List.mem_cons_self ..) y (List.mem_of_getElem? ht))
        · rcases List.mem_cons.1 hy with rfl | hy
          · obtain ⟨t, ht⟩ := List.getElem?_of_mem hx
            have htl := (List.getElem?_eq_some_iff.1 ht).1
            rw [List.length_take] at htl
            rw [List.getElem?_take, if_pos (by omega)] at ht
            exact Lx.of_lt (lo _ _ (by omega) ht)
          · exact p3 x hx y hy
  have q : ¬ m - a = 1 := by
    intro e
    have : ((IntKind.i64.wrap ((m : Int) - (a : Int))) == 1) = false := q
    rw [e1, e] at this
    cases this
  refine xif_of (fun q2 => ?_) (fun q2 => ?_)
  · have q2 : b - m = 1 := by
      have : ((IntKind.i64.wrap ((b : Int) - (m : Int))) == 1) = true := q2
      rw [e2] at this
      simp only [beq_iff_eq] at this
      omega
    obtain ⟨v, rfl⟩ : ∃ v, V = [v] := List.length_eq_one_iff.1 (by omega)
    have gv : (P ++ (U ++ ([v] ++ Q)))[m]? = some v := gV (i := 0) rfl
    have hDv := hDV v (List.mem_cons_self ..)
    refine ⟨Nat × Nat, fun z => [(0, .slice A k c), (2, .int .i64 m), (4, .func (.func f) #[] #[.pointer (some ⟨lb, 0, none⟩)]), (14, .int .i64 z.1), (15, .int .i64 z.2)],
      fun z h' => (a ≤ z.1 ∧ z.1 ≤ z.2 ∧ z.2 ≤ m) ∧ (∀ i x, a + i < z.1 → U[i]? = some x → ¬ lt v x) ∧ (∀ i x, z.2 ≤ a + i → U[i]? = some x → lt v x) ∧ LstE g h' A c (P ++ (U ++ ([v] ++ Q))), fun z => z.2 - z.1, (a, m), ⟨rfl, rfl, rfl, rfl, rfl, trivial⟩, ⟨by show a ≤ a ∧ a ≤ m ∧ m ≤ m; omega, (fun i x hi => by have hi : a + i < a := hi; omega), (fun i x hi hx => by have hi : m ≤ a + i := hi; have := (List.getElem?_eq_some_iff.1 hx).1; omega), H⟩, ?_⟩
    rintro ⟨i, j⟩ h3 ⟨⟨i1, i2, i3⟩, lo, hi, H3⟩
    simp only at i1 i2 i3 lo hi H3
    refine xif_of (fun hlt => ?_) (fun hge => ?_)
    · have hlt : (i : Int) < j := of_decide_eq_true hlt
      have em := mid_eq (i := i) (j := j) (by omega)
      obtain ⟨t, ht⟩ : ∃ t, (i + j) / 2 = a + t := ⟨(i + j) / 2 - a, by omega⟩
      rw [ht] at em
      obtain ⟨x, hx⟩ : ∃ x, U[t]? = some x := ⟨U[t]'(by omega), List.getElem?_eq_getElem (by omega)⟩
      obtain ⟨a1, hA1, l1, u1, c1l, c1⟩ := H3.rd (z := (m : Int)) rfl gv
      obtain ⟨a2, hA2, l2, u2, c2l, c2⟩ := H3.rd em (gU hx)
      rw [hk] at u1 u2
      refine ⟨by decide, a1, hA1, l1, u1, _, c1l, c1, a2, hA2, l2, u2, _, c2l, c2, ?_⟩
      refine (C.call h3 v x H3.box hDv (hDU x (List.mem_of_getElem? hx))).mono ?_
      rintro w h4 ⟨r, rfl, hr, x4⟩
      refine xif_of (fun q2 => ?_) (fun q2 => ?_)
      · have q2 : ¬ lt v x := fun e => by
          have := hr.2 e
          have q2 : (!decide (r < 0)) = true := q2
          simp at q2; omega
        have en : IntKind.i64.wrap (((a + t : Nat) : Int) + 1) = ((a + t + 1 : Nat) : Int) := by rw [wrap_i64 (by omega) (by omega)]; omega
        refine ⟨(a + t + 1, j), ⟨rfl, rfl, rfl, congrArg (fun x => some (Value.int .i64 x)) (by rw [em]; exact en), rfl, trivial⟩, ⟨by show a ≤ a + t + 1 ∧ a + t + 1 ≤ j ∧ j ≤ m; omega, (fun i' y hi' hy => ?_), hi, H3.after x4⟩, by show j - (a + t + 1) < j - i; omega⟩
        have hi' : a + i' < a + t + 1 := hi'
        exact S.negt y x v (le_at S hU hy hx (by omega)) q2
      · have q2 : lt v x := hr.1 (by have q2 : (!decide (r < 0)) = false := q2; simpa using q2)
        refine ⟨(i, a + t), ⟨rfl, rfl, rfl, rfl, congrArg (fun x => some (Value.int .i64 x)) em, trivial⟩, ⟨by show a ≤ i ∧ i ≤ a + t ∧ a + t ≤ m; omega, lo, (fun i' y hi' hy => ?_), H3.after x4⟩, by show a + t - i < j - i; omega⟩
        have hi' : a + t ≤ a + i' := hi'
        exact S.ltle q2 (le_at S hU hx hy (by omega))
    have hge : ¬ (i : Int) < j := of_decide_eq_false hge
    obtain rfl : i = j := by omega
    obtain ⟨s, rfl⟩ : ∃ s, i = a + s := ⟨i - a, by omega⟩
    refine ⟨Nat, fun n => [(0, .slice A k c), (14, .int .i64 ((a + s : Nat) : Int)), (17, .int .i64 ((a + n : Nat) : Int))], fun n h' => (s ≤ n ∧ a + n ≤ m) ∧ LstE g h' A c (P ++ (U.take n ++ v :: (U.drop n ++ Q))), fun n => n, U.length, ⟨rfl, rfl, congrArg (fun x : Nat => some (Value.int .i64 (x : Int))) hm.symm, trivial⟩, ⟨by omega, by simpa using H3⟩, ?_⟩
    rintro n h4 ⟨⟨hn, hn2⟩, H4⟩
    have hlen : (P ++ (U.take n ++ v :: (U.drop n ++ Q))).length = k := by simp only [List.length_append, List.length_take, List.length_cons, List.length_drop]; omega
    refine xif_of (fun hlt => ?_) (fun hge => ?_)
    · have hlt : ((a + n : Nat) : Int) > ((a + s : Nat) : Int) := of_decide_eq_true hlt
      obtain ⟨n, rfl⟩ : ∃ n', n = n' + 1 := ⟨n - 1, by omega⟩
      obtain ⟨x, hx⟩ : ∃ x, U[n]? = some x := ⟨U[n]'(by omega), List.getElem?_eq_getElem (by omega)⟩
      have en : IntKind.i64.wrap (((a + (n + 1) : Nat) : Int) - 1) = ((a + n : Nat) : Int) := by rw [wrap_i64 (by omega) (by omega)]; omega
      have g1 : (P ++ (U.take (n + 1) ++ v :: (U.drop (n + 1) ++ Q)))[a + (n + 1)]? = some v := by
        rw [← List.append_assoc, show a + (n + 1) = (P ++ U.take (n + 1)).length by rw [List.length_append, List.length_take]; omega]
        exact mem_len
      have g2 : (P ++ (U.take (n + 1) ++ v :: (U.drop (n + 1) ++ Q)))[a + n]? = some x := get3 ha (by rw [List.getElem?_take, if_pos (by omega), hx])
      obtain ⟨a1, hA1, l1, u1, c1l, c1⟩ := H4.rd en g2
      obtain ⟨a2, hA2, l2, u2, c2l, c2⟩ := H4.rd (z := ((a + (n + 1) : Nat) : Int)) rfl g1
      rw [hlen] at u1 u2
      refine ⟨a1, hA1, l1, u1, _, c1l, c1, a2, hA2, l2, u2, _, c2l, c2, ?_⟩
      obtain ⟨a3, hA3, l3, u3, cs3, H5⟩ := H4.wr (z := ((a + (n + 1) : Nat) : Int)) rfl (by rw [hlen]; omega) x
      rw [hlen] at u3
      refine ⟨a3, hA3, l3, u3, rfl, rfl, cs3, fun h5 s5 => ?_⟩
      have H5 := H5 h5 s5
      obtain ⟨a4, hA4, l4, u4, cs4, H6⟩ := H5.wr en (by rw [List.length_set, hlen]; omega) v
      rw [List.length_set, hlen] at u4
      refine ⟨a4, hA4, l4, u4, rfl, rfl, cs4, fun h6 s6 => ?_⟩
      have H6 := H6 h6 s6
      rw [show a + (n + 1) = a + n + 1 by omega, move_left ha hx] at H6
      exact ⟨n, ⟨rfl, rfl, congrArg (fun x => some (Value.int .i64 x)) en, trivial⟩, ⟨by omega, H6⟩, by show n < n + 1; omega⟩
    · have hge : ¬ ((a + n : Nat) : Int) > ((a + s : Nat) : Int) := of_decide_eq_false hge
      obtain rfl : n = s := by omega
      refine ⟨U.take n ++ v :: U.drop n, by simpa using H4, ?_, ?_⟩
      · refine List.perm_middle.trans ?_
        rw [List.take_append_drop]
        exact (List.perm_append_comm (l₁ := [v]))
      · rw [← List.take_append_drop n U] at hU
        obtain ⟨p1, p2, p3⟩ := List.pairwise_append.1 hU
        refine pw_app p1 (List.pairwise_cons.2 ⟨fun y hy => ?_, p2⟩) fun x hx y hy => ?_
        · obtain ⟨t, ht⟩ := List.getElem?_of_mem hy
          rw [List.getElem?_drop] at ht
          exact Lx.of_lt (hi _ _ (by omega) ht)
        · rcases List.mem_cons.1 hy with rfl | hy
          · obtain ⟨t, ht⟩ := List.getElem?_of_mem hx
            have htl := (List.getElem?_eq_some_iff.1 ht).1
            rw [List.length_take] at htl
            rw [List.getElem?_take, if_pos (by omega)] at ht
            exact Lx.of_le (lo _ _ (by omega) ht) (hbf x (List.mem_of_getElem? ht) y (List.mem_cons_self ..))
          · exact p3 x hx y hy
  have q2 : ¬ b - m = 1 := by
    intro e
    have : ((IntKind.i64.wrap ((b : Int) - (m : Int))) == 1) = false := q2
    rw [e2, e] at this
    cases this
  have em := mid_eq (i := a) (j := b) (by omega)
  obtain ⟨mid, hmid⟩ : ∃ mid, (a + b) / 2 = mid := ⟨_, rfl⟩
  rw [hmid] at em
  have en : IntKind.i64.wrap ((mid : Int) + (m : Int)) = ((mid + m : Nat) : Int) := by rw [wrap_i64 (by omega) (by omega)]; omega
  have en2 : IntKind.i64.wrap (((mid + m : Nat) : Int) - (b : Int)) = ((mid + m - b : Nat) : Int) ∨ ¬ m > mid := by
    by_cases q : m > mid
    · left; rw [wrap_i64 (by omega) (by omega)]; omega
    · exact .inr q
  refine ⟨by decide, ?_⟩
  refine ⟨Nat × Nat, fun z => [(0, .slice A k c), (1, .int .i64 a), (2, .int .i64 m), (3, .int .i64 b), (4, .func (.func f) #[] #[.pointer (some ⟨lb, 0, none⟩)]), (18, .int .i64 mid), (19, .int .i64 ((mid + m : Nat) : Int)), (20, .int .i64 z.1), (21, .int .i64 z.2)],
    fun z h' => ((m > mid ∧ z.1 = mid + m - b ∧ z.2 = mid) ∨ (m ≤ mid ∧ z.1 = a ∧ z.2 = m)) ∧ h' = h, ?_, ?_⟩
  · refine xif_of (fun q => ?_) (fun q => ?_)
    · have q : (m : Int) > IntKind.i64.wrap ((IntKind.u64.wrap (IntKind.i64.wrap ((a : Int) + (b : Int)))).fdiv (2 ^ (min (1 : Int).toNat IntKind.u64.bits))) := of_decide_eq_true q
      rw [em] at q
      have e3 := en2.resolve_right (by omega)
      exact ⟨(mid + m - b, mid), ⟨rfl, rfl, rfl, rfl, rfl, congrArg (fun x => some (Value.int .i64 x)) em, congrArg (fun x => some (Value.int .i64 x)) (by rw [em]; exact en), congrArg (fun x => some (Value.int .i64 x)) (by rw [em, en]; exact e3), congrArg (fun x => some (Value.int .i64 x)) em, trivial⟩, .inl ⟨by omega, rfl, rfl⟩, rfl⟩
    · have q : ¬ (m : Int) > IntKind.i64.wrap ((IntKind.u64.wrap (IntKind.i64.wrap ((a : Int) + (b : Int)))).fdiv (2 ^ (min (1 : Int).toNat IntKind.u64.bits))) := of_decide_eq_false q
      rw [em] at q
      exact ⟨(a, m), ⟨rfl, rfl, rfl, rfl, rfl, congrArg (fun x => some (Value.int .i64 x)) em, congrArg (fun x => some (Value.int .i64 x)) (by rw [em]; exact en), rfl, rfl, trivial⟩, .inr ⟨by omega, rfl, rfl⟩, rfl⟩
  rintro ⟨s0, r0⟩ h2 ⟨hsr, rfl⟩
  simp only at hsr
  have bs : a ≤ s0 ∧ s0 ≤ r0 ∧ r0 ≤ m ∧ r0 ≤ mid ∧ mid + m - b ≤ s0 ∧ a < mid ∧ mid < b := by omega
  have ep : IntKind.i64.wrap (((mid + m : Nat) : Int) - 1) = ((mid + m - 1 : Nat) : Int) := by rw [wrap_i64 (by omega) (by omega)]; omega
  refine ⟨Nat × Nat, fun z => [(0, .slice A k c), (1, .int .i64 a), (2, .int .i64 m), (3, .int .i64 b), (4, .func (.func f) #[] #[.pointer (some ⟨lb, 0, none⟩)]), (18, .int .i64 mid), (19, .int .i64 ((mid + m : Nat) : Int)), (20, .int .i64 z.1), (21, .int .i64 z.2), (22, .int .i64 ((mid + m - 1 : Nat) : Int))],
    fun z h' => (s0 ≤ z.1 ∧ z.1 ≤ z.2 ∧ z.2 ≤ r0) ∧ (s0 < z.1 → ∃ x y, U[z.1 - 1 - a]? = some x ∧ V[mid - z.1]? = some y ∧ ¬ lt y x) ∧ (z.2 < r0 → ∃ x y, U[z.2 - a]? = some x ∧ V[mid - 1 - z.2]? = some y ∧ lt y x) ∧ LstE g h' A c (P ++ (U ++ (V ++ Q))), fun z => z.2 - z.1, (s0, r0),
    ⟨rfl, rfl, rfl, rfl, rfl, rfl, rfl, rfl, rfl, congrArg (fun x => some (Value.int .i64 x)) ep, trivial⟩, ⟨by show s0 ≤ s0 ∧ s0 ≤ r0 ∧ r0 ≤ r0; omega, (fun e => by have e : s0 < s0 := e; omega), (fun e => by have e : r0 < r0 := e; omega), H⟩, ?_⟩
  rintro ⟨s, r⟩ h3 ⟨⟨s1, s2, s3⟩, lo, hi, H3⟩
  simp only at s1 s2 s3 lo hi H3
  refine xif_of (fun hlt => ?_) (fun hge => ?_)
  · have hlt : (s : Int) < r := of_decide_eq_true hlt
    have ec := mid_eq (i := s) (j := r) (by omega)
    obtain ⟨t, ht⟩ : ∃ t, (s + r) / 2 = t := ⟨_, rfl⟩
    rw [ht] at ec
    have ed : IntKind.i64.wrap (((mid + m - 1 : Nat) : Int) - (t : Int)) = ((m + (mid - 1 - t) : Nat) : Int) := by rw [wrap_i64 (by omega) (by omega)]; omega
    obtain ⟨x, hx⟩ : ∃ x, U[t - a]? = some x := ⟨U[t - a]'(by omega), List.getElem?_eq_getElem (by omega)⟩
    obtain ⟨y, hy⟩ : ∃ y, V[mid - 1 - t]? = some y := ⟨V[mid - 1 - t]'(by omega), List.getElem?_eq_getElem (by omega)⟩
    have gx := gU hx
    rw [show a + (t - a) = t by omega] at gx
    obtain ⟨a1, hA1, l1, u1, c1l, c1⟩ := H3.rd (z := IntKind.i64.wrap (((mid + m - 1 : Nat) : Int) - IntKind.i64.wrap ((IntKind.u64.wrap (IntKind.i64.wrap ((s : Int) + (r : Int)))).fdiv (2 ^ (min (1 : Int).toNat IntKind.u64.bits))))) (by rw [ec]; exact ed) (gV hy)
    obtain ⟨a2, hA2, l2, u2, c2l, c2⟩ := H3.rd ec gx
    rw [hk] at u1 u2
    refine ⟨by decide, a1, hA1, l1, u1, _, c1l, c1, a2, hA2, l2, u2, _, c2l, c2, ?_⟩
    refine (C.call h3 y x H3.box (hDV y (List.mem_of_getElem? hy)) (hDU x (List.mem_of_getElem? hx))).mono ?_
    rintro w h4 ⟨q, rfl, hq, x4⟩
    refine xif_of (fun q2 => ?_) (fun q2 => ?_)
    · have q2 : ¬ lt y x := fun e => by
        have := hq.2 e
        have q2 : (!decide (q < 0)) = true := q2
        simp at q2; omega
      have e5 : IntKind.i64.wrap ((t : Int) + 1) = ((t + 1 : Nat) : Int) := by rw [wrap_i64 (by omega) (by omega)]; omega
      refine ⟨(t + 1, r), ⟨rfl, rfl, rfl, rfl, rfl, rfl, rfl, congrArg (fun x => some (Value.int .i64 x)) (by rw [ec]; exact e5), rfl, rfl, trivial⟩, ⟨by show s0 ≤ t + 1 ∧ t + 1 ≤ r ∧ r ≤ r0; omega, (fun _ => ⟨x, y, by show U[t + 1 - 1 - a]? = _; rw [Nat.add_sub_cancel]; exact hx, by show V[mid - (t + 1)]? = _; rw [show mid - (t + 1) = mid - 1 - t by omega]; exact hy, q2⟩), hi, H3.after x4⟩, by show r - (t + 1) < r - s; omega⟩
    · have q2 : lt y x := hq.1 (by have q2 : (!decide (q < 0)) = false := q2; simpa using q2)
      refine ⟨(s, t), ⟨rfl, rfl, rfl, rfl, rfl, rfl, rfl, rfl, congrArg (fun x => some (Value.int .i64 x)) ec, rfl, trivial⟩, ⟨by show s0 ≤ s ∧ s ≤ t ∧ t ≤ r0; omega, lo, (fun _ => ⟨x, y, hx, hy, q2⟩), H3.after x4⟩, by show t - s < r - s; omega⟩
  have hge : ¬ (s : Int) < r := of_decide_eq_false hge
  obtain rfl : s = r := by omega
  have ee : IntKind.i64.wrap (((mid + m : Nat) : Int) - (s : Int)) = ((mid + m - s : Nat) : Int) := by rw [wrap_i64 (by omega) (by omega)]; omega
  obtain ⟨U1, hU1⟩ : ∃ U1, U.take (s - a) = U1 := ⟨_, rfl⟩
  obtain ⟨U2, hU2⟩ : ∃ U2, U.drop (s - a) = U2 := ⟨_, rfl⟩
  obtain ⟨V1, hV1⟩ : ∃ V1, V.take (mid - s) = V1 := ⟨_, rfl⟩
  obtain ⟨V2, hV2⟩ : ∃ V2, V.drop (mid - s) = V2 := ⟨_, rfl⟩
  have eU : U = U1 ++ U2 := by rw [← hU1, ← hU2, List.take_append_drop]
  have eV : V = V1 ++ V2 := by rw [← hV1, ← hV2, List.take_append_drop]
  have lU1 : U1.length = s - a := by rw [← hU1, List.length_take]; omega
  have lU2 : U2.length = m - s := by rw [← hU2, List.length_drop]; omega
  have lV1 : V1.length = mid - s := by rw [← hV1, List.length_take]; omega
  have lV2 : V2.length = b - (mid + m - s) := by rw [← hV2, List.length_drop]; omega
  have h12 : ∀ x ∈ U1, ∀ y ∈ V2, ¬ lt y x := by
    intro x hx y hy
    by_cases q : s0 < s
    · obtain ⟨x0, y0, g1, g2, g3⟩ := lo q
      obtain ⟨i, hi'⟩ := List.getElem?_of_mem hx
      have hil := (List.getElem?_eq_some_iff.1 hi').1
      rw [← hU1, List.getElem?_take, if_pos (by omega)] at hi'
      obtain ⟨j, hj'⟩ := List.getElem?_of_mem hy
      rw [← hV2, List.getElem?_drop] at hj'
      have q1 := le_at S hU hi' g1 (by omega)
      have q2 := le_at S hV g2 hj' (by omega)
      exact S.negt x y0 y (S.negt x x0 y0 q1 g3) q2
    · have := List.length_pos_of_mem hx
      have := List.length_pos_of_mem hy
      omega
  have h21 : ∀ x ∈ V1, ∀ y ∈ U2, lt x y := by
    intro x hx y hy
    by_cases q : s < r0
    · obtain ⟨x0, y0, g1, g2, g3⟩ := hi q
      obtain ⟨i, hi'⟩ := List.getElem?_of_mem hx
      have hil := (List.getElem?_eq_some_iff.1 hi').1
      rw [← hV1, List.getElem?_take, if_pos (by omega)] at hi'
      obtain ⟨j, hj'⟩ := List.getElem?_of_mem hy
      rw [← hU2, List.getElem?_drop] at hj'
      have q1 := le_at S hV hi' g2 (by omega)
      have q2 := le_at S hU g1 hj' (by omega)
      exact S.ltle (S.lelt q1 g3) q2
    · have := List.length_pos_of_mem hx
      have := List.length_pos_of_mem hy
      omega
  have hlen4 : (P ++ (U1 ++ (V1 ++ (U2 ++ (V2 ++ Q))))).length = k := by simp only [List.length_append]; omega
  rw [eU] at hU
  rw [eV] at hV
  rw [eU, eV] at hbf H3
  rw [eU] at hDU
  rw [eV] at hDV
  have hU' := List.pairwise_append.1 hU
  have hV' := List.pairwise_append.1 hV
  have H3' : LstE g h3 A c ((P ++ U1) ++ (U2 ++ (V1 ++ (V2 ++ Q)))) := by simpa only [List.append_assoc] using H3
  refine ⟨Unit, fun _ => [(0, .slice A k c), (1, .int .i64 a), (3, .int .i64 b), (4, .func (.func f) #[] #[.pointer (some ⟨lb, 0, none⟩)]), (18, .int .i64 mid), (20, .int .i64 s), (24, .int .i64 ((mid + m - s : Nat) : Int))],
    fun _ h' => LstE g h' A c (P ++ (U1 ++ (V1 ++ (U2 ++ (V2 ++ Q))))), ?_, ?_⟩
  · have same : (U2 = [] ∨ V1 = []) → LstE g h3 A c (P ++ (U1 ++ (V1 ++ (U2 ++ (V2 ++ Q))))) := by
      rintro (e | e) <;> subst e <;> simpa only [List.append_assoc, List.nil_append] using H3'
    refine xif_of (fun q => ?_) (fun q => ?_)
    rotate_left
    · have q : ¬ (s : Int) < m := of_decide_eq_false q
      exact ⟨(), ⟨rfl, rfl, rfl, rfl, rfl, rfl, congrArg (fun x => some (Value.int .i64 x)) ee, trivial⟩, same (.inl (List.length_eq_zero_iff.1 (by omega)))⟩
    have q : (s : Int) < m := of_decide_eq_true q
    refine xif_of (fun q2 => ?_) (fun q2 => ?_)
    rotate_left
    · have q2 : ¬ (m : Int) < IntKind.i64.wrap (((mid + m : Nat) : Int) - (s : Int)) := of_decide_eq_false q2
      rw [ee] at q2
      exact ⟨(), ⟨rfl, rfl, rfl, rfl, rfl, rfl, congrArg (fun x => some (Value.int .i64 x)) ee, trivial⟩, same (.inr (List.length_eq_zero_iff.1 (by omega)))⟩
    have q2 : (m : Int) < IntKind.i64.wrap (((mid + m : Nat) : Int) - (s : Int)) := of_decide_eq_true q2
    rw [ee] at q2
    have := eRotate_spec (a := s) (m := m) (b := mid + m - s) (k := k) (fv := .func (.func f) #[] #[.pointer (some ⟨lb, 0, none⟩)]) H3' (by rw [List.length_append]; omega) (by omega) (by omega) (by omega) (by omega) (by simp only [List.length_append]; omega) hbig
    rw [← ee] at this
    refine this.mono ?_
    rintro w h4 H4
    exact ⟨(), ⟨rfl, rfl, rfl, rfl, rfl, rfl, congrArg (fun x => some (Value.int .i64 x)) ee, trivial⟩, by simpa only [List.append_assoc] using H4⟩
  rintro _ h4 H4
  refine ⟨List EE, fun _ => [(0, .slice A k c), (3, .int .i64 b), (4, .func (.func f) #[] #[.pointer (some ⟨lb, 0, none⟩)]), (18, .int .i64 mid), (24, .int .i64 ((mid + m - s : Nat) : Int))],
    fun W1 h' => W1.Perm (U1 ++ V1) ∧ W1.Pairwise (Lx lt bf) ∧ LstE g h' A c (P ++ (W1 ++ (U2 ++ (V2 ++ Q)))), ?_, ?_⟩
  · have same : (U1 = [] ∨ V1 = []) → (U1 ++ V1).Pairwise (Lx lt bf) := by
      rintro (e | e) <;> subst e
      · exact hV'.1
      · rw [List.append_nil]; exact hU'.1
    have H4' : LstE g h4 A c (P ++ ((U1 ++ V1) ++ (U2 ++ (V2 ++ Q)))) := by simpa only [List.append_assoc] using H4
    refine xif_of (fun q => ?_) (fun q => ?_)
    rotate_left
    · have q : ¬ (a : Int) < s := of_decide_eq_false q
      exact ⟨U1 ++ V1, ⟨rfl, rfl, rfl, rfl, rfl, trivial⟩, List.Perm.refl _, same (.inl (List.length_eq_zero_iff.1 (by omega))), H4'⟩
    have q : (a : Int) < s := of_decide_eq_true q
    refine xif_of (fun q2 => ?_) (fun q2 => ?_)
    rotate_left
    · have q2 : ¬ (s : Int) < mid := of_decide_eq_false q2
      exact ⟨U1 ++ V1, ⟨rfl, rfl, rfl, rfl, rfl, trivial⟩, List.Perm.refl _, same (.inr (List.length_eq_zero_iff.1 (by omega))), H4'⟩
    have q2 : (s : Int) < mid := of_decide_eq_true q2
    refine (ih (a := a) (m := s) (b := mid) (k := k) (by omega) H4 ha (by omega) (by omega) (by omega) (by omega) hlen4 hbig hU'.1 hV'.1 (fun x hx y hy => hbf x (List.mem_append_left _ hx) y (List.mem_append_left _ hy)) (fun x hx => hDU x (List.mem_append_left _ hx)) (fun x hx => hDV x (List.mem_append_left _ hx))).mono ?_
    rintro w h5 ⟨W, H5, p5, s5⟩
    exact ⟨W, ⟨rfl, rfl, rfl, rfl, rfl, trivial⟩, p5, s5, H5⟩
  rintro W1 h5 ⟨p5, s5, H5⟩
  have lW1 := p5.length_eq
  rw [List.length_append] at lW1
  have same : (U2 = [] ∨ V2 = []) → (U2 ++ V2).Pairwise (Lx lt bf) := by
    rintro (e | e) <;> subst e
    · exact hV'.2.1
    · rw [List.append_nil]; exact hU'.2.1
  have four : ∀ W2 : List EE, W2.Perm (U2 ++ V2) → W2.Pairwise (Lx lt bf) → (W1 ++ W2).Perm (U ++ V) ∧ (W1 ++ W2).Pairwise (Lx lt bf) := by
    intro W2 p6 s6
    refine ⟨?_, pw_four S hU hV hbf h12 h21 p5 p6 s5 s6⟩
    refine (List.Perm.append p5 p6).trans ?_
    rw [eU, eV]
    have : (V1 ++ (U2 ++ V2)).Perm (U2 ++ (V1 ++ V2)) := by
      rw [← List.append_assoc, ← List.append_assoc]
      exact List.Perm.append_right V2 List.perm_append_comm
    simpa only [List.append_assoc] using List.Perm.append_left U1 this
  have H5' : LstE g h5 A c (P ++ ((W1 ++ (U2 ++ V2)) ++ Q)) := by simpa only [List.append_assoc] using H5
  refine xif_of (fun q => ?_) (fun q => ?_)
  rotate_left
  · have q : ¬ (mid : Int) < ((mid + m - s : Nat) : Int) := of_decide_eq_false q
    obtain ⟨r1, r2⟩ := four _ (List.Perm.refl _) (same (.inl (List.length_eq_zero_iff.1 (by omega))))
    exact ⟨_, H5', r1, r2⟩
  have q : (mid : Int) < ((mid + m - s : Nat) : Int) := of_decide_eq_true q
  refine xif_of (fun q2 => ?_) (fun q2 => ?_)
  rotate_left
  · have q2 : ¬ ((mid + m - s : Nat) : Int) < b := of_decide_eq_false q2
    obtain ⟨r1, r2⟩ := four _ (List.Perm.refl _) (same (.inr (List.length_eq_zero_iff.1 (by omega))))
    exact ⟨_, H5', r1, r2⟩
  have q2 : ((mid + m - s : Nat) : Int) < b := of_decide_eq_true q2
  have H5'' : LstE g h5 A c ((P ++ W1) ++ (U2 ++ (V2 ++ Q))) := by simpa only [List.append_assoc] using H5
  refine (ih (a := mid) (m := mid + m - s) (b := b) (k := k) (by omega) H5'' (by rw [List.length_append]; omega) (by omega) (by omega) (by omega) (by omega) (by simp only [List.length_append]; omega) hbig hU'.2.1 hV'.2.1 (fun x hx y hy => hbf x (List.mem_append_right _ hx) y (List.mem_append_right _ hy)) (fun x hx => hDU x (List.mem_append_right _ hx)) (fun x hx => hDV x (List.mem_append_right _ hx))).mono ?_
  rintro w h6 ⟨W2, H6, p6, s6⟩
  obtain ⟨r1, r2⟩ := four W2 p6 s6
  exact ⟨W1 ++ W2, by simpa only [List.append_assoc] using H6, r1, r2⟩
/-- A part is sorted in its place. -/
theorem insE_part (S : Swo lt) (C : CmpOkE g lt D f lb) {L L0 : List EE} {a b k : Nat} (H : LstE g h A c L) (hk : L.length = k) (hbig : k ≤ 100000) (h1 : a ≤ b) (h2 : b ≤ k) (hs : seg a b L = seg a b L0) (asc : L0.Pairwise bf) (hD : ∀ x ∈ L0, D x) :
    HCalls Tryz.prog 131 #[.slice A k c, .int .i64 a, .int .i64 b, .func (.func f) #[] #[.pointer (some ⟨lb, 0, none⟩)]] h (fun v h' => ∃ L', LstE g h' A c L' ∧ L'.length = k ∧ Ok1 lt bf a b L' L0 ∧ (∀ lo hi, hi ≤ a ∨ b ≤ lo → seg lo hi L' = seg lo hi L) ∧ L'.drop b = L.drop b) := by
  have hc := cut3 (L := L) h1 (by omega)
  have hl := seg_len a b L (by omega)
  have hta : (L.take a).length = a := by rw [List.length_take]; omega
  have H' := H
  rw [hc] at H'
  refine (eIns_spec (bf := bf) S C (a := a) (b := b) (k := k) H' hta (by omega) (by rw [← hc]; exact hk) hbig (by rw [hs]; exact seg_pw asc a b) (by rw [hs]; exact fun x hx => hD x (seg_mem hx))).mono ?_
  rintro v h' ⟨W, HW, p, s⟩
  have hw := p.length_eq
  have e : seg a b (L.take a ++ (W ++ L.drop b)) = W := seg_app hta (by omega)
  refine ⟨_, HW, ?_, ⟨by rw [e, ← hs]; exact p, by rw [e]; exact s⟩, fun lo hi q => ?_, ?_⟩
  · simp only [List.length_append, List.length_drop]; omega
  · rw [seg_out (T := seg a b L) (by omega) (by omega), ← hc]
  · rw [← List.append_assoc, List.drop_append, List.drop_eq_nil_of_le (by rw [List.length_append]; omega), List.nil_append, List.length_append, show b - ((L.take a).length + W.length) = 0 by omega, List.drop_zero]
/-- Two parts are merged in their place. -/
theorem symE_part (S : Swo lt) (C : CmpOkE g lt D f lb) {L L0 : List EE} {a m b k : Nat} (H : LstE g h A c L) (hk : L.length = k) (hk0 : L0.length = k) (hbig : k ≤ 100000) (h1 : a < m) (h2 : m < b) (h3 : b ≤ k) (o1 : Ok1 lt bf a m L L0) (o2 : Ok1 lt bf m b L L0) (asc : L0.Pairwise bf) (hD : ∀ x ∈ L0, D x) :
    HCalls Tryz.prog 132 #[.slice A k c, .int .i64 a, .int .i64 m, .int .i64 b, .func (.func f) #[] #[.pointer (some ⟨lb, 0, none⟩)]] h (fun v h' => ∃ L', LstE g h' A c L' ∧ L'.length = k ∧ Ok1 lt bf a b L' L0 ∧ (∀ lo hi, hi ≤ a ∨ b ≤ lo → seg lo hi L' = seg lo hi L)) := by
  have hc := cut3 (L := L) (a := a) (b := b) (by omega) (by omega)
  have hsp := seg_split (L := L) (a := a) (m := m) (b := b) (by omega) (by omega)
  have hsp0 := seg_split (L := L0) (a := a) (m := m) (b := b) (by omega) (by omega)
  have hl1 := seg_len a m L (by omega)
  have hl2 := seg_len m b L (by omega)
  have hl := seg_len a b L (by omega)
  have hta : (L.take a).length = a := by rw [List.length_take]; omega
  have H' := H
  rw [hc, hsp, List.append_assoc] at H'
  refine (eSym_spec (bf := bf) S C (b - a) (a := a) (m := m) (b := b) (k := k) (Nat.le_refl _) H' hta (by omega) (by omega) h1 h2 (by rw [← List.append_assoc (seg a m L), ← hsp, ← hc]; exact hk) hbig o1.sorted o2.sorted (fun x hx y hy => seg_cross asc (by omega) (by omega) x (o1.perm.mem_iff.1 hx) y (o2.perm.mem_iff.1 hy)) (fun x hx => hD x (seg_mem (o1.perm.mem_iff.1 hx))) (fun x hx => hD x (seg_mem (o2.perm.mem_iff.1 hx)))).mono ?_
  rintro v h' ⟨W, HW, p, s⟩
  have hw := p.length_eq
  rw [List.length_append] at hw
  have e : seg a b (L.take a ++ (W ++ L.drop b)) = W := seg_app hta (by omega)
  refine ⟨_, HW, ?_, ⟨by rw [e, hsp0]; exact p.trans (List.Perm.append o1.perm o2.perm), by rw [e]; exact s⟩, fun lo hi q => ?_⟩
  · simp only [List.length_append, List.length_drop]; omega
  · rw [seg_out (T := seg a b L) (by omega) (by omega), ← hc]
theorem Ok1.sameE {lo hi : Nat} {L L' L0 : List EE} (o : Ok1 lt bf lo hi L L0) (e : seg lo hi L' = seg lo hi L) : Ok1 lt bf lo hi L' L0 := ⟨by rw [e]; exact o.perm, by rw [e]; exact o.sorted⟩
theorem eStable_spec (S : Swo lt) (C : CmpOkE g lt D f lb) {L0 : List EE} {n : Nat} (H : LstE g h A c L0) (hn : L0.length = n) (hbig : n ≤ 10000) (asc : L0.Pairwise bf) (hD : ∀ x ∈ L0, D x) :
    HCalls Tryz.prog 97 #[.slice A n c, .int .i64 n, .func (.func f) #[] #[.pointer (some ⟨lb, 0, none⟩)]] h (fun v h' => ∃ L', LstE g h' A c L' ∧ L'.Perm L0 ∧ L'.Pairwise (Lx lt bf)) := by
  refine xcalls env0 Tryz.func97 rfl (by kernel_rfl) rfl (by kernel_rfl) ?_
  refine ⟨Nat × List EE, fun z => [(0, .slice A n c), (1, .int .i64 n), (2, .func (.func f) #[] #[.pointer (some ⟨lb, 0, none⟩)]), (6, .int .i64 20), (7, .int .i64 ((20 * z.1 : Nat) : Int)), (8, .int .i64 ((20 * z.1 + 20 : Nat) : Int))],
    fun z h' => (20 * z.1 ≤ n ∧ z.2.length = n) ∧ z.2.drop (20 * z.1) = L0.drop (20 * z.1) ∧ (∀ t, t < z.1 → Ok1 lt bf (t * 20) ((t + 1) * 20) z.2 L0) ∧ LstE g h' A c z.2, fun z => n - z.1, (0, L0), ⟨rfl, rfl, rfl, rfl, rfl, rfl, trivial⟩, ⟨⟨Nat.zero_le _, hn⟩, rfl, (fun t ht => by have ht : t < 0 := ht; omega), H⟩, ?_⟩
  rintro ⟨t, L⟩ h2 ⟨⟨i1, i2⟩, hd, ho, H2⟩
  simp only at i1 i2 hd ho H2
  have same : ∀ b, seg (20 * t) b L = seg (20 * t) b L0 := fun b => by rw [seg_eq, seg_eq, hd]
  refine xif_of (fun hle => ?_) (fun hgt => ?_)
  · have hle : ((20 * t + 20 : Nat) : Int) ≤ n := of_decide_eq_true hle
    refine (insE_part (bf := bf) S C (a := 20 * t) (b := 20 * t + 20) H2 i2 (by omega) (by omega) (by omega) (same _) asc hD).mono ?_
    rintro v h3 ⟨L', H3, l3, o3, s3, d3⟩
    have en : IntKind.i64.wrap (((20 * t + 20 : Nat) : Int) + 20) = ((20 * (t + 1) + 20 : Nat) : Int) := by rw [wrap_i64 (by omega) (by omega)]; omega
    refine ⟨(t + 1, L'), ⟨rfl, rfl, rfl, rfl, rfl, congrArg (fun x => some (Value.int .i64 x)) en, trivial⟩, ⟨⟨by show 20 * (t + 1) ≤ n; omega, l3⟩, ?_, fun t' ht' => ?_, H3⟩, by show n - (t + 1) < n - t; omega⟩
    · show L'.drop (20 * t + 20) = L0.drop (20 * t + 20)
      rw [d3, ← List.drop_drop, hd, List.drop_drop]
    · by_cases e : t' = t
      · subst e
        rw [show t' * 20 = 20 * t' by omega, show (t' + 1) * 20 = 20 * t' + 20 by omega]
        exact o3
      · have ht' : t' < t + 1 := ht'
        exact (ho t' (by omega)).sameE (s3 _ _ (.inl (by omega)))
  have hgt : ¬ ((20 * t + 20 : Nat) : Int) ≤ n := of_decide_eq_false hgt
  refine (insE_part (bf := bf) S C (a := 20 * t) (b := n) H2 i2 (by omega) (by omega) (Nat.le_refl _) (same _) asc hD).mono ?_
  rintro v h3 ⟨L3, H3, l3, o3, s3, _⟩
  refine ⟨Nat × List EE, fun z => [(0, .slice A n c), (1, .int .i64 n), (2, .func (.func f) #[] #[.pointer (some ⟨lb, 0, none⟩)]), (6, .int .i64 z.1)],
    fun z h' => (1 ≤ z.1 ∧ z.1 ≤ 20 + 2 * n ∧ z.2.length = n) ∧ (∀ t, Ok1 lt bf (t * z.1) ((t + 1) * z.1) z.2 L0) ∧ LstE g h' A c z.2, fun z => 20 + 2 * n - z.1, (20, L3), ⟨rfl, rfl, rfl, rfl, trivial⟩, ⟨⟨by show 1 ≤ 20; omega, by show 20 ≤ 20 + 2 * n; omega, l3⟩, (fun t' => ?_), H3⟩, ?_⟩
  · show Ok1 lt bf (t' * 20) ((t' + 1) * 20) L3 L0
    rcases Nat.lt_trichotomy t' t with q | q | q
    · exact (ho t' q).sameE (s3 _ _ (.inl (by omega)))
    · subst q
      rw [show t' * 20 = 20 * t' by omega]
      exact ok_more o3 (by omega) (by omega) (by omega)
    · exact ok_none (by omega) (by omega)
  rintro ⟨k, L4⟩ h4 ⟨⟨k1, k2, l4⟩, o4, H4⟩
  simp only at k1 k2 l4 o4 H4
  refine xif_of (fun hlt => ?_) (fun hge => ?_)
  rotate_left
  · have hge : ¬ (k : Int) < n := of_decide_eq_false hge
    have := o4 0
    rw [Nat.zero_mul] at this
    have e : ∀ L : List EE, L.length = n → seg 0 ((0 + 1) * k) L = L := fun L hL => by unfold seg; rw [List.drop_zero, List.take_of_length_le (by omega)]
    obtain ⟨p, s⟩ := this
    rw [e _ l4, e _ hn] at p
    rw [e _ l4] at s
    exact ⟨L4, H4, p, s⟩
  have hlt : (k : Int) < n := of_decide_eq_true hlt
  have e2k : IntKind.i64.wrap (2 * (k : Int)) = ((2 * k : Nat) : Int) := by rw [wrap_i64 (by omega) (by omega)]; omega
  refine ⟨Nat × List EE, fun z => [(0, .slice A n c), (1, .int .i64 n), (2, .func (.func f) #[] #[.pointer (some ⟨lb, 0, none⟩)]), (6, .int .i64 k), (7, .int .i64 ((z.1 * (2 * k) : Nat) : Int)), (8, .int .i64 ((z.1 * (2 * k) + 2 * k : Nat) : Int))],
    fun z h' => (z.1 * (2 * k) ≤ n ∧ z.2.length = n) ∧ (∀ t, t < z.1 → Ok1 lt bf (t * (2 * k)) ((t + 1) * (2 * k)) z.2 L0) ∧ (∀ t, 2 * z.1 ≤ t → Ok1 lt bf (t * k) ((t + 1) * k) z.2 L0) ∧ LstE g h' A c z.2, fun z => n - z.1, (0, L4),
    ⟨rfl, rfl, rfl, rfl, congrArg (fun x : Nat => some (Value.int .i64 (x : Int))) (Nat.zero_mul _).symm, congrArg (fun x => some (Value.int .i64 x)) (by rw [e2k]; simp), trivial⟩, ⟨⟨by show 0 * (2 * k) ≤ n; omega, l4⟩, (fun t ht => by have ht : t < 0 := ht; omega), (fun t _ => o4 t), H4⟩, ?_⟩
  rintro ⟨t, L5⟩ h5 ⟨⟨a1, l5⟩, oA, oB, H5⟩
  simp only at a1 l5 oA oB H5
  have q1 := oB (2 * t) (Nat.le_refl _)
  have q2 := oB (2 * t + 1) (by omega)
  have m1 : 2 * t * k = t * (2 * k) := by rw [Nat.mul_comm 2 t, Nat.mul_assoc]
  have m2 : (2 * t + 1) * k = t * (2 * k) + k := by rw [Nat.succ_mul, m1]
  have m3 : (2 * t + 1 + 1) * k = t * (2 * k) + 2 * k := by rw [Nat.succ_mul, m2]; omega
  have m4 : (t + 1) * (2 * k) = t * (2 * k) + 2 * k := Nat.succ_mul ..
  rw [m1, m2] at q1
  rw [m2, m3] at q2
  obtain ⟨x, hx⟩ : ∃ x, t * (2 * k) = x := ⟨_, rfl⟩
  rw [hx] at q1 q2 m1 m2 m3 m4 a1
  have exk : IntKind.i64.wrap ((x : Int) + (k : Int)) = ((x + k : Nat) : Int) := by rw [wrap_i64 (by omega) (by omega)]; omega
  have small : ∀ t', t' < t → (t' + 1) * (2 * k) ≤ x := fun t' ht' => by rw [← hx]; exact Nat.mul_le_mul_right _ ht'
  have big : ∀ t', 2 * (t + 1) ≤ t' → x + 2 * k ≤ t' * k := fun t' ht' => by
    have := Nat.mul_le_mul_right k ht'
    have e : 2 * (t + 1) * k = x + 2 * k := by rw [← m4, Nat.mul_comm 2 (t + 1), Nat.mul_assoc]
    omega
  refine xif_of (fun hle => ?_) (fun hgt2 => ?_)
  · have hle : ((t * (2 * k) + 2 * k : Nat) : Int) ≤ n := of_decide_eq_true hle
    rw [hx] at hle
    have := symE_part (bf := bf) S C (a := x) (m := x + k) (b := x + 2 * k) H5 l5 hn (by omega) (by omega) (by omega) (by omega) q1 q2 asc hD
    rw [← exk, ← hx] at this
    refine this.mono ?_
    rintro v h6 ⟨L6, H6, l6, o6, s6⟩
    rw [hx] at o6 s6
    have en : IntKind.i64.wrap (((t * (2 * k) + 2 * k : Nat) : Int) + IntKind.i64.wrap ((k : Int) * 2)) = (((t + 1) * (2 * k) + 2 * k : Nat) : Int) := by
      rw [hx, m4, wrap_i64 (x := (k : Int) * 2) (by omega) (by omega), wrap_i64 (by omega) (by omega)]; omega
    have en0 : IntKind.i64.wrap (((t * (2 * k) + 2 * k : Nat) : Int) + IntKind.i64.wrap (2 * (k : Int))) = (((t + 1) * (2 * k) + 2 * k : Nat) : Int) := by
      rw [hx, m4, e2k, wrap_i64 (by omega) (by omega)]; omega
    have en1 : ((t * (2 * k) + 2 * k : Nat) : Int) = (((t + 1) * (2 * k) : Nat) : Int) := by rw [m4, hx]
    refine ⟨(t + 1, L6), ⟨rfl, rfl, rfl, rfl, congrArg (fun x => some (Value.int .i64 x)) en1, congrArg (fun x => some (Value.int .i64 x)) en0, trivial⟩, ⟨⟨by show (t + 1) * (2 * k) ≤ n; omega, l6⟩, (fun t' ht' => ?_), (fun t' ht' => ?_), H6⟩, ?_⟩
    · have ht' : t' < t + 1 := ht'
      by_cases e : t' = t
      · subst e
        rw [hx, m4]; exact o6
      · exact (oA t' (by omega)).sameE (s6 _ _ (.inl (small t' (by omega))))
    · have ht' : 2 * (t + 1) ≤ t' := ht'
      exact (oB t' (by omega)).sameE (s6 _ _ (.inr (big t' ht')))
    · show n - (t + 1) < n - t
      have : t ≤ x := by rw [← hx]; exact Nat.le_mul_of_pos_right _ (by omega)
      omega
  have hgt2 : ¬ ((t * (2 * k) + 2 * k : Nat) : Int) ≤ n := of_decide_eq_false hgt2
  rw [hx] at hgt2
  have ek2 : IntKind.i64.wrap ((k : Int) * 2) = ((2 * k : Nat) : Int) := by rw [wrap_i64 (by omega) (by omega)]; omega
  have fin : ∀ L6 : List EE, L6.length = n → Ok1 lt bf x (x + 2 * k) L6 L0 → (∀ lo hi, hi ≤ x → seg lo hi L6 = seg lo hi L5) → ∀ t', Ok1 lt bf (t' * (2 * k)) ((t' + 1) * (2 * k)) L6 L0 := by
    intro L6 l6 o6 s6 t'
    rcases Nat.lt_trichotomy t' t with q | q | q
    · exact (oA t' q).sameE (s6 _ _ (small t' q))
    · subst q
      rw [hx, m4]; exact o6
    · have : (t + 1) * (2 * k) ≤ t' * (2 * k) := Nat.mul_le_mul_right _ q
      exact ok_none (by omega) (by omega)
  refine xif_of (fun hm => ?_) (fun hm => ?_)
  · have hm : IntKind.i64.wrap (((t * (2 * k) : Nat) : Int) + (k : Int)) < n := of_decide_eq_true hm
    rw [hx, exk] at hm
    have q2' : Ok1 lt bf (x + k) n L5 L0 := ok_more q2 (by omega) (by omega) (by omega)
    have := symE_part (bf := bf) S C (a := x) (m := x + k) (b := n) H5 l5 hn (by omega) (by omega) (by omega) (Nat.le_refl _) q1 q2' asc hD
    rw [← exk, ← hx] at this
    refine this.mono ?_
    rintro v h6 ⟨L6, H6, l6, o6, s6⟩
    rw [hx] at o6 s6
    exact ⟨(2 * k, L6), ⟨rfl, rfl, rfl, congrArg (fun x => some (Value.int .i64 x)) ek2, trivial⟩, ⟨⟨by show 1 ≤ 2 * k; omega, by show 2 * k ≤ 20 + 2 * n; omega, l6⟩, fin L6 l6 (ok_more o6 (by omega) (by omega) (by omega)) (fun lo hi q => s6 lo hi (.inl q)), H6⟩, by show 20 + 2 * n - 2 * k < 20 + 2 * n - k; omega⟩
  · have hm : ¬ IntKind.i64.wrap (((t * (2 * k) : Nat) : Int) + (k : Int)) < n := of_decide_eq_false hm
    rw [hx, exk] at hm
    exact ⟨(2 * k, L5), ⟨rfl, rfl, rfl, congrArg (fun x => some (Value.int .i64 x)) ek2, trivial⟩, ⟨⟨by show 1 ≤ 2 * k; omega, by show 2 * k ≤ 20 + 2 * n; omega, l5⟩, fin L5 l5 (ok_more q1 (by omega) (by omega) (by omega)) (fun lo hi q => rfl), H5⟩, by show 20 + 2 * n - 2 * k < 20 + 2 * n - k; omega⟩
theorem eSort_spec (S : Swo lt) (C : CmpOkE g lt D f lb) {L0 : List EE} {n : Nat} (H : LstE g h A c L0) (hn : L0.length = n) (hbig : n ≤ 10000) (asc : L0.Pairwise bf) (hD : ∀ x ∈ L0, D x) :
    HCalls Tryz.prog 74 #[.slice A n c, .func (.func f) #[] #[.pointer (some ⟨lb, 0, none⟩)]] h (fun v h' => ∃ L', LstE g h' A c L' ∧ L'.Perm L0 ∧ L'.Pairwise (Lx lt bf)) := by
  refine xcalls env0 Tryz.func74 rfl (by kernel_rfl) rfl (by kernel_rfl) ?_
  refine (eStable_spec S C H hn hbig asc hD).mono ?_
  rintro v h2 ⟨L', H2, p, s⟩
  exact ⟨L', H2, p, s⟩
end
end Go.Proofs.YtcjoenkpibhmoaaGreatE
