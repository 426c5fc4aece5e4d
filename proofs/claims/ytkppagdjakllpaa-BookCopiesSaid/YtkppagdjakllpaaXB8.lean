/- What the laws BookNews and BookCopies answer: yes. Conditions: the arguments are of their types. -/
import Derived.Test.YtkppagdjakllpaaXB3
import Derived.Test.YtkppagdjakllpaaXB7
set_option linter.unusedVariables false
set_option linter.unusedSimpArgs false
set_option maxRecDepth 100000
namespace Go.Proofs.YtkppagdjakllpaaE
open Go Go.Proofs
def env_lNews : Nat → Ann
  | 3 => ⟨.op 0 [] <| .op 1 [] <| .op 2 [] <| .op 3 [] <| .op 6 [] <| .op 4 [6] <| .op 5 [6] <| .op 7 [] <| .op 8 [] <| .op 9 [] <| .op 10 [] <| .op 11 [] <| .op 12 [] <| .op 13 [] <| .op 14 [] <| .op 15 [] <| .op 16 [] <| .op 17 [] <| .op 18 [] <| .op 19 [] <| .op 20 [] <| .op 21 [] <| .op 22 [] <| .op 23 [] <| .op 24 [] <| .op 25 [] <| .op 26 [] <| .op 27 [] <| .op 28 [] <| .op 29 [] <| .op 30 [] <| .op 31 [] <| .nil, [0, 1, 3, 7, 15, 31, 7, 127, 255, 511, 1023, 2047, 4095, 2047, 10239, 32767, 65535, 131071, 262143, 524287, 262143, 1310719, 4194303, 8388607, 16777215, 33554431, 67108863, 134217727, 268435455, 536870911, 1073741823, 2147483647], false⟩
  | _ => ⟨.nil, [], false⟩
def env_lCopies : Nat → Ann
  | 11 => ⟨.nil, [], true⟩
  | 17 => ⟨.op 0 [] <| .op 1 [] <| .op 2 [] <| .op 3 [] <| .op 4 [] <| .op 6 [] <| .op 7 [] <| .op 8 [] <| .op 9 [] <| .op 10 [] <| .op 5 [10] <| .op 11 [] <| .op 12 [] <| .nil, [0, 0, 0, 6, 14, 31, 0, 0, 0, 384, 896, 2047, 4095], false⟩
  | 19 => ⟨.nil, [], true⟩
  | _ => ⟨.nil, [], false⟩
section
variable {h : Heap}
theorem listB_small {s : Sz} (o : s.Ok) {L : List (List Place)} (B : Bok s L) : (listB L).length ≤ 1000000 := by
  have hm := o.many
  have hL := B.len
  rw [listB, List.length_flatMap]
  have : ∀ (M : List (List Place)), (∀ l ∈ M, l.length ≤ 8 ) → (M.map (fun l => (l.filter fun p => p.used).length)).sum ≤ 8 * M.length := by
    intro M
    induction M with
    | nil => intro _; simp
    | cons l M ih =>
      intro hM
      have h1 := ih fun l hl => hM l (by simp [hl])
      have h2 := hM l (by simp)
      have h3 := List.length_filter_le (fun p : Place => p.used) l
      simp only [List.map_cons, List.sum_cons, List.length_cons]
      omega
  have := this L fun l hl => sl_small o (B.each l hl)
  omega
theorem want_at (k : Int) (h0 : 0 ≤ k) (h1 : k < 7) : nth [Value.int .i64 (-1), .int .i64 5, .int .i64 5, .int .i64 5, .int .i64 0, .int .i64 0, .int .i64 0] k.toNat = some (.int .i64 (nilWant k)) := by
  have : k = 0 ∨ k = 1 ∨ k = 2 ∨ k = 3 ∨ k = 4 ∨ k = 5 ∨ k = 6 := by omega
  rcases this with rfl | rfl | rfl | rfl | rfl | rfl | rfl <;> rfl
theorem kNew_any (s : Sz) : HCalls Try.prog 36 #[.agg #[.int .i64 s.sh, .int .i64 s.bk, .int .i64 s.sl]] h (fun v h' => ∃ (p : Option Addr) (e : Int), v = .tuple #[.pointer p, .int .i64 e] ∧ p.isSome = rightM s ∧ e = (if rightM s = true then 0 else 1) ∧ Ext h h') := by
  cases hr : rightM s with
  | false =>
    refine (kNew_bad hr).mono ?_
    rintro v h4 ⟨rfl, x4⟩
    exact ⟨none, 1, rfl, rfl, rfl, x4⟩
  | true =>
    refine (kNew_spec (rightM_ok.1 hr)).mono ?_
    rintro v h4 ⟨b, tb, rfl, _, x4⟩
    exact ⟨_, 0, rfl, rfl, rfl, x4⟩
theorem eqSize (a b c d e f : Int) : eqv Try.prog 60 88 (.agg #[.int .i64 a, .int .i64 b, .int .i64 c]) (.agg #[.int .i64 d, .int .i64 e, .int .i64 f]) = some (a == d && (b == e && (c == f && true))) := by kernel_rfl
theorem eqSizeG (a b c : Int) : guardBad Try.prog 88 (.agg #[.int .i64 a, .int .i64 b, .int .i64 c]) = false := by kernel_rfl
theorem lNews_spec {s : Sz} {x : OpR} (w : x.Wf) : HCalls Try.prog 13 #[.agg #[.int .i64 s.sh, .int .i64 s.bk, .int .i64 s.sl], .agg (encO7 x).toArray] h (fun v h' => v = .bool true ∧ Ext h h') := by
  have kk := kind_eq x.kind
  have kr : 0 ≤ x.k ∧ x.k < 7 := by unfold OpR.k; omega
  refine xcalls env_lNews Try.func13 rfl (by kernel_rfl) rfl (by kernel_rfl) ?_
  intro zb h1 n1 ob h2 n2
  have hz2 := n2.ext.blk n1.this
  have hob2 : h2[ob]? = some (.cells (encO7 x).toArray 82 (0, 0)) := n2.this
  have x02 := n1.ext.trans n2.ext
  refine ⟨_, rfl, reads_all hz2, ?_⟩
  refine (lSize_spec s _).mono ?_
  rintro v h3 ⟨rfl, x3⟩
  refine (kNew_any s).mono ?_
  rintro v h4 ⟨p, e, rfl, hp, he, x4⟩
  have hp' : p.isNone = !rightM s := by rw [← hp]; cases p <;> rfl
  refine (told11_spec _).mono ?_
  rintro v h5 ⟨rfl, x5⟩
  have x25 := x3.trans (x4.trans x5)
  have hz5 := x25.blk hz2
  refine ⟨_, rfl, reads_all hz5, _, rfl, reads_all hz5, ?_⟩
  refine (lSize_spec s _).mono ?_
  rintro v h6 ⟨rfl, x6⟩
  refine ⟨⟨reads_all (x6.blk hz5), trivial⟩, ?_⟩
  refine (kRight_spec s _).mono ?_
  rintro v h7 ⟨rfl, x7⟩
  refine ⟨⟨reads_all (x7.blk (x6.blk hz5)), trivial⟩, ?_⟩
  refine (rbRight_spec s).mono ?_
  rintro v h8 ⟨rfl, x8⟩
  have x58 := x6.trans (x7.trans x8)
  refine xif_of (fun q => absurd q (by simp)) (fun _ => ?_)
  refine ⟨_, rfl, reads_all (x58.blk hz5), ?_⟩
  refine (rbRight_spec s).mono ?_
  rintro v h9 ⟨rfl, x9⟩
  refine xif_of (fun q => absurd q (by simp [hp'])) (fun _ => ?_)
  refine ⟨_, rfl, reads_all ((x58.trans x9).blk hz5), ?_⟩
  refine (rbRight_spec s).mono ?_
  rintro v h10 ⟨rfl, x10⟩
  have x210 := x25.trans ((x58.trans x9).trans x10)
  have hob10 := x210.blk hob2
  refine xif_of (fun q => absurd q (by rw [he]; cases rightM s <;> simp)) (fun _ => ?_)
  refine xif_of (fun q1 => ?_) (fun q1 => ?_)
  refine xif_of (fun q => absurd q (by rw [he] at q1 ⊢; cases hr : rightM s <;> simp_all)) (fun _ => ?_)
  all_goals
    intro ab h11 n11
    have hob11 := n11.ext.blk hob10
    have hab : h11[ab]? = some (.cells [Value.int .i64 (-1), .int .i64 5, .int .i64 5, .int .i64 5, .int .i64 0, .int .i64 0, .int .i64 0].toArray 3 (0, 0)) := n11.this
    have kx : IntKind.i64.wrap ((IntKind.u64.wrap x.kind).tmod 7) = x.k := kk
    have hc : cell h11 ((⟨ab, 0, none⟩ : Addr).add ((IntKind.i64.wrap ((IntKind.u64.wrap x.kind).tmod 7)).toNat * 1)) = some (.int .i64 (nilWant x.k)) := by
      rw [kx, add_lit]
      exact cell_blk hab (by rw [Nat.zero_add, Nat.mul_one]; exact want_at x.k kr.1 kr.2)
    have hi0 : 0 ≤ IntKind.i64.wrap ((IntKind.u64.wrap x.kind).tmod 7) := by rw [kx]; exact kr.1
    have hi1 : IntKind.i64.wrap ((IntKind.u64.wrap x.kind).tmod 7) < 7 := by rw [kx]; exact kr.2
    refine ⟨_, cell_blk hob11 rfl, by decide, _, rfl, hi0, hi1, _, hc, ?_⟩
    refine ⟨encO7 x, rfl, reads_all hob11, ?_⟩
    refine (lDo_nil x).mono ?_
    rintro v h12 ⟨rfl, x12⟩
    refine xif_of (fun _ => ?_) (fun q => absurd q (by simp))
    refine kCopy_nil.mono ?_
    rintro v h13 ⟨rfl, rfl⟩
    refine kList_nil.mono ?_
    rintro v h14 ⟨rfl, rfl⟩
    refine (kBucket_nil 0 0).mono ?_
    rintro v h15 ⟨rfl, rfl⟩
    refine kSize_nil.mono ?_
    rintro v h16 ⟨rfl, x16⟩
    refine xeq_of (eqSizeG _ _ _) (eqSize _ _ _ _ _ _) ?_
    exact ⟨rfl, (x02.trans x210).trans (n11.ext.trans (x12.trans x16))⟩
theorem lCopies_spec {A A' : Option Addr} {ops more : List OpR} {c c' : Nat} {s0 : Sz} (hr : Row encO7 7 h A ops) (wf : ∀ x ∈ ops, x.Wf) (hr' : Row encO7 7 h A' more) (wf' : ∀ x ∈ more, x.Wf) {n n' : Nat} (hl : ops.length = n) (hl' : more.length = n') (hn : n ≤ 140737488355328) (hn' : n' ≤ 140737488355328) :
    HCalls Try.prog 10 #[.agg #[.int .i64 s0.sh, .int .i64 s0.bk, .int .i64 s0.sl], .slice A n c, .slice A' n' c'] h (fun v h' => v = .bool true ∧ Ext h h') := by
  subst hl hl'
  refine xcalls env_lCopies Try.func10 rfl (by kernel_rfl) rfl (by kernel_rfl) ?_
  intro zb h1 n1
  refine ⟨_, rfl, reads_all n1.this, ?_⟩
  refine (rbFix_spec s0).mono ?_
  rintro v h3 ⟨rfl, x3⟩
  obtain ⟨s, hs⟩ : ∃ s, fixSz s0 = s := ⟨_, rfl⟩
  have o : s.Ok := by rw [← hs]; exact fixSz_ok s0
  rw [hs]
  have hz3 := x3.blk n1.this
  refine ⟨rfl, rfl, canset_blk hz3 rfl, fun h4 s4 => ?_⟩
  have hz : h4[zb]? = some (.cells [.int .i64 s.sh, .int .i64 s.bk, .int .i64 s.sl].toArray 79 (0, 0)) := s4.put hz3
  have x04 := (n1.ext.trans x3).stored s4 (n1.ge (Ext.refl _))
  refine ⟨_, rfl, reads_all hz, ?_⟩
  refine (lSize_spec s _).mono ?_
  rintro v h5 ⟨rfl, x5⟩
  refine (kNew_spec o).mono ?_
  rintro v h6 ⟨b, tb, rfl, H6, x6⟩
  have tge := H6.table.1
  refine ⟨_, rfl, reads_all ((x5.trans x6).blk hz), ?_⟩
  refine (rbNew_spec o).mono ?_
  rintro v h7 ⟨wb, tw, rfl, W7', x7⟩
  have W7 := W7'.mono x6.size
  have wge := W7.table.1
  refine (told11_spec _).mono ?_
  rintro v h8 ⟨rfl, x8⟩
  have x05 := x04.trans x5
  refine ⟨List (List Place), fun L => [(2, .slice A' more.length c'), (7, .pointer (some ⟨b, 0, none⟩)), (9, .pointer (some ⟨wb, 0, none⟩))], fun L h' => Good s L ∧ BkP h5.size h' b tb s L ∧ BkR h5.size h' wb tw s L ∧ Ext h5 h', ?_, ?_⟩
  · refine ⟨Nat × List (List Place), fun z => [(1, .slice A ops.length c), (2, .slice A' more.length c'), (7, .pointer (some ⟨b, 0, none⟩)), (9, .pointer (some ⟨wb, 0, none⟩)), (10, .int .i64 z.1)],
      fun z h' => z.1 ≤ ops.length ∧ Good s z.2 ∧ BkP h5.size h' b tb s z.2 ∧ BkR h5.size h' wb tw s z.2 ∧ Ext h5 h', fun z => ops.length - z.1, (0, _), ⟨rfl, rfl, rfl, rfl, rfl, trivial⟩, ⟨Nat.zero_le _, good_new o, H6.ext (x7.trans x8), W7.ext x8, x6.trans (x7.trans x8)⟩, ?_⟩
    rintro ⟨i, L⟩ h9 ⟨hi, G, H9, W9, x9⟩
    simp only at hi G H9 W9
    refine xif_of (fun hlt => ?_) (fun hge => ?_)
    · have hlt : (i : Int) < ops.length := of_decide_eq_true hlt
      refine xif_of (fun _ => ?_) (fun _ => ?_)
      · obtain ⟨y, hy⟩ : ∃ y, ops[i]? = some y := ⟨ops[i]'(by omega), List.getElem?_eq_getElem (by omega)⟩
        have wy := wf y (List.mem_of_getElem? hy)
        obtain ⟨a, rfl, hrd⟩ := ((x05.trans x9).row hr) i y hy
        refine ⟨a, rfl, (by show (0 : Int) ≤ i; omega), hlt, encO7 y, rfl, hrd, ?_⟩
        refine (lDo_spec o G.bok H9 wy).mono ?_
        rintro v h10 ⟨rfl, H10, k10⟩
        obtain ⟨_, cx, htb⟩ := H9.table
        have W10 := W9.keep k10 htb (by decide) (by decide) (by decide)
        have x10 := KeepA.ext2 (A := none) k10 x9 tge
        obtain ⟨a', ha', hrd'⟩ := ((x05.trans x10).row hr) i y hy
        cases ha'
        refine ⟨a, rfl, (by show (0 : Int) ≤ i; omega), hlt, encO7 y, rfl, hrd', ?_⟩
        refine (lWant_spec o G.bok W10 wy).mono ?_
        rintro v h11 ⟨rfl, W11, k11⟩
        obtain ⟨_, cy, htw⟩ := W10.table
        have H11 := H10.keep k11 htw (by decide) (by decide) (by decide)
        exact ⟨(i + 1, _), ⟨rfl, rfl, rfl, rfl, slot_inc (by omega), trivial⟩, ⟨by show i + 1 ≤ ops.length; omega, good_do o G wy, H11, W11, KeepA.ext2 (A := none) k11 x10 wge⟩, by show ops.length - (i + 1) < ops.length - i; omega⟩
      · exact ⟨L, ⟨rfl, rfl, rfl, trivial⟩, G, H9, W9, x9⟩
    · exact ⟨L, ⟨rfl, rfl, rfl, trivial⟩, G, H9, W9, x9⟩
  · rintro L h8 ⟨G, H8, W8, x8⟩
    refine (kCopy_spec o G.bok H8).mono ?_
    rintro v h9 ⟨d, td, rfl, C9, x9⟩
    have dge := C9.table.1
    refine (rbCopy_spec o G.bok G.cls (W8.ext x9)).mono ?_
    rintro v h10 ⟨xb, tx, rfl, X10', x10⟩
    have X10 := X10'.mono x9.size
    have xge := X10.table.1
    refine ⟨List (List Place), fun L => [(7, .pointer (some ⟨b, 0, none⟩)), (9, .pointer (some ⟨wb, 0, none⟩)), (11, .pointer (some ⟨d, 0, none⟩)), (12, .pointer (some ⟨xb, 0, none⟩))], fun M h' => Good s M ∧ BkP h8.size h' d td s M ∧ BkR h8.size h' xb tx s M ∧ Ext h8 h', ?_, ?_⟩
    · refine ⟨Nat × List (List Place), fun z => [(2, .slice A' more.length c'), (7, .pointer (some ⟨b, 0, none⟩)), (9, .pointer (some ⟨wb, 0, none⟩)), (11, .pointer (some ⟨d, 0, none⟩)), (12, .pointer (some ⟨xb, 0, none⟩)), (13, .int .i64 z.1)],
        fun z h' => z.1 ≤ more.length ∧ Good s z.2 ∧ BkP h8.size h' d td s z.2 ∧ BkR h8.size h' xb tx s z.2 ∧ Ext h8 h', fun z => more.length - z.1, (0, L), ⟨rfl, rfl, rfl, rfl, rfl, rfl, trivial⟩, ⟨Nat.zero_le _, G, C9.ext x10, X10, x9.trans x10⟩, ?_⟩
      rintro ⟨i, M⟩ h11 ⟨hi, GM, H9, W9, x9⟩
      simp only at hi GM H9 W9
      refine xif_of (fun hlt => ?_) (fun hge => ?_)
      · have hlt : (i : Int) < more.length := of_decide_eq_true hlt
        refine xif_of (fun _ => ?_) (fun _ => ?_)
        · obtain ⟨y, hy⟩ : ∃ y, more[i]? = some y := ⟨more[i]'(by omega), List.getElem?_eq_getElem (by omega)⟩
          have wy := wf' y (List.mem_of_getElem? hy)
          obtain ⟨a, rfl, hrd⟩ := ((x05.trans (x8.trans x9)).row hr') i y hy
          have q0 : (0 : Int) ≤ i := by omega
          refine ⟨a, rfl, q0, hlt, encO7 y, rfl, hrd, a, rfl, q0, hlt, encO7 y, rfl, hrd, ?_⟩
          refine (lDo_spec o GM.bok H9 wy).mono ?_
          rintro v h10 ⟨rfl, H10, k10⟩
          obtain ⟨_, cx, htb⟩ := H9.table
          have W10 := W9.keep k10 htb (by decide) (by decide) (by decide)
          have x10 := KeepA.ext2 (A := none) k10 x9 dge
          obtain ⟨a', ha', hrd'⟩ := ((x05.trans (x8.trans x10)).row hr') i y hy
          cases ha'
          refine ⟨⟨hrd', trivial⟩, ?_⟩
          refine (lWant_spec o GM.bok W10 wy).mono ?_
          rintro v h11 ⟨rfl, W11, k11⟩
          obtain ⟨_, cy, htw⟩ := W10.table
          have H11 := H10.keep k11 htw (by decide) (by decide) (by decide)
          refine xif_of (fun q => absurd q (by simp)) (fun _ => ?_)
          exact ⟨(i + 1, _), ⟨rfl, rfl, rfl, rfl, rfl, slot_inc (by omega), trivial⟩, ⟨by show i + 1 ≤ more.length; omega, good_do o GM wy, H11, W11, KeepA.ext2 (A := none) k11 x10 xge⟩, by show more.length - (i + 1) < more.length - i; omega⟩
        · exact ⟨M, ⟨rfl, rfl, rfl, rfl, trivial⟩, GM, H9, W9, x9⟩
      · exact ⟨M, ⟨rfl, rfl, rfl, rfl, trivial⟩, GM, H9, W9, x9⟩
    · rintro M h11 ⟨GM, C11, X11, x11⟩
      have H11 := H8.ext x11
      have W11 := W8.ext x11
      refine (lList_spec o G.bok H11).mono ?_
      rintro v h12 ⟨A1, c1, rfl, own1, x12⟩
      refine (rbList_spec o G.bok (W11.ext x12)).mono ?_
      rintro v h13 ⟨A2, c2, rfl, own2, x13⟩
      refine (lEntries_spec (own1.ext x13) own2 (listB_small o G.bok)).mono ?_
      rintro v h14 ⟨rfl, rfl⟩
      have x1113 := x12.trans x13
      refine (lList_spec o GM.bok (C11.ext x1113)).mono ?_
      rintro v h15 ⟨A3, c3, rfl, own3, x15⟩
      refine (rbList_spec o GM.bok ((X11.ext x1113).ext x15)).mono ?_
      rintro v h16 ⟨A4, c4, rfl, own4, x16⟩
      refine (lEntries_spec (own3.ext x16) own4 (listB_small o GM.bok)).mono ?_
      rintro v h17 ⟨rfl, rfl⟩
      exact ⟨rfl, x05.trans (x8.trans (x11.trans (x1113.trans (x15.trans x16))))⟩
end
end Go.Proofs.YtkppagdjakllpaaE
