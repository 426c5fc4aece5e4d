/- What the law BookActs answers: yes. Conditions: the arguments are of their types. -/
import Derived.Test.YtkppagdjakllpaaXB8
set_option linter.unusedVariables false
set_option linter.unusedSimpArgs false
set_option maxRecDepth 100000
namespace Go.Proofs.YtkppagdjakllpaaE
open Go Go.Proofs
def env_lActs : Nat → Ann
  | 4 => ⟨.op 0 [] <| .op 1 [] <| .op 2 [] <| .op 3 [] <| .op 4 [] <| .op 5 [] <| .op 6 [] <| .op 7 [] <| .op 8 [] <| .op 9 [] <| .op 10 [] <| .op 11 [] <| .op 13 [] <| .op 12 [13] <| .op 14 [] <| .op 15 [] <| .op 16 [] <| .nil, [0, 1, 3, 7, 15, 31, 63, 127, 255, 511, 1023, 2047, 4095, 2047, 16383, 32767, 65535], false⟩
  | 9 => ⟨.op 0 [] <| .op 1 [] <| .op 2 [] <| .op 3 [] <| .op 4 [] <| .op 6 [] <| .op 7 [] <| .op 8 [] <| .op 9 [] <| .op 10 [] <| .op 5 [10] <| .op 11 [] <| .op 12 [] <| .nil, [0, 0, 0, 6, 14, 31, 0, 0, 0, 384, 896, 2047, 4095], false⟩
  | 11 => ⟨.nil, [], true⟩
  | 14 => ⟨.op 0 [] <| .op 1 [] <| .op 2 [] <| .op 3 [] <| .op 4 [] <| .op 5 [] <| .op 6 [] <| .op 7 [] <| .op 8 [] <| .op 11 [] <| .op 12 [] <| .op 13 [] <| .op 14 [] <| .op 15 [] <| .op 16 [] <| .op 17 [] <| .op 9 [14, 17] <| .op 10 [14, 17] <| .op 18 [] <| .op 19 [] <| .nil, [0, 0, 0, 4, 14, 0, 0, 64, 224, 511, 1023, 0, 2048, 6144, 14336, 0, 63488, 129024, 262143, 524287], false⟩
  | 16 => ⟨.nil, [], true⟩
  | _ => ⟨.nil, [], false⟩
section
variable {h : Heap}
theorem lActs_spec {A : Option Addr} {ops : List OpR} {c : Nat} {s0 : Sz} (hr : Row encO7 7 h A ops) (wf : ∀ x ∈ ops, x.Wf) {n : Nat} (hl : ops.length = n) (hn : n ≤ 140737488355328) :
    HCalls Try.prog 11 #[.agg #[.int .i64 s0.sh, .int .i64 s0.bk, .int .i64 s0.sl], .slice A n c] h (fun v h' => v = .bool true ∧ Ext h h') := by
  subst hl
  refine xcalls env_lActs Try.func11 rfl (by kernel_rfl) rfl (by kernel_rfl) ?_
  intro zb h1 n1
  refine ⟨_, rfl, reads_all n1.this, ?_⟩
  refine (rbFix_spec s0).mono ?_
  rintro v h3 ⟨rfl, x3⟩
  obtain ⟨s, hs⟩ : ∃ s, fixSz s0 = s := ⟨_, rfl⟩
  have o : s.Ok := by rw [← hs]; exact fixSz_ok s0
  rw [hs]
  have hz3 := x3.blk n1.this
  refine ⟨rfl, rfl, canset_blk hz3 rfl, fun h4 s4 => ?_⟩
  have hz : h4[zb]? = some (.cells [.int .i64 s.sh, .int .i64 s.bk, .int .i64 s.sl].toArray 79 (0, 0)) := s4.put hz3
  have x04 := (n1.ext.trans x3).stored s4 (n1.ge (Ext.refl _))
  refine ⟨_, rfl, reads_all hz, ?_⟩
  refine (lSize_spec s _).mono ?_
  rintro v h5 ⟨rfl, x5⟩
  have hz5 := x5.blk hz
  refine (kNew_spec o).mono ?_
  rintro v h6 ⟨b, tb, rfl, H6, x6⟩
  have tge := H6.table.1
  refine ⟨_, rfl, reads_all (x6.blk hz5), ?_⟩
  refine (rbNew_spec o).mono ?_
  rintro v h7 ⟨wb, tw, rfl, W7', x7⟩
  have W7 := W7'.mono x6.size
  have wge := W7.table.1
  refine (told11_spec _).mono ?_
  rintro v h8 ⟨rfl, x8⟩
  have x05 := x04.trans x5
  have x58 := x6.trans (x7.trans x8)
  have hz8 := x58.blk hz5
  refine ⟨_, rfl, reads_all hz8, ?_⟩
  refine (kSize_spec (H6.ext (x7.trans x8))).mono ?_
  rintro v h9 ⟨rfl, x9⟩
  refine ⟨⟨reads_all (x9.blk hz8), trivial⟩, ?_⟩
  refine (lSize_spec s _).mono ?_
  rintro v h10 ⟨rfl, x10⟩
  refine xeq_of (eqSizeG _ _ _) (eqSize _ _ _ _ _ _) ?_
  refine xif_of (fun q => absurd q (by simp)) (fun _ => ?_)
  have x510 := x58.trans (x9.trans x10)
  refine ⟨List (List Place), fun L => [(2, .pointer (some ⟨zb, 0, none⟩)), (5, .pointer (some ⟨b, 0, none⟩)), (7, .pointer (some ⟨wb, 0, none⟩))], fun L h' => Good s L ∧ BkP h5.size h' b tb s L ∧ BkR h5.size h' wb tw s L ∧ Ext h5 h', ?_, ?_⟩
  · refine ⟨Nat × List (List Place), fun z => [(1, .slice A ops.length c), (2, .pointer (some ⟨zb, 0, none⟩)), (5, .pointer (some ⟨b, 0, none⟩)), (7, .pointer (some ⟨wb, 0, none⟩)), (8, .int .i64 z.1)],
      fun z h' => z.1 ≤ ops.length ∧ Good s z.2 ∧ BkP h5.size h' b tb s z.2 ∧ BkR h5.size h' wb tw s z.2 ∧ Ext h5 h', fun z => ops.length - z.1, (0, _), ⟨rfl, rfl, rfl, rfl, rfl, trivial⟩, ⟨Nat.zero_le _, good_new o, H6.ext (x7.trans (x8.trans (x9.trans x10))), W7.ext (x8.trans (x9.trans x10)), x510⟩, ?_⟩
    rintro ⟨i, L⟩ h9 ⟨hi, G, H9, W9, x9⟩
    simp only at hi G H9 W9
    refine xif_of (fun hlt => ?_) (fun hge => ?_)
    · have hlt : (i : Int) < ops.length := of_decide_eq_true hlt
      refine xif_of (fun _ => ?_) (fun _ => ?_)
      · obtain ⟨y, hy⟩ : ∃ y, ops[i]? = some y := ⟨ops[i]'(by omega), List.getElem?_eq_getElem (by omega)⟩
        have wy := wf y (List.mem_of_getElem? hy)
        obtain ⟨a, rfl, hrd⟩ := ((x05.trans x9).row hr) i y hy
        have q0 : (0 : Int) ≤ i := by omega
        refine ⟨a, rfl, q0, hlt, encO7 y, rfl, hrd, a, rfl, q0, hlt, encO7 y, rfl, hrd, ?_⟩
        refine (lDo_spec o G.bok H9 wy).mono ?_
        rintro v h10 ⟨rfl, H10, k10⟩
        obtain ⟨_, cx, htb⟩ := H9.table
        have W10 := W9.keep k10 htb (by decide) (by decide) (by decide)
        have x10 := KeepA.ext2 (A := none) k10 x9 tge
        obtain ⟨a', ha', hrd'⟩ := ((x05.trans x10).row hr) i y hy
        cases ha'
        refine ⟨⟨hrd', trivial⟩, ?_⟩
        refine (lWant_spec o G.bok W10 wy).mono ?_
        rintro v h11 ⟨rfl, W11, k11⟩
        obtain ⟨_, cy, htw⟩ := W10.table
        have H11 := H10.keep k11 htw (by decide) (by decide) (by decide)
        refine xif_of (fun q => absurd q (by simp)) (fun _ => ?_)
        exact ⟨(i + 1, _), ⟨rfl, rfl, rfl, rfl, slot_inc (by omega), trivial⟩, ⟨by show i + 1 ≤ ops.length; omega, good_do o G wy, H11, W11, KeepA.ext2 (A := none) k11 x10 wge⟩, by show ops.length - (i + 1) < ops.length - i; omega⟩
      · exact ⟨L, ⟨rfl, rfl, rfl, trivial⟩, G, H9, W9, x9⟩
    · exact ⟨L, ⟨rfl, rfl, rfl, trivial⟩, G, H9, W9, x9⟩
  · rintro L h11 ⟨G, H11, W11, x11⟩
    have hz11 := x11.blk hz5
    have hL := G.bok.len
    have hm := o.many
    have hb1 := o.bk1
    have hb16 := o.bk2
    refine ⟨Unit, fun _ => [(2, .pointer (some ⟨zb, 0, none⟩)), (5, .pointer (some ⟨b, 0, none⟩)), (7, .pointer (some ⟨wb, 0, none⟩))], fun _ h' => Ext h11 h', ?_, ?_⟩
    · refine ⟨Nat, fun z => [(2, .pointer (some ⟨zb, 0, none⟩)), (5, .pointer (some ⟨b, 0, none⟩)), (7, .pointer (some ⟨wb, 0, none⟩)), (9, .int .i64 z)],
        fun z h' => z ≤ L.length ∧ Ext h11 h', fun z => L.length - z, 0, ⟨rfl, rfl, rfl, rfl, trivial⟩, ⟨Nat.zero_le _, Ext.refl _⟩, ?_⟩
      rintro i h12 ⟨hi, x12⟩
      have W12 := W11.ext x12
      have hz12 := x12.blk hz11
      obtain ⟨_, _, _, ⟨cap, _, c3⟩, _⟩ := W12.cells
      refine ⟨_, c3, ?_⟩
      refine xif_of (fun hlt => ?_) (fun _ => ?_)
      · have hlt : (i : Int) < L.length := of_decide_eq_true hlt
        have hlt' : (i : Int) < s.sh * s.bk := by omega
        have hai := at_ix o (i := i) (by omega) hlt'
        have q1 := quo_ix (i := i) (k := s.bk) (by omega) (by omega) hb1
        have q2 : (i : Int).tmod s.bk = i % s.bk := Int.tmod_eq_emod_of_nonneg (by omega)
        have nz : s.bk ≠ 0 := by omega
        obtain ⟨l, hl⟩ : ∃ l, L[i]? = some l := ⟨L[i]'(by omega), List.getElem?_eq_getElem (by omega)⟩
        have h8l := sl_small o (G.bok.each l (List.mem_of_getElem? hl))
        obtain ⟨C, d, hc, ownw⟩ := W12.bucket hl
        have q0 : (0 : Int) ≤ i := by omega
        have cb : ∀ hX, Ext h12 hX → cell hX ⟨zb, 1, none⟩ = some (.int .i64 s.bk) := fun hX xX => cell_blk (xX.blk hz12) rfl
        refine ⟨_, cell_blk hz12 rfl, nz, _, cell_blk hz12 rfl, nz, _, c3, _, rfl, q0, hlt, _, cell_ix hc, ?_⟩
        rw [q1, q2]
        refine (kBucket_spec o G.bok (H11.ext x12) _ _).mono ?_
        rintro v h13 ⟨A1, c1, l1, e1, rfl, own1, x13⟩
        rw [hai, if_neg (by omega), Int.toNat_natCast, List.getD_eq_getElem?_getD, hl] at e1
        have e1 : l1 = l := e1
        subst e1
        refine ⟨⟨x13.cell (cell_ix hc), x13.cell c3, trivial⟩, ?_⟩
        refine (l10From_spec (own1.row encP_len) rfl (by omega)).mono ?_
        rintro v h14 ⟨A2, c2, rfl, own2, x14⟩
        refine ⟨⟨(x13.trans x14).cell (cell_ix hc), (x13.trans x14).cell c3, trivial⟩, ?_⟩
        refine (rSame_spec (own2.row encP_len) ((ownw.ext (x13.trans x14)).row encP_len) rfl rfl (by omega)).mono ?_
        rintro v h15 ⟨rfl, rfl⟩
        refine xif_of (fun q => absurd q (by simp)) (fun _ => ?_)
        exact ⟨i + 1, ⟨rfl, rfl, rfl, slot_inc (by omega), trivial⟩, ⟨by omega, x12.trans (x13.trans x14)⟩, by show L.length - (i + 1) < L.length - i; omega⟩
      · exact ⟨(), ⟨rfl, rfl, rfl, trivial⟩, x12⟩
    · rintro _ h12 x12
      have hz12 := x12.blk hz11
      refine (lList_spec o G.bok (H11.ext x12)).mono ?_
      rintro v h13 ⟨A1, c1, rfl, own1, x13⟩
      refine (rbList_spec o G.bok ((W11.ext x12).ext x13)).mono ?_
      rintro v h14 ⟨A2, c2, rfl, own2, x14⟩
      refine (lEntries_spec (own1.ext x14) own2 (listB_small o G.bok)).mono ?_
      rintro v h15 ⟨rfl, rfl⟩
      have x1214 := x13.trans x14
      refine ⟨_, cell_blk (x1214.blk hz12) rfl, ?_⟩
      refine (kBucket_spec o G.bok ((H11.ext x12).ext x1214) _ _).mono ?_
      rintro v h16 ⟨A3, c3, l3, e3, rfl, own3, x16⟩
      rw [if_pos (by rw [atM, if_pos (by omega)]; omega)] at e3
      subst e3
      refine (kBucket_spec o G.bok (((H11.ext x12).ext x1214).ext x16) _ _).mono ?_
      rintro v h17 ⟨A4, c4, l4, e4, rfl, own4, x17⟩
      rw [if_pos (by rw [atM, if_pos (by omega)]; omega)] at e4
      subst e4
      exact ⟨rfl, x05.trans (x11.trans (x12.trans (x1214.trans (x16.trans x17))))⟩
end
end Go.Proofs.YtkppagdjakllpaaE
