/- What the document's book answers: all entries, a copy, a new one; sizes. Conditions: the arguments are of their types. -/
import Derived.Test.YtgiofdiifkahoaaGreatXB4
set_option linter.unusedVariables false
set_option linter.unusedSimpArgs false
set_option maxRecDepth 100000
namespace Go.Proofs.YtgiofdiifkahoaaGreatE
open Go Go.Proofs
def env_rbCopy : Nat → Ann
  | 5 => ⟨.op 0 [] <| .op 1 [] <| .op 2 [] <| .op 3 [] <| .op 4 [] <| .op 5 [] <| .op 6 [] <| .op 7 [] <| .op 8 [] <| .op 9 [] <| .op 10 [] <| .op 11 [] <| .op 12 [4] <| .op 13 [4] <| .op 14 [] <| .op 15 [] <| .op 16 [] <| .op 17 [] <| .nil, [0, 0, 2, 6, 14, 0, 32, 96, 224, 0, 992, 2016, 4064, 8160, 16382, 32767, 65535, 131071], false⟩
  | _ => ⟨.nil, [], false⟩
def env_rbNew : Nat → Ann
  | 5 => ⟨.op 0 [] <| .op 1 [] <| .op 2 [] <| .op 3 [] <| .op 4 [] <| .op 5 [] <| .op 6 [] <| .op 7 [4] <| .op 8 [4] <| .op 9 [] <| .op 10 [] <| .op 11 [] <| .op 12 [] <| .nil, [0, 0, 2, 6, 14, 0, 32, 96, 224, 510, 1023, 2047, 4095], false⟩
  | _ => ⟨.nil, [], false⟩
section
variable {base b tb : Nat} {s : Sz} {L : List (List Place)} {h : Heap}
theorem entInfoR : (Tryz.prog.info? 162).map (fun i => (i.size, i.bytes)) = some (5, 32) := by kernel_rfl
theorem entZeroR : xzero Tryz.prog 162 = some (encE Place.none) := by kernel_rfl
theorem rbList_spec (o : s.Ok) (B : Bok s L) (H : BkR base h b tb s L) :
    HCalls Tryz.prog 72 #[.pointer (some ⟨b, 0, none⟩)] h (fun v h' => ∃ A' c', v = .slice A' (listB L).length c' ∧ OwnA encE 5 162 h.size h' A' c' (listB L) ∧ Ext h h') := by
  have hL := B.len
  have hm := o.many
  obtain ⟨c0, c1, _, ⟨cap, _, c3⟩, _⟩ := H.cells
  refine xcalls env0 Tryz.func72 rfl (by kernel_rfl) rfl (by kernel_rfl) ?_
  refine ⟨Nat × Option Addr × Nat, fun z => [(0, .pointer (some ⟨b, 0, none⟩)), (3, .slice z.2.1 (listB (L.take z.1)).length z.2.2), (4, .int .i64 z.1)],
    fun z h' => z.1 ≤ L.length ∧ OwnA encE 5 162 h.size h' z.2.1 z.2.2 (listB (L.take z.1)) ∧ Ext h h' ∧ (listB (L.take z.1)).length ≤ 8 * z.1, fun z => L.length - z.1, (0, none, 0), ⟨rfl, rfl, rfl, trivial⟩, ⟨Nat.zero_le _, .inl ⟨rfl, rfl, rfl⟩, Ext.refl _, Nat.le_refl _⟩, ?_⟩
  rintro ⟨i, C, d⟩ h2 ⟨hi, own2, x2, len2⟩
  simp only at hi own2 len2
  refine ⟨_, x2.cell c3, ?_⟩
  refine xif_of (fun hlt => ?_) (fun hge => ?_)
  · have hlt : (i : Int) < L.length := of_decide_eq_true hlt
    obtain ⟨l, hl⟩ : ∃ l, L[i]? = some l := ⟨L[i]'(by omega), List.getElem?_eq_getElem (by omega)⟩
    have h8 := sl_small o (B.each l (List.mem_of_getElem? hl))
    obtain ⟨A, c, hc, own⟩ := H.bucket hl
    have q1 : (0 : Int) ≤ i := by omega
    refine ⟨Nat × Option Addr × Nat, fun z => [(0, .pointer (some ⟨b, 0, none⟩)), (3, .slice z.2.1 (listB (L.take i) ++ (l.take z.1).filter (fun p => p.used)).length z.2.2), (4, .int .i64 i), (5, .int .i64 z.1)],
      fun z h' => z.1 ≤ l.length ∧ OwnA encE 5 162 h.size h' z.2.1 z.2.2 (listB (L.take i) ++ (l.take z.1).filter (fun p => p.used)) ∧ Ext h h' ∧ ((l.take z.1).filter (fun p => p.used)).length ≤ z.1, fun z => l.length - z.1, (0, C, d), ⟨rfl, congrArg (fun n => some (Value.slice C n d)) (by simp), rfl, rfl, trivial⟩, ⟨Nat.zero_le _, by simpa using own2, x2, Nat.le_refl _⟩, ?_⟩
    rintro ⟨j, E, e⟩ h3 ⟨hj, own3, x3, len3⟩
    simp only at hj own3 len3
    refine ⟨_, x3.cell c3, _, rfl, q1, hlt, _, x3.cell (cell_ix hc), ?_⟩
    refine xif_of (fun hlt2 => ?_) (fun hge => ?_)
    · have hlt2 : (j : Int) < l.length := of_decide_eq_true hlt2
      obtain ⟨p, hp⟩ : ∃ p, l[j]? = some p := ⟨l[j]'(by omega), List.getElem?_eq_getElem (by omega)⟩
      have fn := filt_next hp
      obtain ⟨a, rfl, hrd⟩ := ((own.ext x3).row encP_len) j p hp
      have q2 : (0 : Int) ≤ j := by omega
      refine ⟨_, x3.cell c3, _, rfl, q1, hlt, _, x3.cell (cell_ix hc), _, rfl, q2, hlt2, .bool p.used, hrd.get 0 rfl, ?_⟩
      refine xif_of (fun hu => ?_) (fun hu => ?_)
      · rw [if_pos hu] at fn
        refine ⟨_, x3.cell c3, _, rfl, q1, hlt, _, x3.cell (cell_ix hc), _, rfl, q2, hlt2, encE p, rfl, hrd.sub 1 rfl, ?_⟩
        intro eb h6 n6
        refine xappend_one (x := p) entInfoR entZeroR rfl (by decide) encE_len encE_one own3 n6 rfl ?_ x3.size fun A' c' h' oo k => ?_
        · show ((listB (L.take i) ++ (l.take j).filter (fun p => p.used)).length + 1) * 32 ≤ 140737488355328
          rw [List.length_append]; omega
        · rw [List.append_assoc, ← fn] at oo
          refine ⟨(j + 1, A', c'), ⟨rfl, congrArg (fun n => some (Value.slice A' n c')) (by rw [fn]; simp; omega), rfl, slot_inc (by omega), trivial⟩, ⟨by show j + 1 ≤ l.length; omega, oo, k.ext x3 own3.ge, by show ((l.take (j + 1)).filter _).length ≤ j + 1; rw [fn]; simp; omega⟩, by show l.length - (j + 1) < l.length - j; omega⟩
      · rw [if_neg (by simp [hu]), List.append_nil] at fn
        refine ⟨(j + 1, E, e), ⟨rfl, congrArg (fun n => some (Value.slice E n e)) (by rw [fn]), rfl, slot_inc (by omega), trivial⟩, ⟨by show j + 1 ≤ l.length; omega, by show OwnA _ _ _ _ _ _ _ (_ ++ (l.take (j + 1)).filter _); rw [fn]; exact own3, x3, by show ((l.take (j + 1)).filter _).length ≤ j + 1; rw [fn]; omega⟩, by show l.length - (j + 1) < l.length - j; omega⟩
    · have hge : ¬ (j : Int) < l.length := of_decide_eq_false hge
      rw [List.take_of_length_le (show l.length ≤ j by omega)] at own3 len3
      have ln := listB_next hl
      rw [← ln] at own3
      refine ⟨(i + 1, E, e), ⟨rfl, congrArg (fun n => some (Value.slice E n e)) (by rw [ln, List.take_of_length_le (show l.length ≤ j by omega)]), slot_inc (by omega), trivial⟩, ⟨by show i + 1 ≤ L.length; omega, own3, x3, by show (listB (L.take (i + 1))).length ≤ 8 * (i + 1); rw [ln, List.length_append]; omega⟩, by show L.length - (i + 1) < L.length - i; omega⟩
  · have hge : ¬ (i : Int) < L.length := of_decide_eq_false hge
    rw [List.take_of_length_le (by omega)] at own2
    exact ⟨C, d, congrArg (fun n => Value.slice C n d) (by rw [List.take_of_length_le (by omega)]), own2, x2⟩
theorem slInfoR : (Tryz.prog.info? 154).map (fun i => (i.size, i.bytes)) = some (1, 24) := by kernel_rfl
theorem slZeroR : xzero Tryz.prog 154 = some [.slice none 0 0] := by kernel_rfl
theorem rbNew_spec (o : s.Ok) : HCalls Tryz.prog 44 #[.agg #[.int .i64 s.sh, .int .i64 s.bk, .int .i64 s.sl]] h (fun v h' => ∃ b tb, v = .pointer (some ⟨b, 0, none⟩) ∧ BkR h.size h' b tb s (List.replicate (s.sh * s.bk).toNat (List.replicate s.sl.toNat Place.none)) ∧ Ext h h') := by
  have hm := o.many
  have o5 := o.sl1
  have o6 := o.sl2
  refine xcalls env_rbNew Tryz.func44 rfl (by kernel_rfl) rfl (by kernel_rfl) ?_
  intro zb h1 n1
  refine ⟨_, rfl, reads_all n1.this, ?_⟩
  intro b h3 n3
  have hz := n3.ext.blk n1.this
  have x03 := n1.ext.trans n3.ext
  refine ⟨Nat × Option Addr × Nat, fun z => [(1, .pointer (some ⟨zb, 0, none⟩)), (3, .pointer (some ⟨b, 0, none⟩)), (4, .int .i64 z.1)],
    fun z h' => (z.1 : Int) ≤ s.sh * s.bk ∧ BkO 152 154 197 h.size h' b z.2.1 z.2.2 s (List.replicate z.1 (List.replicate s.sl.toNat Place.none)) ∧ Ext h h' ∧ h'[zb]? = some (.cells [.int .i64 s.sh, .int .i64 s.bk, .int .i64 s.sl].toArray 25 (0, 0)), fun z => (s.sh * s.bk).toNat - z.1, (0, none, 0), ⟨rfl, rfl, rfl, trivial⟩, ⟨by show ((0 : Nat) : Int) ≤ _; omega, BkO.start n3 n1.ext.size, x03, hz⟩, ?_⟩
  rintro ⟨i, A, cap⟩ h4 ⟨hi, H4, x4, hz4⟩
  simp only at hi H4
  have hw : IntKind.i64.wrap (s.sh * s.bk) = s.sh * s.bk := wrap_i64 (by omega) (by omega)
  refine ⟨_, cell_blk hz4 rfl, _, cell_blk hz4 rfl, ?_⟩
  refine xif_of (fun hlt => ?_) (fun hge => ?_)
  · have hlt : (i : Int) < IntKind.i64.wrap (s.sh * s.bk) := of_decide_eq_true hlt
    rw [hw] at hlt
    have c3 := H4.c3
    refine ⟨_, c3, _, cell_blk hz4 rfl, by omega, by omega, (by show ((40 : Nat) : Int) * s.sl ≤ _; omega), by omega, ?_⟩
    intro pb h5 n5
    have own5 : OwnA encP 6 197 h.size h5 (some ⟨pb, 0, none⟩) s.sl.toNat (List.replicate s.sl.toNat Place.none) := OwnA.made (z := Place.none) s.sl.toNat n5 rfl x4.size
    refine ⟨⟨n5.ext.cell c3, trivial⟩, ?_⟩
    intro bs h6 n6
    refine ⟨⟨n6.ext.cell (n5.ext.cell c3), trivial⟩, ?_⟩
    refine (H4.ext n5.ext).more slInfoR slZeroR rfl (by decide) (by decide) (by decide) (by decide) (by decide) (by simp) own5 n6 (by simp; omega) fun A2 c2 h7 cs fr ex st => ?_
    refine ⟨rfl, rfl, cs, fun h8 s8 => ?_⟩
    have H8 := st h8 s8
    rw [← List.replicate_succ'] at H8
    have hz7 := fr _ _ _ _ (n5.ext.blk hz4) (by decide)
    have zne : zb ≠ b := H4.ne hz4 (by decide)
    exact ⟨(i + 1, A2, c2), ⟨rfl, rfl, slot_inc (by omega), trivial⟩, ⟨by show ((i + 1 : Nat) : Int) ≤ s.sh * s.bk; omega, H8, (ex h (Nat.le_refl _) (x4.trans n5.ext)).stored s8 H4.ge, s8.blk hz7 zne⟩, by show (s.sh * s.bk).toNat - (i + 1) < (s.sh * s.bk).toNat - i; omega⟩
  · have hge : ¬ (i : Int) < IntKind.i64.wrap (s.sh * s.bk) := of_decide_eq_false hge
    rw [hw] at hge
    have e : (s.sh * s.bk).toNat = i := by omega
    obtain ⟨tb, rfl, H5⟩ := H4.done (by rw [← e]; simp; omega)
    exact ⟨b, tb, rfl, by rw [e]; exact H5, x4⟩
theorem rbCopy_spec (o : s.Ok) (B : Bok s L) (hcl : Cls L) (H : BkR base h b tb s L) : HCalls Tryz.prog 77 #[.pointer (some ⟨b, 0, none⟩)] h (fun v h' => ∃ b' tb', v = .pointer (some ⟨b', 0, none⟩) ∧ BkR h.size h' b' tb' s L ∧ Ext h h') := by
  have hL := B.len
  have hm := o.many
  obtain ⟨_, _, _, ⟨cap, _, c3⟩, rd⟩ := H.cells
  refine xcalls env_rbCopy Tryz.func77 rfl (by kernel_rfl) rfl (by kernel_rfl) ?_
  refine ⟨_, rfl, rd, ?_⟩
  intro b' h1 n1
  refine ⟨Nat × Option Addr × Nat, fun z => [(0, .pointer (some ⟨b, 0, none⟩)), (3, .pointer (some ⟨b', 0, none⟩)), (4, .int .i64 z.1)],
    fun z h' => z.1 ≤ L.length ∧ BkO 152 154 197 h.size h' b' z.2.1 z.2.2 s (L.take z.1) ∧ Ext h h', fun z => L.length - z.1, (0, none, 0), ⟨rfl, rfl, rfl, trivial⟩, ⟨Nat.zero_le _, BkO.start n1 (Nat.le_refl _), n1.ext⟩, ?_⟩
  rintro ⟨i, A, ca⟩ h4 ⟨hi, H4, x4⟩
  simp only at hi H4
  refine ⟨_, x4.cell c3, ?_⟩
  refine xif_of (fun hlt => ?_) (fun hge => ?_)
  · have hlt : (i : Int) < L.length := of_decide_eq_true hlt
    obtain ⟨l, hl⟩ : ∃ l, L[i]? = some l := ⟨L[i]'(by omega), List.getElem?_eq_getElem (by omega)⟩
    have h8 := sl_small o (B.each l (List.mem_of_getElem? hl))
    obtain ⟨C, c, hc, own⟩ := (H.ext x4).bucket hl
    have c4 := H4.c3
    refine ⟨_, c4, _, x4.cell c3, _, rfl, by omega, hlt, _, cell_ix hc, ?_⟩
    refine (rCopy_spec (own.row encP_len) rfl (by omega)).mono ?_
    rintro v h5 ⟨C', c', rfl, own5, x5⟩
    rw [cl_eq (hcl l (List.mem_of_getElem? hl))] at own5
    refine ⟨⟨x5.cell c4, trivial⟩, ?_⟩
    intro bs h6 n6
    refine ⟨⟨n6.ext.cell (x5.cell c4), trivial⟩, ?_⟩
    refine (H4.ext x5).more slInfoR slZeroR rfl (by decide) (by decide) (by decide) (by decide) (by decide) rfl (own5.mono x4.size) n6 (by simp; omega) fun A2 c2 h7 cs fr ex st => ?_
    refine ⟨rfl, rfl, cs, fun h8 s8 => ?_⟩
    have H8 := st h8 s8
    rw [take_next hl] at H8
    exact ⟨(i + 1, A2, c2), ⟨rfl, rfl, slot_inc (by omega), trivial⟩, ⟨by show i + 1 ≤ L.length; omega, H8, (ex h (Nat.le_refl _) (x4.trans x5)).stored s8 H4.ge⟩, by show L.length - (i + 1) < L.length - i; omega⟩
  · have hge : ¬ (i : Int) < L.length := of_decide_eq_false hge
    rw [List.take_of_length_le (by omega)] at H4
    obtain ⟨tb', rfl, H5⟩ := H4.done (by rintro rfl; simp at hL; omega)
    exact ⟨b', tb', rfl, H5, x4⟩
def fixSz (s : Sz) : Sz := ⟨1 + s.sh % 18446744073709551616 % 8, 1 + s.bk % 18446744073709551616 % 16, 1 + s.sl % 18446744073709551616 % 8⟩
theorem fixSz_ok (s : Sz) : (fixSz s).Ok := by
  refine ⟨?_, ?_, ?_, ?_, ?_, ?_⟩ <;> simp only [fixSz] <;> omega
theorem fix_eq (p d : Int) (hd : 1 ≤ d) (h2 : d ≤ 16) : IntKind.i64.wrap (1 + IntKind.i64.wrap ((IntKind.u64.wrap p).tmod d)) = 1 + p % 18446744073709551616 % d := by
  have h3 := Int.emod_lt_of_pos (p % 18446744073709551616) (show 0 < d by omega)
  have h4 := Int.emod_nonneg (p % 18446744073709551616) (show d ≠ 0 by omega)
  rw [IntKind.wrap_u64, Int.tmod_eq_emod_of_nonneg (by omega), wrap_i64 (x := p % 18446744073709551616 % d) (by omega) (by omega), wrap_i64 (by omega) (by omega)]
theorem rbFix_spec (s : Sz) : HCalls Tryz.prog 34 #[.agg #[.int .i64 s.sh, .int .i64 s.bk, .int .i64 s.sl]] h (fun v h' => v = .agg #[.int .i64 (fixSz s).sh, .int .i64 (fixSz s).bk, .int .i64 (fixSz s).sl] ∧ Ext h h') := by
  refine xcalls env0 Tryz.func34 rfl (by kernel_rfl) rfl (by kernel_rfl) ?_
  intro zb h1 n1 rb h2 n2
  have hz := n2.ext.blk n1.this
  refine ⟨_, cell_blk hz rfl, by decide, _, cell_blk hz rfl, by decide, _, cell_blk hz rfl, by decide, rfl, rfl, canset_blk n2.this rfl, fun h3 s3 => ?_⟩
  have s3' : Stored h2 ⟨rb, 0, none⟩ [.int .i64 (IntKind.i64.wrap (1 + IntKind.i64.wrap ((IntKind.u64.wrap s.sh).tmod 8))), .int .i64 (IntKind.i64.wrap (1 + IntKind.i64.wrap ((IntKind.u64.wrap s.bk).tmod 16))), .int .i64 (IntKind.i64.wrap (1 + IntKind.i64.wrap ((IntKind.u64.wrap s.sl).tmod 8)))] h3 := s3
  rw [fix_eq _ 8 (by decide) (by decide), fix_eq _ 16 (by decide) (by decide), fix_eq _ 8 (by decide) (by decide)] at s3'
  have hr : h3[rb]? = some (.cells [.int .i64 (fixSz s).sh, .int .i64 (fixSz s).bk, .int .i64 (fixSz s).sl].toArray 25 (0, 0)) := s3'.put n2.this
  exact ⟨_, rfl, reads_all hr, rfl, (n1.ext.trans n2.ext).stored s3 (n2.ge n1.ext)⟩
theorem rbRight_spec (s : Sz) : HCalls Tryz.prog 119 #[.agg #[.int .i64 s.sh, .int .i64 s.bk, .int .i64 s.sl]] h (fun v h' => v = .bool (rightM s) ∧ Ext h h') := by
  refine xcalls env0 Tryz.func119 rfl (by kernel_rfl) rfl (by kernel_rfl) ?_
  intro zb h1 n1
  have hz := n1.this
  refine ⟨_, cell_blk hz rfl, xif_of (fun q1 => ?_) (fun q1 => ?_)⟩
  · have q1 : s.sh ≥ 1 := of_decide_eq_true q1
    refine ⟨_, cell_blk hz rfl, xif_of (fun q2 => ?_) (fun q2 => ?_)⟩
    · have q2 : s.sh ≤ 8 := of_decide_eq_true q2
      refine ⟨_, cell_blk hz rfl, xif_of (fun q3 => ?_) (fun q3 => ?_)⟩
      · have q3 : s.bk ≥ 1 := of_decide_eq_true q3
        refine ⟨_, cell_blk hz rfl, xif_of (fun q4 => ?_) (fun q4 => ?_)⟩
        · have q4 : s.bk ≤ 16 := of_decide_eq_true q4
          refine ⟨_, cell_blk hz rfl, xif_of (fun q5 => ?_) (fun q5 => ?_)⟩
          · have q5 : s.sl ≥ 1 := of_decide_eq_true q5
            refine ⟨_, cell_blk hz rfl, ?_⟩
            exact ⟨congrArg Value.bool (by rw [Bool.eq_iff_iff]; simp [rightM]; omega), n1.ext⟩
          · have q5 : ¬ s.sl ≥ 1 := of_decide_eq_false q5
            exact ⟨congrArg Value.bool (by rw [Bool.eq_iff_iff]; simp [rightM]; omega), n1.ext⟩
        · have q4 : ¬ s.bk ≤ 16 := of_decide_eq_false q4
          exact ⟨congrArg Value.bool (by rw [Bool.eq_iff_iff]; simp [rightM]; omega), n1.ext⟩
      · have q3 : ¬ s.bk ≥ 1 := of_decide_eq_false q3
        exact ⟨congrArg Value.bool (by rw [Bool.eq_iff_iff]; simp [rightM]; omega), n1.ext⟩
    · have q2 : ¬ s.sh ≤ 8 := of_decide_eq_false q2
      exact ⟨congrArg Value.bool (by rw [Bool.eq_iff_iff]; simp [rightM]; omega), n1.ext⟩
  · have q1 : ¬ s.sh ≥ 1 := of_decide_eq_false q1
    exact ⟨congrArg Value.bool (by rw [Bool.eq_iff_iff]; simp [rightM]; omega), n1.ext⟩
end
end Go.Proofs.YtgiofdiifkahoaaGreatE
