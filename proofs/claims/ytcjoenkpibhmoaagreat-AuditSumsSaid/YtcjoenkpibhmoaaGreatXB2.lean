/- What the program's book answers: what is flushed, a bucket, all entries, a copy, a new one. Conditions: the arguments are of their types. -/
import Derived.Test.YtcjoenkpibhmoaaGreatXB1
set_option linter.unusedVariables false
set_option linter.unusedSimpArgs false
set_option maxRecDepth 100000
namespace Go.Proofs.YtcjoenkpibhmoaaGreatE
open Go Go.Proofs
def env_kNew : Nat → Ann
  | 6 => ⟨.op 0 [] <| .op 1 [] <| .op 2 [] <| .op 3 [] <| .op 4 [] <| .op 5 [] <| .op 6 [] <| .op 7 [4] <| .op 8 [4] <| .op 9 [] <| .op 10 [] <| .op 11 [] <| .op 12 [] <| .nil, [0, 0, 2, 6, 14, 0, 32, 96, 224, 510, 1023, 2047, 4095], false⟩
  | _ => ⟨.nil, [], false⟩
section
variable {base b tb : Nat} {s : Sz} {L : List (List Place)} {h : Heap}
theorem sum_step {f : List Place → Int} {L : List (List Place)} {i : Nat} {l : List Place} (hl : L[i]? = some l) : ((L.take (i + 1)).map f).sum = ((L.take i).map f).sum + f l := by
  obtain ⟨hi, rfl⟩ := List.getElem?_eq_some_iff.1 hl
  rw [List.take_succ_eq_append_getElem hi, List.map_append, List.sum_append]
  simp
theorem mix_set {f : List Place → List Place} {L : List (List Place)} {i : Nat} {l : List Place} (hl : L[i]? = some l) : ((L.take i).map f ++ L.drop i)[i]? = some l ∧ ((L.take i).map f ++ L.drop i).set i (f l) = (L.take (i + 1)).map f ++ L.drop (i + 1) := by
  obtain ⟨hi, rfl⟩ := List.getElem?_eq_some_iff.1 hl
  constructor
  · rw [List.getElem?_append_right (by simp; omega)]
    simp [Nat.min_eq_left (Nat.le_of_lt hi), hi]
  · have e : i - ((L.take i).map f).length = 0 := by simp; omega
    rw [List.set_append_right _ _ (by simp; omega), e, List.take_succ_eq_append_getElem hi, List.drop_eq_getElem_cons hi, List.set_cons_zero, List.map_append, List.append_assoc]
    rfl
theorem kFlush_spec (o : s.Ok) (B : Bok s L) (H : BkP base h b tb s L) (port vid : Int) :
    HCalls Tryz.prog 140 #[.pointer (some ⟨b, 0, none⟩), .agg #[.int .i64 port, .int .i64 vid]] h (fun v h' => v = .int .i64 (flushB L port vid).2 ∧ BkP base h' b tb s (flushB L port vid).1 ∧ KeepA (some ⟨tb, 0, none⟩) h h') := by
  obtain ⟨f, hf⟩ : ∃ f : List Place → List Place, (fun l => (withoutM (hitM port vid) l).1) = f := ⟨_, rfl⟩
  have hfl : ∀ l, (f l).length = l.length := fun l => by rw [← hf]; exact withoutM_len _ _
  have hL := B.len
  have hm := o.many
  unfold flushB
  rw [hf]
  refine xcalls env0 Tryz.func140 rfl (by kernel_rfl) rfl (by kernel_rfl) ?_
  intro kb h1 n1
  have H1 := H.ext n1.ext
  obtain ⟨c0, c1, _, ⟨cap, _, c3⟩, _⟩ := H1.cells
  have hne : kb ≠ tb := by
    obtain ⟨_, cx, hx⟩ := H.table
    have := n1.lt hx
    omega
  refine ⟨_, c3, ?_⟩
  refine ⟨Nat, fun i => [(0, .pointer (some ⟨b, 0, none⟩)), (3, .pointer (some ⟨kb, 0, none⟩)), (5, .int .i64 ((L.take i).map (goneN port vid)).sum), (15, .slice (some ⟨tb, 0, none⟩) L.length cap), (16, .int .i64 L.length), (17, .int .i64 i)],
    fun i h' => i ≤ L.length ∧ BkP base h' b tb s ((L.take i).map f ++ L.drop i) ∧ KeepA (some ⟨tb, 0, none⟩) h1 h' ∧ (0 ≤ ((L.take i).map (goneN port vid)).sum ∧ ((L.take i).map (goneN port vid)).sum ≤ 8 * i), fun i => L.length - i, 0, ⟨rfl, rfl, rfl, rfl, rfl, rfl, trivial⟩, ⟨Nat.zero_le _, by simpa using H1, (Ext.refl _).keepA _, by simp⟩, ?_⟩
  rintro i h2 ⟨hi, H2, k2, s0, s1⟩
  refine xif_of (fun hlt => ?_) (fun hge => ?_)
  · have hlt : (i : Int) < L.length := of_decide_eq_true hlt
    obtain ⟨l, hl⟩ : ∃ l, L[i]? = some l := ⟨L[i], List.getElem?_eq_getElem (by omega)⟩
    have h8 := sl_small o (B.each l (List.mem_of_getElem? hl))
    obtain ⟨m1, m2⟩ := mix_set (f := f) hl
    obtain ⟨A, c, hc, own⟩ := H2.bucket m1
    have hkb := k2.blk n1.this (by rintro ⟨⟩; exact hne rfl)
    refine ⟨_, rfl, by omega, by omega, _, cell_ix hc, _, rfl, reads_all hkb, ?_⟩
    refine (bFlush_spec (own.row encP_len) rfl (by omega)).mono ?_
    rintro v h3 ⟨bb, rfl, own3, x3⟩
    have H3 := H2.ext x3
    obtain ⟨_, _, _, ⟨ca, _, d3⟩, _⟩ := H3.cells
    have hbs : base ≤ h2.size := Nat.le_trans H2.ge (Nat.le_of_lt H2.lt)
    have hil : i < ((L.take i).map f ++ L.drop i).length := (List.getElem?_eq_some_iff.1 m1).1
    have g := goneN_range port vid l
    have e1 := sum_step (f := goneN port vid) hl
    refine ⟨_, d3, _, rfl, by omega, by omega, rfl, rfl, canset_ix (H3.canset hil), fun h4 s4 => ?_⟩
    have P := H3.put (by decide) (by decide) hil (withoutM_len (hitM port vid) l).symm (own3.mono hbs) (stored_ix s4)
    have e2 : (withoutM (hitM port vid) l).1 = f l := by rw [← hf]
    rw [e2, m2] at P
    refine ⟨i + 1, ⟨rfl, rfl, congrArg (fun z => some (Value.int .i64 z)) ?_, rfl, rfl, slot_inc (by omega), trivial⟩, ⟨by omega, P.1, k2.trans ((x3.keepA _).trans P.2), by omega, by omega⟩, by show L.length - (i + 1) < L.length - i; omega⟩
    show IntKind.i64.wrap (((L.take i).map (goneN port vid)).sum + goneN port vid l) = _
    rw [e1, wrap_i64 (by omega) (by omega)]
  · have hge : ¬ (i : Int) < L.length := of_decide_eq_false hge
    rw [List.take_of_length_le (by omega), List.drop_eq_nil_of_le (by omega), List.append_nil] at H2
    exact ⟨congrArg (Value.int .i64) (by rw [List.take_of_length_le (show L.length ≤ i by omega)]), H2, (n1.ext.keepA _).trans k2⟩
theorem placeInfo : (Tryz.prog.info? 282).map (fun i => (i.size, i.bytes)) = some (6, 40) := by kernel_rfl
theorem placeZero : xzero Tryz.prog 282 = some (encP Place.none) := by kernel_rfl
theorem entInfo : (Tryz.prog.info? 280).map (fun i => (i.size, i.bytes)) = some (5, 32) := by kernel_rfl
theorem entZero : xzero Tryz.prog 280 = some (encE Place.none) := by kernel_rfl
theorem encE_one (p : Place) : (encE p).all Value.oneCell' = true := rfl
theorem listB_next {L : List (List Place)} {i : Nat} {l : List Place} (hl : L[i]? = some l) : listB (L.take (i + 1)) = listB (L.take i) ++ l.filter (fun p => p.used) := by
  obtain ⟨hi, rfl⟩ := List.getElem?_eq_some_iff.1 hl
  unfold listB
  rw [List.take_succ_eq_append_getElem hi, List.flatMap_append]
  simp only [List.flatMap_cons, List.flatMap_nil, List.append_nil]
theorem filt_next {l : List Place} {j : Nat} {p : Place} (hp : l[j]? = some p) : (l.take (j + 1)).filter (fun p => p.used) = (l.take j).filter (fun p => p.used) ++ (if p.used = true then [p] else []) := by
  obtain ⟨hi, rfl⟩ := List.getElem?_eq_some_iff.1 hp
  rw [List.take_succ_eq_append_getElem hi, List.filter_append]
  simp [List.filter_cons]
theorem kWithin_spec (n m : Int) (h : Heap) : HCalls Tryz.prog 66 #[.int .i64 n, .int .i64 m] h (fun v h' => v = .bool (decide (1 ≤ n ∧ n ≤ m)) ∧ h' = h) := by
  refine xcalls env0 Tryz.func66 rfl (by kernel_rfl) rfl (by kernel_rfl) ?_
  refine xif_of (fun q => ?_) (fun q => ?_)
  · have q : n ≥ 1 := of_decide_eq_true q
    exact ⟨congrArg Value.bool (by rw [Bool.eq_iff_iff]; simp; omega), rfl⟩
  · have q : ¬ n ≥ 1 := of_decide_eq_false q
    exact ⟨congrArg Value.bool (by rw [Bool.eq_iff_iff]; simp; omega), rfl⟩
def rightM (s : Sz) : Bool := decide (1 ≤ s.sh ∧ s.sh ≤ 8) && (decide (1 ≤ s.bk ∧ s.bk ≤ 16) && decide (1 ≤ s.sl ∧ s.sl ≤ 8))
theorem rightM_ok {s : Sz} : rightM s = true ↔ s.Ok := by
  simp only [rightM, Bool.and_eq_true, decide_eq_true_eq]
  exact ⟨fun ⟨⟨a, b⟩, ⟨c, d⟩, e, f⟩ => ⟨a, b, c, d, e, f⟩, fun o => ⟨⟨o.sh1, o.sh2⟩, ⟨o.bk1, o.bk2⟩, o.sl1, o.sl2⟩⟩
theorem kRight_spec (s : Sz) (h : Heap) : HCalls Tryz.prog 35 #[.agg #[.int .i64 s.sh, .int .i64 s.bk, .int .i64 s.sl]] h (fun v h' => v = .bool (rightM s) ∧ Ext h h') := by
  refine xcalls env0 Tryz.func35 rfl (by kernel_rfl) rfl (by kernel_rfl) ?_
  intro zb h1 n1
  refine ⟨_, cell_blk n1.this rfl, ?_⟩
  refine (kWithin_spec _ _ _).mono ?_
  rintro v h2 ⟨rfl, rfl⟩
  refine xif_of (fun q1 => ?_) (fun q1 => ?_)
  · refine ⟨_, cell_blk n1.this rfl, ?_⟩
    refine (kWithin_spec _ _ _).mono ?_
    rintro v h3 ⟨rfl, rfl⟩
    refine xif_of (fun q2 => ?_) (fun q2 => ?_)
    · refine ⟨_, cell_blk n1.this rfl, ?_⟩
      refine (kWithin_spec _ _ _).mono ?_
      rintro v h4 ⟨rfl, rfl⟩
      exact ⟨congrArg Value.bool (by rw [rightM, q1, q2]; rfl), n1.ext⟩
    · exact ⟨congrArg Value.bool (by rw [rightM, q1, q2]; rfl), n1.ext⟩
  · exact ⟨congrArg Value.bool (by rw [rightM, q1]; rfl), n1.ext⟩
theorem slInfo : (Tryz.prog.info? 235).map (fun i => (i.size, i.bytes)) = some (1, 24) := by kernel_rfl
theorem slZero : xzero Tryz.prog 235 = some [.slice none 0 0] := by kernel_rfl
theorem kNew_bad {s : Sz} (o : rightM s = false) : HCalls Tryz.prog 99 #[.agg #[.int .i64 s.sh, .int .i64 s.bk, .int .i64 s.sl]] h (fun v h' => v = .tuple #[.pointer none, .int .i64 1] ∧ Ext h h') := by
  refine xcalls env_kNew Tryz.func99 rfl (by kernel_rfl) rfl (by kernel_rfl) ?_
  intro zb h1 n1
  refine ⟨_, rfl, reads_all n1.this, ?_⟩
  refine (kRight_spec s _).mono ?_
  rintro v h2 ⟨rfl, x2⟩
  refine xif_of (fun _ => ?_) (fun q => absurd q (by simp [o]))
  exact ⟨rfl, n1.ext.trans x2⟩
theorem kNew_spec (o : s.Ok) : HCalls Tryz.prog 99 #[.agg #[.int .i64 s.sh, .int .i64 s.bk, .int .i64 s.sl]] h (fun v h' => ∃ b tb, v = .tuple #[.pointer (some ⟨b, 0, none⟩), .int .i64 0] ∧ BkP h.size h' b tb s (List.replicate (s.sh * s.bk).toNat (List.replicate s.sl.toNat Place.none)) ∧ Ext h h') := by
  have hm := o.many
  have o5 := o.sl1
  have o6 := o.sl2
  refine xcalls env_kNew Tryz.func99 rfl (by kernel_rfl) rfl (by kernel_rfl) ?_
  intro zb h1 n1
  refine ⟨_, rfl, reads_all n1.this, ?_⟩
  refine (kRight_spec s _).mono ?_
  rintro v h2 ⟨rfl, x2⟩
  have hz := x2.blk n1.this
  refine xif_of (fun q => absurd q (by simp [rightM_ok.2 o])) (fun _ => ?_)
  refine ⟨_, rfl, reads_all hz, ?_⟩
  intro b h3 n3
  have hz := n3.ext.blk hz
  have x03 := n1.ext.trans (x2.trans n3.ext)
  refine ⟨_, cell_blk hz rfl, _, cell_blk hz rfl, ?_⟩
  refine ⟨Nat × Option Addr × Nat, fun z => [(1, .pointer (some ⟨zb, 0, none⟩)), (4, .pointer (some ⟨b, 0, none⟩)), (15, .int .i64 (s.sh * s.bk)), (16, .int .i64 z.1)],
    fun z h' => (z.1 : Int) ≤ s.sh * s.bk ∧ BkO 234 235 282 h.size h' b z.2.1 z.2.2 s (List.replicate z.1 (List.replicate s.sl.toNat Place.none)) ∧ Ext h h' ∧ h'[zb]? = some (.cells [.int .i64 s.sh, .int .i64 s.bk, .int .i64 s.sl].toArray 41 (0, 0)), fun z => (s.sh * s.bk).toNat - z.1, (0, none, 0), ⟨rfl, rfl, congrArg (fun z => some (Value.int .i64 z)) (wrap_i64 (by omega) (by omega)), rfl, trivial⟩, ⟨by show ((0 : Nat) : Int) ≤ _; omega, BkO.start n3 (n1.ext.trans x2).size, x03, hz⟩, ?_⟩
  rintro ⟨i, A, cap⟩ h4 ⟨hi, H4, x4, hz4⟩
  simp only at hi H4
  refine xif_of (fun hlt => ?_) (fun hge => ?_)
  · have hlt : (i : Int) < s.sh * s.bk := of_decide_eq_true hlt
    have c3 := H4.c3
    refine ⟨_, c3, _, cell_blk hz4 rfl, by omega, by omega, (by show ((40 : Nat) : Int) * s.sl ≤ _; omega), by omega, ?_⟩
    intro pb h5 n5
    have own5 : OwnA encP 6 282 h.size h5 (some ⟨pb, 0, none⟩) s.sl.toNat (List.replicate s.sl.toNat Place.none) := OwnA.made (z := Place.none) s.sl.toNat n5 rfl x4.size
    refine ⟨⟨n5.ext.cell c3, trivial⟩, ?_⟩
    intro bs h6 n6
    refine ⟨⟨n6.ext.cell (n5.ext.cell c3), trivial⟩, ?_⟩
    refine (H4.ext n5.ext).more slInfo slZero rfl (by decide) (by decide) (by decide) (by decide) (by decide) (by simp) own5 n6 (by simp; omega) fun A2 c2 h7 cs fr ex st => ?_
    refine ⟨rfl, rfl, cs, fun h8 s8 => ?_⟩
    have H8 := st h8 s8
    rw [← List.replicate_succ'] at H8
    have hz7 := fr _ _ _ _ (n5.ext.blk hz4) (by decide)
    have zne : zb ≠ b := H4.ne hz4 (by decide)
    exact ⟨(i + 1, A2, c2), ⟨rfl, rfl, rfl, slot_inc (by omega), trivial⟩, ⟨by show ((i + 1 : Nat) : Int) ≤ s.sh * s.bk; omega, H8, (ex h (Nat.le_refl _) (x4.trans n5.ext)).stored s8 H4.ge, s8.blk hz7 zne⟩, by show (s.sh * s.bk).toNat - (i + 1) < (s.sh * s.bk).toNat - i; omega⟩
  · have hge : ¬ (i : Int) < s.sh * s.bk := of_decide_eq_false hge
    have e : (s.sh * s.bk).toNat = i := by omega
    obtain ⟨tb, rfl, H5⟩ := H4.done (by rw [← e]; simp; omega)
    exact ⟨b, tb, rfl, by rw [e]; exact H5, x4⟩
end
end Go.Proofs.YtcjoenkpibhmoaaGreatE
