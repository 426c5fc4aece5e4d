/- What the program's book answers: what is flushed, a bucket, all entries, a copy, a new one. Conditions: the arguments are of their types. -/
import Derived.Test.YtgiofdiifkahoaaGreatXB1
set_option linter.unusedVariables false
set_option linter.unusedSimpArgs false
set_option maxRecDepth 100000
namespace Go.Proofs.YtgiofdiifkahoaaGreatE
open Go Go.Proofs
def env_kCopy : Nat → Ann
  | 7 => ⟨.op 0 [] <| .op 1 [] <| .op 2 [] <| .op 3 [] <| .op 4 [] <| .op 5 [] <| .op 6 [4] <| .op 7 [4] <| .op 8 [] <| .op 9 [] <| .op 10 [] <| .op 11 [] <| .nil, [0, 0, 2, 6, 14, 0, 32, 96, 254, 511, 1023, 2047], false⟩
  | _ => ⟨.nil, [], false⟩
def env_kNew : Nat → Ann
  | 6 => ⟨.op 0 [] <| .op 1 [] <| .op 2 [] <| .op 3 [] <| .op 4 [] <| .op 5 [] <| .op 6 [] <| .op 7 [4] <| .op 8 [4] <| .op 9 [] <| .op 10 [] <| .op 11 [] <| .op 12 [] <| .nil, [0, 0, 2, 6, 14, 0, 32, 96, 224, 510, 1023, 2047, 4095], false⟩
  | _ => ⟨.nil, [], false⟩
section
variable {base b tb : Nat} {s : Sz} {L : List (List Place)} {h : Heap}
theorem sum_step {f : List Place → Int} {L : List (List Place)} {i : Nat} {l : List Place} (hl : L[i]? = some l) : ((L.take (i + 1)).map f).sum = ((L.take i).map f).sum + f l := by
  obtain ⟨hi, rfl⟩ := List.getElem?_eq_some_iff.1 hl
  rw [List.take_succ_eq_append_getElem hi, List.map_append, List.sum_append]
  simp
theorem mix_set {f : List Place → List Place} {L : List (List Place)} {i : Nat} {l : List Place} (hl : L[i]? = some l) : ((L.take i).map f ++ L.drop i)[i]? = some l ∧ ((L.take i).map f ++ L.drop i).set i (f l) = (L.take (i + 1)).map f ++ L.drop (i + 1) := by
  obtain ⟨hi, rfl⟩ := List.getElem?_eq_some_iff.1 hl
  constructor
  · rw [List.getElem?_append_right (by simp; omega)]
    simp [Nat.min_eq_left (Nat.le_of_lt hi), hi]
  · have e : i - ((L.take i).map f).length = 0 := by simp; omega
    rw [List.set_append_right _ _ (by simp; omega), e, List.take_succ_eq_append_getElem hi, List.drop_eq_getElem_cons hi, List.set_cons_zero, List.map_append, List.append_assoc]
    rfl
theorem kFlush_spec (o : s.Ok) (B : Bok s L) (H : BkP base h b tb s L) (port vid : Int) :
    HCalls Tryz.prog 99 #[.pointer (some ⟨b, 0, none⟩), .agg #[.int .i64 port, .int .i64 vid]] h (fun v h' => v = .int .i64 (flushB L port vid).2 ∧ BkP base h' b tb s (flushB L port vid).1 ∧ KeepA (some ⟨tb, 0, none⟩) h h') := by
  obtain ⟨f, hf⟩ : ∃ f : List Place → List Place, (fun l => (withoutM (hitM port vid) l).1) = f := ⟨_, rfl⟩
  have hfl : ∀ l, (f l).length = l.length := fun l => by rw [← hf]; exact withoutM_len _ _
  have hL := B.len
  have hm := o.many
  unfold flushB
  rw [hf]
  refine xcalls env0 Tryz.func99 rfl (by kernel_rfl) rfl (by kernel_rfl) ?_
  intro kb h1 n1
  have H1 := H.ext n1.ext
  obtain ⟨c0, c1, _, ⟨cap, _, c3⟩, _⟩ := H1.cells
  have hne : kb ≠ tb := by
    obtain ⟨_, cx, hx⟩ := H.table
    have := n1.lt hx
    omega
  refine ⟨_, c3, ?_⟩
  refine ⟨Nat, fun i => [(0, .pointer (some ⟨b, 0, none⟩)), (3, .pointer (some ⟨kb, 0, none⟩)), (5, .int .i64 ((L.take i).map (goneN port vid)).sum), (15, .slice (some ⟨tb, 0, none⟩) L.length cap), (16, .int .i64 L.length), (17, .int .i64 i)],
    fun i h' => i ≤ L.length ∧ BkP base h' b tb s ((L.take i).map f ++ L.drop i) ∧ KeepA (some ⟨tb, 0, none⟩) h1 h' ∧ (0 ≤ ((L.take i).map (goneN port vid)).sum ∧ ((L.take i).map (goneN port vid)).sum ≤ 8 * i), fun i => L.length - i, 0, ⟨rfl, rfl, rfl, rfl, rfl, rfl, trivial⟩, ⟨Nat.zero_le _, by simpa using H1, (Ext.refl _).keepA _, by simp⟩, ?_⟩
  rintro i h2 ⟨hi, H2, k2, s0, s1⟩
  refine xif_of (fun hlt => ?_) (fun hge => ?_)
  · have hlt : (i : Int) < L.length := of_decide_eq_true hlt
    obtain ⟨l, hl⟩ : ∃ l, L[i]? = some l := ⟨L[i], List.getElem?_eq_getElem (by omega)⟩
    have h8 := sl_small o (B.each l (List.mem_of_getElem? hl))
    obtain ⟨m1, m2⟩ := mix_set (f := f) hl
    obtain ⟨A, c, hc, own⟩ := H2.bucket m1
    have hkb := k2.blk n1.this (by rintro ⟨⟩; exact hne rfl)
    refine ⟨_, rfl, by omega, by omega, _, cell_ix hc, _, rfl, reads_all hkb, ?_⟩
    refine (bFlush_spec (own.row encP_len) rfl (by omega)).mono ?_
    rintro v h3 ⟨bb, rfl, own3, x3⟩
    have H3 := H2.ext x3
    obtain ⟨_, _, _, ⟨ca, _, d3⟩, _⟩ := H3.cells
    have hbs : base ≤ h2.size := Nat.le_trans H2.ge (Nat.le_of_lt H2.lt)
    have hil : i < ((L.take i).map f ++ L.drop i).length := (List.getElem?_eq_some_iff.1 m1).1
    have g := goneN_range port vid l
    have e1 := sum_step (f := goneN port vid) hl
    refine ⟨_, d3, _, rfl, by omega, by omega, rfl, rfl, canset_ix (H3.canset hil), fun h4 s4 => ?_⟩
    have P := H3.put (by decide) (by decide) hil (withoutM_len (hitM port vid) l).symm (own3.mono hbs) (stored_ix s4)
    have e2 : (withoutM (hitM port vid) l).1 = f l := by rw [← hf]
    rw [e2, m2] at P
    refine ⟨i + 1, ⟨rfl, rfl, congrArg (fun z => some (Value.int .i64 z)) ?_, rfl, rfl, slot_inc (by omega), trivial⟩, ⟨by omega, P.1, k2.trans ((x3.keepA _).trans P.2), by omega, by omega⟩, by show L.length - (i + 1) < L.length - i; omega⟩
    show IntKind.i64.wrap (((L.take i).map (goneN port vid)).sum + goneN port vid l) = _
    rw [e1, wrap_i64 (by omega) (by omega)]
  · have hge : ¬ (i : Int) < L.length := of_decide_eq_false hge
    rw [List.take_of_length_le (by omega), List.drop_eq_nil_of_le (by omega), List.append_nil] at H2
    exact ⟨congrArg (Value.int .i64) (by rw [List.take_of_length_le (show L.length ≤ i by omega)]), H2, (n1.ext.keepA _).trans k2⟩
theorem placeInfo : (Tryz.prog.info? 203).map (fun i => (i.size, i.bytes)) = some (6, 40) := by kernel_rfl
theorem placeZero : xzero Tryz.prog 203 = some (encP Place.none) := by kernel_rfl
theorem kClone_spec {A : Option Addr} {c : Nat} {l : List Place} (own : OwnA encP 6 203 base h A c l) (hn : l.length ≤ 8) :
    HCalls Tryz.prog 116 #[.slice A l.length c] h (fun v h' => ∃ A' c', v = .slice A' l.length c' ∧ OwnA encP 6 203 h.size h' A' c' l ∧ Ext h h') := by
  refine xcalls env0 Tryz.func116 rfl (by kernel_rfl) rfl (by kernel_rfl) ?_
  cases A with
  | none =>
    rcases own with ⟨_, rfl, rfl⟩ | ⟨_, _, e, _⟩
    · exact ⟨none, 0, rfl, .inl ⟨rfl, rfl, rfl⟩, Ext.refl _⟩
    · cases e
  | some a =>
    intro b1 h1 n1
    have own1 : OwnA encP 6 203 h.size h1 (some ⟨b1, 0, none⟩) 0 ([] : List Place) := .inr ⟨b1, [], rfl, n1.ge (Ext.refl _), n1.this, rfl, Nat.le_refl _⟩
    refine xappend_many (xs := []) (ys := l) placeInfo placeZero rfl (by decide) encP_len encP_one own1 rfl rfl ((own.ext n1.ext).reads) (by omega) n1.ext.size fun A' c' h' o k => ?_
    exact ⟨A', c', by rw [Nat.zero_add]; rfl, o, k.ext n1.ext (fun b' e => by cases e; exact n1.ge (Ext.refl _))⟩
theorem kBucket_spec (o : s.Ok) (B : Bok s L) (H : BkP base h b tb s L) (a n : Int) :
    HCalls Tryz.prog 113 #[.pointer (some ⟨b, 0, none⟩), .int .i64 a, .int .i64 n] h (fun v h' => ∃ A' c' l, (l = if atM s a n < 0 then [] else L.getD (atM s a n).toNat []) ∧ v = .slice A' l.length c' ∧ OwnA encP 6 203 h.size h' A' c' l ∧ Ext h h') := by
  refine xcalls env0 Tryz.func113 rfl (by kernel_rfl) rfl (by kernel_rfl) ?_
  refine (kAt_spec o H a n).mono ?_
  rintro v h1 ⟨rfl, rfl⟩
  rcases atM_range o a n with r | ⟨r0, r1, _⟩
  · refine xif_of (fun _ => ?_) (fun q => absurd (of_decide_eq_false q) (by omega))
    exact ⟨none, 0, [], by rw [if_pos (by omega)], rfl, .inl ⟨rfl, rfl, rfl⟩, Ext.refl _⟩
  obtain ⟨k, l, hk, hkl, hl, hgd, hsl, hwf⟩ := B.get r0 r1
  have h8 := sl_small o hsl
  rw [hgd, hk]
  refine xif_of (fun q => by have q : (k : Int) < 0 := of_decide_eq_true q; omega) (fun _ => ?_)
  obtain ⟨c0, c1, _, ⟨ca, _, c3⟩, _⟩ := H.cells
  obtain ⟨A, c, hc, own⟩ := H.bucket hl
  refine ⟨_, c3, _, rfl, by omega, by omega, _, cell_ix hc, ?_⟩
  refine (kClone_spec own h8).mono ?_
  rintro v h3 ⟨A', c', rfl, own3, x3⟩
  exact ⟨A', c', l, by rw [if_neg (by omega)], rfl, own3, x3⟩
theorem entInfo : (Tryz.prog.info? 165).map (fun i => (i.size, i.bytes)) = some (5, 32) := by kernel_rfl
theorem entZero : xzero Tryz.prog 165 = some (encE Place.none) := by kernel_rfl
theorem encE_one (p : Place) : (encE p).all Value.oneCell' = true := rfl
theorem listB_next {L : List (List Place)} {i : Nat} {l : List Place} (hl : L[i]? = some l) : listB (L.take (i + 1)) = listB (L.take i) ++ l.filter (fun p => p.used) := by
  obtain ⟨hi, rfl⟩ := List.getElem?_eq_some_iff.1 hl
  unfold listB
  rw [List.take_succ_eq_append_getElem hi, List.flatMap_append]
  simp only [List.flatMap_cons, List.flatMap_nil, List.append_nil]
theorem filt_next {l : List Place} {j : Nat} {p : Place} (hp : l[j]? = some p) : (l.take (j + 1)).filter (fun p => p.used) = (l.take j).filter (fun p => p.used) ++ (if p.used = true then [p] else []) := by
  obtain ⟨hi, rfl⟩ := List.getElem?_eq_some_iff.1 hp
  rw [List.take_succ_eq_append_getElem hi, List.filter_append]
  simp [List.filter_cons]
theorem kList_spec (o : s.Ok) (B : Bok s L) (H : BkP base h b tb s L) :
    HCalls Tryz.prog 114 #[.pointer (some ⟨b, 0, none⟩)] h (fun v h' => ∃ A' c', v = .slice A' (listB L).length c' ∧ OwnA encE 5 165 h.size h' A' c' (listB L) ∧ Ext h h') := by
  have hL := B.len
  have hm := o.many
  obtain ⟨c0, c1, _, ⟨cap, _, c3⟩, _⟩ := H.cells
  refine xcalls env0 Tryz.func114 rfl (by kernel_rfl) rfl (by kernel_rfl) ?_
  refine ⟨_, c3, ?_⟩
  refine ⟨Nat × Option Addr × Nat, fun z => [(3, .slice z.2.1 (listB (L.take z.1)).length z.2.2), (13, .slice (some ⟨tb, 0, none⟩) L.length cap), (14, .int .i64 L.length), (15, .int .i64 z.1)],
    fun z h' => z.1 ≤ L.length ∧ OwnA encE 5 165 h.size h' z.2.1 z.2.2 (listB (L.take z.1)) ∧ Ext h h' ∧ (listB (L.take z.1)).length ≤ 8 * z.1, fun z => L.length - z.1, (0, none, 0), ⟨rfl, rfl, rfl, rfl, trivial⟩, ⟨Nat.zero_le _, .inl ⟨rfl, rfl, rfl⟩, Ext.refl _, Nat.le_refl _⟩, ?_⟩
  rintro ⟨i, C, d⟩ h2 ⟨hi, own2, x2, len2⟩
  simp only at hi own2 len2
  refine xif_of (fun hlt => ?_) (fun hge => ?_)
  · have hlt : (i : Int) < L.length := of_decide_eq_true hlt
    obtain ⟨l, hl⟩ : ∃ l, L[i]? = some l := ⟨L[i]'(by omega), List.getElem?_eq_getElem (by omega)⟩
    have h8 := sl_small o (B.each l (List.mem_of_getElem? hl))
    obtain ⟨A, c, hc, own⟩ := H.bucket hl
    refine ⟨_, rfl, by omega, (by show (i : Int) < L.length; omega), _, x2.cell (cell_ix hc), ?_⟩
    refine ⟨Nat × Option Addr × Nat, fun z => [(3, .slice z.2.1 (listB (L.take i) ++ (l.take z.1).filter (fun p => p.used)).length z.2.2), (13, .slice (some ⟨tb, 0, none⟩) L.length cap), (14, .int .i64 L.length), (15, .int .i64 i), (19, .slice A l.length c), (20, .int .i64 l.length), (21, .int .i64 z.1)],
      fun z h' => z.1 ≤ l.length ∧ OwnA encE 5 165 h.size h' z.2.1 z.2.2 (listB (L.take i) ++ (l.take z.1).filter (fun p => p.used)) ∧ Ext h h' ∧ ((l.take z.1).filter (fun p => p.used)).length ≤ z.1, fun z => l.length - z.1, (0, C, d), ⟨congrArg (fun n => some (Value.slice C n d)) (by simp), rfl, rfl, rfl, rfl, rfl, rfl, trivial⟩, ⟨Nat.zero_le _, by simpa using own2, x2, Nat.le_refl _⟩, ?_⟩
    rintro ⟨j, E, e⟩ h3 ⟨hj, own3, x3, len3⟩
    simp only at hj own3 len3
    refine xif_of (fun hlt => ?_) (fun hge => ?_)
    · have hlt : (j : Int) < l.length := of_decide_eq_true hlt
      obtain ⟨p, hp⟩ : ∃ p, l[j]? = some p := ⟨l[j]'(by omega), List.getElem?_eq_getElem (by omega)⟩
      have fn := filt_next hp
      obtain ⟨a, rfl, hrd⟩ := ((own.ext x3).row encP_len) j p hp
      refine ⟨_, rfl, by omega, (by show (j : Int) < l.length; omega), encP p, rfl, hrd, ?_⟩
      intro pb h4 n4
      refine ⟨rfl, rfl, canset_blk n4.this rfl, fun h5 s5 => ?_⟩
      have hpb : h5[pb]? = some (.cells (encP p).toArray 203 (0, 0)) := s5.put n4.this
      have x35 : Ext h3 h5 := (Ext.refl _ |>.trans n4.ext).stored s5 (n4.ge (Ext.refl _))
      refine ⟨.bool p.used, cell_blk hpb rfl, ?_⟩
      refine xif_of (fun hu => ?_) (fun hu => ?_)
      · rw [if_pos hu] at fn
        refine ⟨encE p, rfl, reads_at hpb rfl, ?_⟩
        intro eb h6 n6
        refine xappend_one (x := p) entInfo entZero rfl (by decide) encE_len encE_one (own3.ext x35) n6 rfl ?_ ?_ fun A' c' h' oo k => ?_
        · show ((listB (L.take i) ++ (l.take j).filter (fun p => p.used)).length + 1) * 32 ≤ 140737488355328
          rw [List.length_append]; omega
        · exact (x3.trans x35).size
        · rw [List.append_assoc, ← fn] at oo
          refine ⟨(j + 1, A', c'), ⟨congrArg (fun n => some (Value.slice A' n c')) (by rw [fn]; simp; omega), rfl, rfl, rfl, rfl, rfl, slot_inc (by omega), trivial⟩, ⟨by show j + 1 ≤ l.length; omega, oo, ?_, by show ((l.take (j + 1)).filter _).length ≤ j + 1; rw [fn]; simp; omega⟩, by show l.length - (j + 1) < l.length - j; omega⟩
          exact k.ext (x3.trans x35) own3.ge
      · rw [if_neg (by simp [hu]), List.append_nil] at fn
        refine ⟨(j + 1, E, e), ⟨congrArg (fun n => some (Value.slice E n e)) (by rw [fn]), rfl, rfl, rfl, rfl, rfl, slot_inc (by omega), trivial⟩, ⟨by show j + 1 ≤ l.length; omega, by show OwnA _ _ _ _ _ _ _ (_ ++ (l.take (j + 1)).filter _); rw [fn]; exact own3.ext x35, x3.trans x35, by show ((l.take (j + 1)).filter _).length ≤ j + 1; rw [fn]; omega⟩, by show l.length - (j + 1) < l.length - j; omega⟩
    · have hge : ¬ (j : Int) < l.length := of_decide_eq_false hge
      rw [List.take_of_length_le (show l.length ≤ j by omega)] at own3 len3
      have ln := listB_next hl
      rw [← ln] at own3
      refine ⟨(i + 1, E, e), ⟨congrArg (fun n => some (Value.slice E n e)) (by rw [ln, List.take_of_length_le (show l.length ≤ j by omega)]), rfl, rfl, slot_inc (by omega), trivial⟩, ⟨by show i + 1 ≤ L.length; omega, own3, x3, by show (listB (L.take (i + 1))).length ≤ 8 * (i + 1); rw [ln, List.length_append]; omega⟩, by show L.length - (i + 1) < L.length - i; omega⟩
  · have hge : ¬ (i : Int) < L.length := of_decide_eq_false hge
    rw [List.take_of_length_le (by omega)] at own2
    exact ⟨C, d, congrArg (fun n => Value.slice C n d) (by rw [List.take_of_length_le (by omega)]), own2, x2⟩
theorem kWithin_spec (n m : Int) (h : Heap) : HCalls Tryz.prog 125 #[.int .i64 n, .int .i64 m] h (fun v h' => v = .bool (decide (1 ≤ n ∧ n ≤ m)) ∧ h' = h) := by
  refine xcalls env0 Tryz.func125 rfl (by kernel_rfl) rfl (by kernel_rfl) ?_
  refine xif_of (fun q => ?_) (fun q => ?_)
  · have q : n ≥ 1 := of_decide_eq_true q
    exact ⟨congrArg Value.bool (by rw [Bool.eq_iff_iff]; simp; omega), rfl⟩
  · have q : ¬ n ≥ 1 := of_decide_eq_false q
    exact ⟨congrArg Value.bool (by rw [Bool.eq_iff_iff]; simp; omega), rfl⟩
def rightM (s : Sz) : Bool := decide (1 ≤ s.sh ∧ s.sh ≤ 8) && (decide (1 ≤ s.bk ∧ s.bk ≤ 16) && decide (1 ≤ s.sl ∧ s.sl ≤ 8))
theorem rightM_ok {s : Sz} : rightM s = true ↔ s.Ok := by
  simp only [rightM, Bool.and_eq_true, decide_eq_true_eq]
  exact ⟨fun ⟨⟨a, b⟩, ⟨c, d⟩, e, f⟩ => ⟨a, b, c, d, e, f⟩, fun o => ⟨⟨o.sh1, o.sh2⟩, ⟨o.bk1, o.bk2⟩, o.sl1, o.sl2⟩⟩
theorem kRight_spec (s : Sz) (h : Heap) : HCalls Tryz.prog 93 #[.agg #[.int .i64 s.sh, .int .i64 s.bk, .int .i64 s.sl]] h (fun v h' => v = .bool (rightM s) ∧ Ext h h') := by
  refine xcalls env0 Tryz.func93 rfl (by kernel_rfl) rfl (by kernel_rfl) ?_
  intro zb h1 n1
  refine ⟨_, cell_blk n1.this rfl, ?_⟩
  refine (kWithin_spec _ _ _).mono ?_
  rintro v h2 ⟨rfl, rfl⟩
  refine xif_of (fun q1 => ?_) (fun q1 => ?_)
  · refine ⟨_, cell_blk n1.this rfl, ?_⟩
    refine (kWithin_spec _ _ _).mono ?_
    rintro v h3 ⟨rfl, rfl⟩
    refine xif_of (fun q2 => ?_) (fun q2 => ?_)
    · refine ⟨_, cell_blk n1.this rfl, ?_⟩
      refine (kWithin_spec _ _ _).mono ?_
      rintro v h4 ⟨rfl, rfl⟩
      exact ⟨congrArg Value.bool (by rw [rightM, q1, q2]; rfl), n1.ext⟩
    · exact ⟨congrArg Value.bool (by rw [rightM, q1, q2]; rfl), n1.ext⟩
  · exact ⟨congrArg Value.bool (by rw [rightM, q1]; rfl), n1.ext⟩
theorem slInfo : (Tryz.prog.info? 156).map (fun i => (i.size, i.bytes)) = some (1, 24) := by kernel_rfl
theorem slZero : xzero Tryz.prog 156 = some [.slice none 0 0] := by kernel_rfl
theorem kNew_bad {s : Sz} (o : rightM s = false) : HCalls Tryz.prog 39 #[.agg #[.int .i64 s.sh, .int .i64 s.bk, .int .i64 s.sl]] h (fun v h' => v = .tuple #[.pointer none, .int .i64 1] ∧ Ext h h') := by
  refine xcalls env_kNew Tryz.func39 rfl (by kernel_rfl) rfl (by kernel_rfl) ?_
  intro zb h1 n1
  refine ⟨_, rfl, reads_all n1.this, ?_⟩
  refine (kRight_spec s _).mono ?_
  rintro v h2 ⟨rfl, x2⟩
  refine xif_of (fun _ => ?_) (fun q => absurd q (by simp [o]))
  exact ⟨rfl, n1.ext.trans x2⟩
theorem kNew_spec (o : s.Ok) : HCalls Tryz.prog 39 #[.agg #[.int .i64 s.sh, .int .i64 s.bk, .int .i64 s.sl]] h (fun v h' => ∃ b tb, v = .tuple #[.pointer (some ⟨b, 0, none⟩), .int .i64 0] ∧ BkP h.size h' b tb s (List.replicate (s.sh * s.bk).toNat (List.replicate s.sl.toNat Place.none)) ∧ Ext h h') := by
  have hm := o.many
  have o5 := o.sl1
  have o6 := o.sl2
  refine xcalls env_kNew Tryz.func39 rfl (by kernel_rfl) rfl (by kernel_rfl) ?_
  intro zb h1 n1
  refine ⟨_, rfl, reads_all n1.this, ?_⟩
  refine (kRight_spec s _).mono ?_
  rintro v h2 ⟨rfl, x2⟩
  have hz := x2.blk n1.this
  refine xif_of (fun q => absurd q (by simp [rightM_ok.2 o])) (fun _ => ?_)
  refine ⟨_, rfl, reads_all hz, ?_⟩
  intro b h3 n3
  have hz := n3.ext.blk hz
  have x03 := n1.ext.trans (x2.trans n3.ext)
  refine ⟨_, cell_blk hz rfl, _, cell_blk hz rfl, ?_⟩
  refine ⟨Nat × Option Addr × Nat, fun z => [(1, .pointer (some ⟨zb, 0, none⟩)), (4, .pointer (some ⟨b, 0, none⟩)), (15, .int .i64 (s.sh * s.bk)), (16, .int .i64 z.1)],
    fun z h' => (z.1 : Int) ≤ s.sh * s.bk ∧ BkO 183 156 203 h.size h' b z.2.1 z.2.2 s (List.replicate z.1 (List.replicate s.sl.toNat Place.none)) ∧ Ext h h' ∧ h'[zb]? = some (.cells [.int .i64 s.sh, .int .i64 s.bk, .int .i64 s.sl].toArray 37 (0, 0)), fun z => (s.sh * s.bk).toNat - z.1, (0, none, 0), ⟨rfl, rfl, congrArg (fun z => some (Value.int .i64 z)) (wrap_i64 (by omega) (by omega)), rfl, trivial⟩, ⟨by show ((0 : Nat) : Int) ≤ _; omega, BkO.start n3 (n1.ext.trans x2).size, x03, hz⟩, ?_⟩
  rintro ⟨i, A, cap⟩ h4 ⟨hi, H4, x4, hz4⟩
  simp only at hi H4
  refine xif_of (fun hlt => ?_) (fun hge => ?_)
  · have hlt : (i : Int) < s.sh * s.bk := of_decide_eq_true hlt
    have c3 := H4.c3
    refine ⟨_, c3, _, cell_blk hz4 rfl, by omega, by omega, (by show ((40 : Nat) : Int) * s.sl ≤ _; omega), by omega, ?_⟩
    intro pb h5 n5
    have own5 : OwnA encP 6 203 h.size h5 (some ⟨pb, 0, none⟩) s.sl.toNat (List.replicate s.sl.toNat Place.none) := OwnA.made (z := Place.none) s.sl.toNat n5 rfl x4.size
    refine ⟨⟨n5.ext.cell c3, trivial⟩, ?_⟩
    intro bs h6 n6
    refine ⟨⟨n6.ext.cell (n5.ext.cell c3), trivial⟩, ?_⟩
    refine (H4.ext n5.ext).more slInfo slZero rfl (by decide) (by decide) (by decide) (by decide) (by decide) (by simp) own5 n6 (by simp; omega) fun A2 c2 h7 cs fr ex st => ?_
    refine ⟨rfl, rfl, cs, fun h8 s8 => ?_⟩
    have H8 := st h8 s8
    rw [← List.replicate_succ'] at H8
    have hz7 := fr _ _ _ _ (n5.ext.blk hz4) (by decide)
    have zne : zb ≠ b := H4.ne hz4 (by decide)
    exact ⟨(i + 1, A2, c2), ⟨rfl, rfl, rfl, slot_inc (by omega), trivial⟩, ⟨by show ((i + 1 : Nat) : Int) ≤ s.sh * s.bk; omega, H8, (ex h (Nat.le_refl _) (x4.trans n5.ext)).stored s8 H4.ge, s8.blk hz7 zne⟩, by show (s.sh * s.bk).toNat - (i + 1) < (s.sh * s.bk).toNat - i; omega⟩
  · have hge : ¬ (i : Int) < s.sh * s.bk := of_decide_eq_false hge
    have e : (s.sh * s.bk).toNat = i := by omega
    obtain ⟨tb, rfl, H5⟩ := H4.done (by rw [← e]; simp; omega)
    exact ⟨b, tb, rfl, by rw [e]; exact H5, x4⟩
theorem kCopy_spec (o : s.Ok) (B : Bok s L) (H : BkP base h b tb s L) : HCalls Tryz.prog 76 #[.pointer (some ⟨b, 0, none⟩)] h (fun v h' => ∃ b' tb', v = .pointer (some ⟨b', 0, none⟩) ∧ BkP h.size h' b' tb' s L ∧ Ext h h') := by
  have hL := B.len
  have hm := o.many
  obtain ⟨_, _, _, ⟨cap, _, c3⟩, rd⟩ := H.cells
  refine xcalls env_kCopy Tryz.func76 rfl (by kernel_rfl) rfl (by kernel_rfl) ?_
  refine ⟨_, rfl, rd, ?_⟩
  intro b' h1 n1
  refine ⟨_, n1.ext.cell c3, ?_⟩
  refine ⟨Nat × Option Addr × Nat, fun z => [(3, .pointer (some ⟨b', 0, none⟩)), (17, .slice (some ⟨tb, 0, none⟩) L.length cap), (18, .int .i64 L.length), (19, .int .i64 z.1)],
    fun z h' => z.1 ≤ L.length ∧ BkO 183 156 203 h.size h' b' z.2.1 z.2.2 s (L.take z.1) ∧ Ext h h', fun z => L.length - z.1, (0, none, 0), ⟨rfl, rfl, rfl, rfl, trivial⟩, ⟨Nat.zero_le _, BkO.start n1 (Nat.le_refl _), n1.ext⟩, ?_⟩
  rintro ⟨i, A, ca⟩ h4 ⟨hi, H4, x4⟩
  simp only at hi H4
  refine xif_of (fun hlt => ?_) (fun hge => ?_)
  · have hlt : (i : Int) < L.length := of_decide_eq_true hlt
    obtain ⟨l, hl⟩ : ∃ l, L[i]? = some l := ⟨L[i]'(by omega), List.getElem?_eq_getElem (by omega)⟩
    have h8 := sl_small o (B.each l (List.mem_of_getElem? hl))
    obtain ⟨C, c, hc, own⟩ := (H.ext x4).bucket hl
    have c4 := H4.c3
    refine ⟨_, rfl, by omega, (by show (i : Int) < L.length; omega), _, cell_ix hc, _, c4, ?_⟩
    refine (kClone_spec own h8).mono ?_
    rintro v h5 ⟨C', c', rfl, own5, x5⟩
    refine ⟨⟨x5.cell c4, trivial⟩, ?_⟩
    intro bs h6 n6
    refine ⟨⟨n6.ext.cell (x5.cell c4), trivial⟩, ?_⟩
    refine (H4.ext x5).more slInfo slZero rfl (by decide) (by decide) (by decide) (by decide) (by decide) rfl (own5.mono x4.size) n6 (by simp; omega) fun A2 c2 h7 cs fr ex st => ?_
    refine ⟨rfl, rfl, cs, fun h8 s8 => ?_⟩
    have H8 := st h8 s8
    rw [take_next hl] at H8
    exact ⟨(i + 1, A2, c2), ⟨rfl, rfl, rfl, slot_inc (by omega), trivial⟩, ⟨by show i + 1 ≤ L.length; omega, H8, (ex h (Nat.le_refl _) (x4.trans x5)).stored s8 H4.ge⟩, by show L.length - (i + 1) < L.length - i; omega⟩
  · have hge : ¬ (i : Int) < L.length := of_decide_eq_false hge
    rw [List.take_of_length_le (by omega)] at H4
    obtain ⟨tb', rfl, H5⟩ := H4.done (by rintro rfl; simp at hL; omega)
    exact ⟨b', tb', rfl, H5, x4⟩
end
end Go.Proofs.YtgiofdiifkahoaaGreatE
