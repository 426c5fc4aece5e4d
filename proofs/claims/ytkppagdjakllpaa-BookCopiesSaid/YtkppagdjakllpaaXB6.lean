/- The helpers of layer 11's laws: what is done to a book, a book's entries, told. Conditions: the arguments are of their types. -/
import Derived.Test.YtkppagdjakllpaaXB5
set_option linter.unusedVariables false
set_option linter.unusedSimpArgs false
set_option maxRecDepth 100000
namespace Go.Proofs.YtkppagdjakllpaaE
open Go Go.Proofs
def env_lEntries : Nat → Ann
  | 6 => ⟨.op 0 [] <| .op 1 [] <| .op 2 [] <| .op 3 [] <| .op 4 [] <| .op 5 [] <| .op 6 [] <| .op 7 [] <| .op 8 [] <| .nil, [0, 0, 3, 7, 0, 0, 48, 112, 255], false⟩
  | _ => ⟨.nil, [], false⟩
section
variable {base b tb : Nat} {s : Sz} {L : List (List Place)} {h : Heap}
theorem lSize_spec (s : Sz) (h : Heap) : HCalls Try.prog 37 #[.agg #[.int .i64 s.sh, .int .i64 s.bk, .int .i64 s.sl]] h (fun v h' => v = .agg #[.int .i64 s.sh, .int .i64 s.bk, .int .i64 s.sl] ∧ Ext h h') := by
  refine xcalls env0 Try.func37 rfl (by kernel_rfl) rfl (by kernel_rfl) ?_
  intro zb h1 n1 rb h2 n2
  have hz := n2.ext.blk n1.this
  refine ⟨_, cell_blk hz rfl, _, cell_blk hz rfl, _, cell_blk hz rfl, rfl, rfl, canset_blk n2.this rfl, fun h3 s3 => ?_⟩
  have hr : h3[rb]? = some (.cells [.int .i64 s.sh, .int .i64 s.bk, .int .i64 s.sl].toArray 88 (0, 0)) := s3.put n2.this
  exact ⟨_, rfl, reads_all hr, rfl, (n1.ext.trans n2.ext).stored s3 (n2.ge n1.ext)⟩
theorem kind_eq (k : Int) : IntKind.i64.wrap ((IntKind.u64.wrap k).tmod 7) = k % 18446744073709551616 % 7 := by
  rw [IntKind.wrap_u64, Int.tmod_eq_emod_of_nonneg (by omega), wrap_i64 (by omega) (by omega)]
theorem lDo_spec (o : s.Ok) (B : Bok s L) (H : BkP base h b tb s L) {x : OpR} (w : x.Wf) :
    HCalls Try.prog 39 #[.pointer (some ⟨b, 0, none⟩), .agg (encO7 x).toArray] h (fun v h' => v = .int .i64 (doB s L x).2 ∧ BkP base h' b tb s (doB s L x).1 ∧ KeepA (some ⟨tb, 0, none⟩) h h') := by
  have kk := kind_eq x.kind
  have ck : ∀ {c : Int} {r : Bool}, (IntKind.i64.wrap ((IntKind.u64.wrap x.kind).tmod 7) == c) = r → (x.k == c) = r := fun {c r} q => by rw [kk] at q; exact q
  refine xcalls env0 Try.func39 rfl (by kernel_rfl) rfl (by kernel_rfl) ?_
  intro ob h1 n1
  have hob1 : h1[ob]? = some (.cells (encO7 x).toArray 82 (0, 0)) := n1.this
  refine ⟨[.int .i64 x.vid, .int .u64 x.mac], rfl, reads_at hob1 rfl, ?_⟩
  refine (l8To_spec _ _ _).mono ?_
  rintro v h2 ⟨rfl, x2⟩
  intro kb h3 n3
  refine ⟨rfl, rfl, canset_blk n3.this rfl, fun h4 s4 => ?_⟩
  have hkb : h4[kb]? = some (.cells [.int .i64 x.vid, .int .u64 x.mac].toArray 36 (0, 0)) := s4.put n3.this
  have x03 := n1.ext.trans (x2.trans n3.ext)
  have x04 := x03.stored s4 (n3.ge (n1.ext.trans x2))
  have hob : h4[ob]? = some (.cells (encO7 x).toArray 82 (0, 0)) := s4.blk (n3.ext.blk (x2.blk hob1)) (by have := n3.lt (x2.blk hob1); exact Nat.ne_of_lt this)
  have H4 := H.ext x04
  have k04 := x04.keepA (some ⟨tb, 0, none⟩)
  refine ⟨_, cell_blk hob rfl, by decide, ?_⟩
  refine xif_of (fun q => ?_) (fun q => ?_)
  · have q := ck q
    refine ⟨_, rfl, reads_all hkb, ?_⟩
    refine (kLookup_spec o B H4 w.key).mono ?_
    rintro v h5 ⟨rfl, x5⟩
    have e : doB s L x = (L, lookB s L x.vid x.mac) := by unfold doB; rw [if_pos (by simpa using q)]
    rw [e]
    exact ⟨rfl, H4.ext x5, k04.trans (x5.keepA _)⟩
  have q0 := ck q
  refine xif_of (fun q => ?_) (fun q => ?_)
  · have q := ck q
    refine ⟨_, rfl, reads_all hkb, _, cell_blk hob rfl, _, cell_blk hob rfl, ?_⟩
    refine (kOrder_spec o B H4 w.key).mono ?_
    rintro v h5 ⟨rfl, H5, k5⟩
    have e : doB s L x = orderB s L x.vid x.mac x.port x.now := by unfold doB; rw [if_neg (by simpa using q0), if_pos (by simpa using q)]
    rw [e]
    exact ⟨rfl, H5, k04.trans k5⟩
  have q3 := ck q
  refine xif_of (fun q => ?_) (fun q => ?_)
  · have q := ck q
    refine ⟨_, rfl, reads_all hkb, ?_⟩
    refine (kDrop_spec o B H4 w.key).mono ?_
    rintro v h5 ⟨rfl, H5, k5⟩
    have e : doB s L x = ((dropB s L x.vid x.mac).1, if (dropB s L x.vid x.mac).2 = true then 1 else 0) := by unfold doB; rw [if_neg (by simpa using q0), if_neg (by simpa using q3), if_pos (by simpa using q)]
    rw [e]
    refine xif_of (fun d => ?_) (fun d => ?_)
    · exact ⟨by rw [if_pos d]; rfl, H5, k04.trans k5⟩
    · exact ⟨by rw [if_neg (by simp [d])]; rfl, H5, k04.trans k5⟩
  have q4 := ck q
  refine xif_of (fun q => ?_) (fun q => ?_)
  · have q := ck q
    refine ⟨_, cell_blk hob rfl, _, cell_blk hob rfl, _, cell_blk hob rfl, _, cell_blk hob rfl, ?_⟩
    refine (kAge_spec o B H4 _ _ _ _).mono ?_
    rintro v h5 ⟨rfl, H5, k5⟩
    have e : doB s L x = ageB s L x.port x.vlan x.now x.old := by unfold doB; rw [if_neg (by simpa using q0), if_neg (by simpa using q3), if_neg (by simpa using q4), if_pos (by simpa using q)]
    rw [e]
    exact ⟨rfl, H5, k04.trans k5⟩
  have q5 := ck q
  refine xif_of (fun q => ?_) (fun q => ?_)
  · have q := ck q
    refine ⟨_, cell_blk hob rfl, _, cell_blk hob rfl, ?_⟩
    refine (kFlush_spec o B H4 _ _).mono ?_
    rintro v h5 ⟨rfl, H5, k5⟩
    have e : doB s L x = flushB L x.port x.vlan := by unfold doB; rw [if_neg (by simpa using q0), if_neg (by simpa using q3), if_neg (by simpa using q4), if_neg (by simpa using q5), if_pos (by simpa using q)]
    rw [e]
    exact ⟨rfl, H5, k04.trans k5⟩
  · have q6 := ck q
    refine ⟨_, rfl, reads_all hkb, _, cell_blk hob rfl, _, cell_blk hob rfl, ?_⟩
    refine (kLearn_spec o B H4 w.key).mono ?_
    rintro v h5 ⟨rfl, H5, k5⟩
    have e : doB s L x = learnB s L x.vid x.mac x.port x.now := by unfold doB; rw [if_neg (by simpa using q0), if_neg (by simpa using q3), if_neg (by simpa using q4), if_neg (by simpa using q5), if_neg (by simpa using q6)]
    rw [e]
    exact ⟨rfl, H5, k04.trans k5⟩
theorem lWant_spec (o : s.Ok) (B : Bok s L) (H : BkR base h b tb s L) {x : OpR} (w : x.Wf) :
    HCalls Try.prog 43 #[.pointer (some ⟨b, 0, none⟩), .agg (encO7 x).toArray] h (fun v h' => v = .int .i64 (doB s L x).2 ∧ BkR base h' b tb s (doB s L x).1 ∧ KeepA (some ⟨tb, 0, none⟩) h h') := by
  have kk := kind_eq x.kind
  have ck : ∀ {c : Int} {r : Bool}, (IntKind.i64.wrap ((IntKind.u64.wrap x.kind).tmod 7) == c) = r → (x.k == c) = r := fun {c r} q => by rw [kk] at q; exact q
  refine xcalls env0 Try.func43 rfl (by kernel_rfl) rfl (by kernel_rfl) ?_
  intro ob h4 n1
  have hob : h4[ob]? = some (.cells (encO7 x).toArray 82 (0, 0)) := n1.this
  have H4 := H.ext n1.ext
  have k04 := n1.ext.keepA (some ⟨tb, 0, none⟩)
  have hkb : Reads h4 ⟨ob, 1, none⟩ [.int .i64 x.vid, .int .u64 x.mac] := reads_at hob rfl
  refine ⟨_, cell_blk hob rfl, by decide, ?_⟩
  refine xif_of (fun q => ?_) (fun q => ?_)
  · have q := ck q
    refine ⟨_, rfl, hkb, ?_⟩
    refine (rbLookup_spec o B H4 w.key).mono ?_
    rintro v h5 ⟨rfl, x5⟩
    have e : doB s L x = (L, lookB s L x.vid x.mac) := by unfold doB; rw [if_pos (by simpa using q)]
    rw [e]
    exact ⟨rfl, H4.ext x5, k04.trans (x5.keepA _)⟩
  have q0 := ck q
  refine xif_of (fun q => ?_) (fun q => ?_)
  · have q := ck q
    refine ⟨_, rfl, hkb, _, cell_blk hob rfl, _, cell_blk hob rfl, ?_⟩
    refine (rbOrder_spec o B H4 w.key w.now0 w.now1).mono ?_
    rintro v h5 ⟨rfl, H5, k5⟩
    have e : doB s L x = orderB s L x.vid x.mac x.port x.now := by unfold doB; rw [if_neg (by simpa using q0), if_pos (by simpa using q)]
    rw [e]
    exact ⟨rfl, H5, k04.trans k5⟩
  have q3 := ck q
  refine xif_of (fun q => ?_) (fun q => ?_)
  · have q := ck q
    refine ⟨_, rfl, hkb, ?_⟩
    refine (rbDrop_spec o B H4 w.key).mono ?_
    rintro v h5 ⟨rfl, H5, k5⟩
    have e : doB s L x = ((dropB s L x.vid x.mac).1, if (dropB s L x.vid x.mac).2 = true then 1 else 0) := by unfold doB; rw [if_neg (by simpa using q0), if_neg (by simpa using q3), if_pos (by simpa using q)]
    rw [e]
    refine xif_of (fun d => ?_) (fun d => ?_)
    · exact ⟨by rw [if_pos d]; rfl, H5, k04.trans k5⟩
    · exact ⟨by rw [if_neg (by simp [d])]; rfl, H5, k04.trans k5⟩
  have q4 := ck q
  refine xif_of (fun q => ?_) (fun q => ?_)
  · have q := ck q
    refine ⟨_, cell_blk hob rfl, _, cell_blk hob rfl, _, cell_blk hob rfl, _, cell_blk hob rfl, ?_⟩
    refine (rbAge_spec o B H4 _ _ w.now0 w.now1).mono ?_
    rintro v h5 ⟨rfl, H5, k5⟩
    have e : doB s L x = ageB s L x.port x.vlan x.now x.old := by unfold doB; rw [if_neg (by simpa using q0), if_neg (by simpa using q3), if_neg (by simpa using q4), if_pos (by simpa using q)]
    rw [e]
    exact ⟨rfl, H5, k04.trans k5⟩
  have q5 := ck q
  refine xif_of (fun q => ?_) (fun q => ?_)
  · have q := ck q
    refine ⟨_, cell_blk hob rfl, _, cell_blk hob rfl, ?_⟩
    refine (rbFlush_spec o B H4 _ _).mono ?_
    rintro v h5 ⟨rfl, H5, k5⟩
    have e : doB s L x = flushB L x.port x.vlan := by unfold doB; rw [if_neg (by simpa using q0), if_neg (by simpa using q3), if_neg (by simpa using q4), if_neg (by simpa using q5), if_pos (by simpa using q)]
    rw [e]
    exact ⟨rfl, H5, k04.trans k5⟩
  · have q6 := ck q
    refine ⟨_, rfl, hkb, _, cell_blk hob rfl, _, cell_blk hob rfl, ?_⟩
    refine (rbLearn_spec o B H4 w.key w.now0 w.now1).mono ?_
    rintro v h5 ⟨rfl, H5, k5⟩
    have e : doB s L x = learnB s L x.vid x.mac x.port x.now := by unfold doB; rw [if_neg (by simpa using q0), if_neg (by simpa using q3), if_neg (by simpa using q4), if_neg (by simpa using q5), if_neg (by simpa using q6)]
    rw [e]
    exact ⟨rfl, H5, k04.trans k5⟩
theorem lList_spec (o : s.Ok) (B : Bok s L) (H : BkP base h b tb s L) :
    HCalls Try.prog 47 #[.pointer (some ⟨b, 0, none⟩)] h (fun v h' => ∃ A' c', v = .slice A' (listB L).length c' ∧ OwnA encE 5 49 h.size h' A' c' (listB L) ∧ Ext h h') := by
  refine xcalls env0 Try.func47 rfl (by kernel_rfl) rfl (by kernel_rfl) ?_
  refine (kList_spec o B H).mono ?_
  rintro v h1 ⟨A, c, rfl, own1, x1⟩
  obtain ⟨E, hE⟩ : ∃ E, listB L = E := ⟨_, rfl⟩
  have hlen : E.length ≤ 2000 := by
    have h1 := own1
    have hm := o.many
    have hL := B.len
    rw [← hE, listB, List.length_flatMap]
    have : ∀ (M : List (List Place)), (∀ l ∈ M, l.length ≤ 8 ) → (M.map (fun l => (l.filter fun p => p.used).length)).sum ≤ 8 * M.length := by
      intro M
      induction M with
      | nil => intro _; simp
      | cons l M ih =>
        intro hM
        have h1 := ih fun l hl => hM l (by simp [hl])
        have h2 := hM l (by simp)
        have h3 := List.length_filter_le (fun p : Place => p.used) l
        simp only [List.map_cons, List.sum_cons, List.length_cons]
        omega
    have := this L fun l hl => sl_small o (B.each l hl)
    omega
  rw [hE] at own1
  rw [hE]
  refine ⟨Nat × Option Addr × Nat, fun z => [(3, .slice z.2.1 z.1 z.2.2), (4, .slice A E.length c), (5, .int .i64 z.1)],
    fun z h' => z.1 ≤ E.length ∧ OwnA encE 5 49 h.size h' z.2.1 z.2.2 (E.take z.1) ∧ Ext h h' ∧ OwnA encE 5 73 h.size h' A c E, fun z => E.length - z.1, (0, none, 0), ⟨rfl, rfl, rfl, trivial⟩, ⟨Nat.zero_le _, .inl ⟨rfl, rfl, rfl⟩, x1, own1⟩, ?_⟩
  rintro ⟨i, C, d⟩ h2 ⟨hi, own2, x2, ownE⟩
  simp only at hi own2
  refine xif_of (fun hlt => ?_) (fun hge => ?_)
  · have hlt : (i : Int) < E.length := of_decide_eq_true hlt
    obtain ⟨p, hp⟩ : ∃ p, E[i]? = some p := ⟨E[i]'(by omega), List.getElem?_eq_getElem (by omega)⟩
    obtain ⟨a, rfl, hrd⟩ := (ownE.row encE_len) i p hp
    refine ⟨_, rfl, by omega, hlt, encE p, rfl, hrd, ?_⟩
    refine (l9From_spec p _).mono ?_
    rintro v h3 ⟨rfl, x3⟩
    intro eb h4 n4
    have hl2 : (E.take i).length = i := by simp; omega
    refine xappend_one (x := p) entInfoR entZeroR rfl (by decide) encE_len encE_one (own2.ext x3) n4 hl2 (by omega) (x2.trans x3).size fun A' c' h' oo k => ?_
    rw [take_next hp] at oo
    refine ⟨(i + 1, A', c'), ⟨rfl, rfl, slot_inc (by omega), trivial⟩, ⟨by show i + 1 ≤ E.length; omega, oo, k.ext (x2.trans x3) own2.ge, ?_⟩, by show E.length - (i + 1) < E.length - i; omega⟩
    rcases (own2.ext x3) with ⟨e, _⟩ | ⟨b', rest, e, hg, hb, _⟩
    · rw [e] at k
      exact (ownE.ext x3).ext ⟨k.size, fun j hj => k.old j hj (by simp)⟩
    · rw [e] at k
      exact (ownE.ext x3).keep k hb (by decide)
  · have hge : ¬ (i : Int) < E.length := of_decide_eq_false hge
    have : i = E.length := by omega
    subst this
    rw [List.take_length] at own2
    exact ⟨C, d, rfl, own2, x2⟩
theorem lEntries_spec {A C : Option Addr} {c d : Nat} {E : List Place} (own : OwnA encE 5 49 base h A c E) {base' : Nat} (own' : OwnA encE 5 49 base' h C d E) (hn : E.length ≤ 1000000) :
    HCalls Try.prog 46 #[.slice A E.length c, .slice C E.length d] h (fun v h' => v = .bool true ∧ h' = h) := by
  refine xcalls env_lEntries Try.func46 rfl (by kernel_rfl) rfl (by kernel_rfl) ?_
  refine xif_of (fun q => absurd q (by simp)) (fun _ => ?_)
  refine ⟨Nat, fun i => [(0, .slice A E.length c), (1, .slice C E.length d), (5, .int .i64 i)], fun i h' => i ≤ E.length ∧ h' = h, fun i => E.length - i, 0, ⟨rfl, rfl, rfl, trivial⟩, ⟨Nat.zero_le _, rfl⟩, ?_⟩
  rintro i h2 ⟨hi, rfl⟩
  refine xif_of (fun hlt => ?_) (fun hge => ?_)
  · have hlt : (i : Int) < E.length := of_decide_eq_true hlt
    obtain ⟨p, hp⟩ : ∃ p, E[i]? = some p := ⟨E[i]'(by omega), List.getElem?_eq_getElem (by omega)⟩
    obtain ⟨a1, ha1, rd1⟩ := (own.row encE_len) i p hp
    obtain ⟨a2, ha2, rd2⟩ := (own'.row encE_len) i p hp
    refine ⟨a1, ha1, by omega, hlt, encE p, rfl, rd1, a2, ha2, by omega, hlt, encE p, rfl, rd2, ?_⟩
    refine xeq_of (eqEntRG p) (eqEntR p p) ?_
    refine xif_of (fun q => absurd q (by simp)) (fun _ => ?_)
    exact ⟨i + 1, ⟨rfl, rfl, slot_inc (by omega), trivial⟩, ⟨by omega, rfl⟩, by show E.length - (i + 1) < E.length - i; omega⟩
  · exact ⟨rfl, rfl⟩
theorem one_ok : (⟨1, 1, 1⟩ : Sz).Ok := ⟨by decide, by decide, by decide, by decide, by decide, by decide⟩
theorem one_ix (vid mac : Int) : ixM ⟨1, 1, 1⟩ vid mac = 0 := by
  have := ixM_range one_ok vid mac
  have h : (⟨1, 1, 1⟩ : Sz).sh * (⟨1, 1, 1⟩ : Sz).bk = 1 := rfl
  omega
theorem told11_1 : learnB ⟨1, 1, 1⟩ [[Place.none]] 1 2 3 5 = ([[⟨true, 1, 2, 3, false, 5⟩]], 3) := by
  rw [learnB, one_ix]; decide
theorem told11_2 : lookB ⟨1, 1, 1⟩ [[⟨true, 1, 2, 3, false, 5⟩]] 1 2 = 3 := by
  rw [lookB, one_ix]; decide
theorem told11_3 : learnB ⟨1, 1, 1⟩ [[⟨true, 1, 2, 3, false, 5⟩]] 1 4 1 6 = ([[⟨true, 1, 4, 1, false, 6⟩]], 4) := by
  rw [learnB, one_ix]; decide
theorem told11_4 : lookB ⟨1, 1, 1⟩ [[⟨true, 1, 4, 1, false, 6⟩]] 1 2 = -1 := by
  rw [lookB, one_ix]; decide
theorem KeepA.ext2 {A : Option Addr} {h0 h h' : Heap} {t : Nat} (k : KeepA (some ⟨t, 0, none⟩) h h') (x : Ext h0 h) (ht : h0.size ≤ t) : Ext h0 h' := k.ext x fun b e => by cases e; exact ht
theorem told11_spec (h : Heap) : HCalls Try.prog 38 #[] h (fun v h' => v = .bool true ∧ Ext h h') := by
  have o := one_ok
  have k2 : KeyWf 1 2 := ⟨by decide, by decide, by decide, by decide⟩
  have k4 : KeyWf 1 4 := ⟨by decide, by decide, by decide, by decide⟩
  have B0 : Bok ⟨1, 1, 1⟩ [[Place.none]] := bok_new o
  have B1 := bok_upd (s := ⟨1, 1, 1⟩) B0 (i := ixM ⟨1, 1, 1⟩ 1 2) (f := fun l => learnM l 1 2 3 5) (ixM_range o 1 2).1 (ixM_range o 1 2).2 (fun l => learnM_len _ _ _ _ _) fun l h => learnM_wf h k2 (by decide) (by decide)
  rw [show updB [[Place.none]] (ixM ⟨1, 1, 1⟩ 1 2) (fun l => learnM l 1 2 3 5) = _ from told11_1] at B1
  have B2 := bok_upd (s := ⟨1, 1, 1⟩) B1 (i := ixM ⟨1, 1, 1⟩ 1 4) (f := fun l => learnM l 1 4 1 6) (ixM_range o 1 4).1 (ixM_range o 1 4).2 (fun l => learnM_len _ _ _ _ _) fun l h => learnM_wf h k4 (by decide) (by decide)
  rw [show updB [[(⟨true, 1, 2, 3, false, 5⟩ : Place)]] (ixM ⟨1, 1, 1⟩ 1 4) (fun l => learnM l 1 4 1 6) = _ from told11_3] at B2
  refine xcalls env0 Try.func38 rfl (by kernel_rfl) rfl (by kernel_rfl) ?_
  refine (kNew_spec (s := ⟨1, 1, 1⟩) o).mono ?_
  rintro v h1 ⟨b, tb, rfl, H1', x1⟩
  have H1 : BkP h.size h1 b tb ⟨1, 1, 1⟩ [[Place.none]] := H1'
  have ht := H1.table.1
  refine (l8To_spec 1 2 _).mono ?_
  rintro v h2 ⟨rfl, x2⟩
  intro kb h3 n3
  refine ⟨rfl, rfl, canset_blk n3.this rfl, fun h4 s4 => ?_⟩
  have hkb : h4[kb]? = some (.cells [.int .i64 1, .int .u64 2].toArray 36 (0, 0)) := s4.put n3.this
  have x14 : Ext h1 h4 := (x2.trans n3.ext).stored s4 (n3.ge x2)
  have H4 := H1.ext x14
  have hne : kb ≠ tb := by
    obtain ⟨_, cx, hx⟩ := H1.table
    have := n3.lt (x2.blk hx)
    omega
  refine ⟨_, rfl, reads_all hkb, ?_⟩
  refine (kLearn_spec o B0 H4 k2).mono ?_
  rintro v h5 ⟨rfl, H5, kp5⟩
  rw [told11_1] at H5
  have hkb5 := kp5.blk hkb (by rintro ⟨⟩; exact hne rfl)
  have x5 := KeepA.ext2 (A := none) kp5 (x1.trans x14) ht
  refine ⟨_, rfl, reads_all hkb5, ?_⟩
  refine (kLookup_spec o B1 H5 k2).mono ?_
  rintro v h6 ⟨rfl, x6⟩
  rw [told11_2]
  refine (l8To_spec 1 4 _).mono ?_
  rintro v h7 ⟨rfl, x7⟩
  have H7 := (H5.ext x6).ext x7
  refine (kLearn_spec o B1 H7 k4).mono ?_
  rintro v h8 ⟨rfl, H8, kp8⟩
  rw [told11_3] at H8
  have hkb8 := kp8.blk (x7.blk (x6.blk hkb5)) (by rintro ⟨⟩; exact hne rfl)
  have x8 := KeepA.ext2 (A := none) kp8 (x5.trans (x6.trans x7)) ht
  refine ⟨_, rfl, reads_all hkb8, ?_⟩
  refine (kLookup_spec o B2 H8 k2).mono ?_
  rintro v h9 ⟨rfl, x9⟩
  rw [told11_4]
  refine (kList_spec o B2 (H8.ext x9)).mono ?_
  rintro v h10 ⟨C, d, rfl, _, x10⟩
  exact ⟨rfl, x8.trans (x9.trans x10)⟩
end
end Go.Proofs.YtkppagdjakllpaaE
