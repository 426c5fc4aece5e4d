/- What the laws BookKnows and BookApart answer: yes. Conditions: the arguments are of their types. -/
import Derived.Test.YtkppagdjakllpaaXB6
import Derived.Test.YtkppagdjakllpaaXM12
set_option linter.unusedVariables false
set_option linter.unusedSimpArgs false
set_option maxRecDepth 100000
namespace Go.Proofs.YtkppagdjakllpaaE
open Go Go.Proofs
def env_lKnows : Nat → Ann
  | 9 => ⟨.nil, [], true⟩
  | _ => ⟨.nil, [], false⟩
def env_lApart : Nat → Ann
  | 9 => ⟨.nil, [], true⟩
  | 18 => ⟨.op 0 [] <| .op 1 [] <| .op 2 [] <| .op 3 [] <| .op 4 [] <| .op 5 [] <| .op 6 [] <| .op 7 [] <| .op 8 [] <| .op 9 [] <| .op 10 [] <| .op 11 [] <| .op 12 [] <| .op 13 [] <| .op 14 [] <| .op 15 [] <| .op 16 [] <| .op 17 [] <| .op 20 [] <| .op 21 [] <| .op 22 [] <| .op 23 [] <| .op 24 [] <| .op 25 [] <| .op 26 [] <| .op 27 [] <| .op 28 [] <| .op 18 [23, 27] <| .op 19 [23, 27] <| .op 29 [] <| .op 30 [] <| .op 31 [] <| .op 32 [] <| .op 33 [] <| .nil, [0, 0, 0, 4, 14, 0, 62, 127, 255, 511, 511, 511, 2559, 7679, 511, 511, 33279, 115199, 262143, 524287, 511, 511, 511, 4194815, 14680575, 511, 511, 67109375, 234881535, 536870911, 1073741823, 2147483647, 4294967295, 8589934591], false⟩
  | _ => ⟨.nil, [], false⟩
section
variable {h : Heap}
/-- What is known of a book throughout. -/
structure Good (s : Sz) (L : List (List Place)) : Prop where
  bok : Bok s L
  cls : Cls L
  pns : Pns L
theorem good_new {s : Sz} (o : s.Ok) : Good s (List.replicate (s.sh * s.bk).toNat (List.replicate s.sl.toNat Place.none)) := ⟨bok_new o, cls_new _ _, pns_new _ _⟩
theorem good_do {s : Sz} (o : s.Ok) {L : List (List Place)} (g : Good s L) {x : OpR} (w : x.Wf) : Good s (doB s L x).1 := ⟨bok_do o g.bok w, cls_do g.cls x, pns_do g.pns x⟩
theorem lKnows_spec {A : Option Addr} {ops : List OpR} {c : Nat} {s0 : Sz} {x : OpR} (hr : Row encO7 7 h A ops) (wf : ∀ x ∈ ops, x.Wf) (w : x.Wf) {n : Nat} (hl : ops.length = n) (hn : n ≤ 140737488355328) :
    HCalls Try.prog 9 #[.agg #[.int .i64 s0.sh, .int .i64 s0.bk, .int .i64 s0.sl], .slice A n c, .agg (encO7 x).toArray] h (fun v h' => v = .bool true ∧ Ext h h') := by
  subst hl
  refine xcalls env_lKnows Try.func9 rfl (by kernel_rfl) rfl (by kernel_rfl) ?_
  intro zb h1 n1 ob h2 n2
  have hz2 := n2.ext.blk n1.this
  refine ⟨_, rfl, reads_all hz2, ?_⟩
  refine (rbFix_spec s0).mono ?_
  rintro v h3 ⟨rfl, x3⟩
  obtain ⟨s, hs⟩ : ∃ s, fixSz s0 = s := ⟨_, rfl⟩
  have o : s.Ok := by rw [← hs]; exact fixSz_ok s0
  rw [hs]
  have hz3 := x3.blk hz2
  refine ⟨rfl, rfl, canset_blk hz3 rfl, fun h4 s4 => ?_⟩
  have hz : h4[zb]? = some (.cells [.int .i64 s.sh, .int .i64 s.bk, .int .i64 s.sl].toArray 79 (0, 0)) := s4.put hz3
  have x03 := (n1.ext.trans n2.ext).trans x3
  have x04 := x03.stored s4 (n1.ge (Ext.refl _))
  have hob : h4[ob]? = some (.cells (encO7 x).toArray 82 (0, 0)) := s4.blk (x3.blk n2.this) (by have := n2.lt n1.this; exact Nat.ne_of_gt this)
  refine ⟨_, rfl, reads_all hz, ?_⟩
  refine (lSize_spec s _).mono ?_
  rintro v h5 ⟨rfl, x5⟩
  refine (kNew_spec o).mono ?_
  rintro v h6 ⟨b, tb, rfl, H6, x6⟩
  have tge := H6.table.1
  refine (told11_spec _).mono ?_
  rintro v h7 ⟨rfl, x7⟩
  have x47 := x5.trans (x6.trans x7)
  have hge : h.size ≤ h5.size := (x04.trans x5).size
  refine ⟨List (List Place), fun L => [(5, .pointer (some ⟨ob, 0, none⟩)), (7, .pointer (some ⟨b, 0, none⟩))], fun L h' => Good s L ∧ BkP h5.size h' b tb s L ∧ Ext h5 h', ?_, ?_⟩
  · refine ⟨Nat × List (List Place), fun z => [(1, .slice A ops.length c), (5, .pointer (some ⟨ob, 0, none⟩)), (7, .pointer (some ⟨b, 0, none⟩)), (9, .int .i64 z.1)],
      fun z h' => z.1 ≤ ops.length ∧ Good s z.2 ∧ BkP h5.size h' b tb s z.2 ∧ Ext h5 h', fun z => ops.length - z.1, (0, _), ⟨rfl, rfl, rfl, rfl, trivial⟩, ⟨Nat.zero_le _, good_new o, H6.ext x7, x6.trans x7⟩, ?_⟩
    rintro ⟨i, L⟩ h8 ⟨hi, G, H8, x8⟩
    simp only at hi G H8
    have x08 := (x04.trans x5).trans x8
    refine xif_of (fun hlt => ?_) (fun hge => ?_)
    · have hlt : (i : Int) < ops.length := of_decide_eq_true hlt
      refine xif_of (fun _ => ?_) (fun _ => ?_)
      · obtain ⟨y, hy⟩ : ∃ y, ops[i]? = some y := ⟨ops[i]'(by omega), List.getElem?_eq_getElem (by omega)⟩
        have wy := wf y (List.mem_of_getElem? hy)
        obtain ⟨a, rfl, hrd⟩ := (x08.row hr) i y hy
        refine ⟨a, rfl, (by show (0 : Int) ≤ i; omega), hlt, encO7 y, rfl, hrd, ?_⟩
        refine (lDo_spec o G.bok H8 wy).mono ?_
        rintro v h9 ⟨rfl, H9, k9⟩
        exact ⟨(i + 1, _), ⟨rfl, rfl, rfl, slot_inc (by omega), trivial⟩, ⟨by show i + 1 ≤ ops.length; omega, good_do o G wy, H9, KeepA.ext2 (A := none) k9 x8 tge⟩, by show ops.length - (i + 1) < ops.length - i; omega⟩
      · exact ⟨L, ⟨rfl, rfl, trivial⟩, G, H8, x8⟩
    · exact ⟨L, ⟨rfl, rfl, trivial⟩, G, H8, x8⟩
  · rintro L h8 ⟨G, H8, x8⟩
    have x08 := (x04.trans x5).trans x8
    have hob8 := x8.blk (x5.blk hob)
    have kwf := fix_wf x.vid x.mac
    refine ⟨[.int .i64 x.vid, .int .u64 x.mac], rfl, reads_at hob8 rfl, ?_⟩
    refine (rKeyFix_spec w.key _).mono ?_
    rintro v h9 ⟨rfl, x9⟩
    refine (l8To_spec _ _ _).mono ?_
    rintro v h10 ⟨rfl, x10⟩
    intro kb h11 n11
    refine ⟨rfl, rfl, canset_blk n11.this rfl, fun h12 s12 => ?_⟩
    have hkb : h12[kb]? = some (.cells [.int .i64 (fixVid x.vid), .int .u64 (fixMac x.mac)].toArray 36 (0, 0)) := s12.put n11.this
    have x811 := x9.trans (x10.trans n11.ext)
    have x812 : Ext h8 h12 := x811.stored s12 (n11.ge (x9.trans x10))
    have hob12 := x812.blk hob8
    have H12 := H8.ext x812
    have hne : kb ≠ tb := by
      obtain ⟨_, cx, hx⟩ := H8.table
      have := n11.lt ((x9.trans x10).blk hx)
      omega
    refine ⟨_, cell_blk hob12 rfl, by decide, _, rfl, reads_all hkb, ?_⟩
    refine (kLookup_spec o G.bok H12 kwf).mono ?_
    rintro v h13 ⟨rfl, x13⟩
    refine ⟨_, rfl, reads_all (x13.blk hkb), _, cell_blk (x13.blk hob12) rfl, ?_⟩
    refine (kLearn_spec o G.bok (H12.ext x13) kwf).mono ?_
    rintro v h14 ⟨rfl, H14, k14⟩
    obtain ⟨p, hp⟩ : ∃ p, IntKind.i64.wrap ((IntKind.u64.wrap x.port).tmod 64) = p := ⟨_, rfl⟩
    have hkb14 := k14.blk (x13.blk hkb) (by rintro ⟨⟩; exact hne rfl)
    refine ⟨_, rfl, reads_all hkb14, ?_⟩
    have B14 : Bok s (learnB s L (fixVid x.vid) (fixMac x.mac) (IntKind.i64.wrap ((IntKind.u64.wrap x.port).tmod 64)) x.now).1 := by
      have r := ixM_range o (fixVid x.vid) (fixMac x.mac)
      exact bok_upd G.bok r.1 r.2 (fun l => learnM_len _ _ _ _ _) fun l h => learnM_wf h kwf w.now0 w.now1
    have hpr : 0 ≤ p ∧ p < 64 := by
      rw [← hp, IntKind.wrap_u64, Int.tmod_eq_emod_of_nonneg (by omega), wrap_i64 (by omega) (by omega)]; omega
    have hmay : mayM (fixVid x.vid) (fixMac x.mac) p = true := by simp [mayM, fix_ok, hpr]
    refine (kLookup_spec o B14 H14 kwf).mono ?_
    rintro v h15 ⟨rfl, x15⟩
    rw [hp]
    obtain ⟨was, hwas⟩ : ∃ z, lookB s L (fixVid x.vid) (fixMac x.mac) = z := ⟨_, rfl⟩
    obtain ⟨did, hdid⟩ : ∃ z, (learnB s L (fixVid x.vid) (fixMac x.mac) p x.now).2 = z := ⟨_, rfl⟩
    obtain ⟨nw, hnw⟩ : ∃ z, lookB s (learnB s L (fixVid x.vid) (fixMac x.mac) p x.now).1 (fixVid x.vid) (fixMac x.mac) = z := ⟨_, rfl⟩
    rw [hwas, hdid, hnw]
    obtain ⟨f5, f0, f1, f2, f3⟩ := knows_book o G.bok G.cls G.pns hmay hwas hdid hnw
    have x015 : Ext h h15 := (KeepA.ext2 (A := none) k14 ((x04.trans x5).trans (x8.trans (x812.trans x13))) (Nat.le_trans hge tge)).trans x15
    refine xif_of (fun q => ?_) (fun q => ?_)
    · obtain ⟨e1, e2⟩ := f5 (by simpa using q)
      subst e1 e2
      exact ⟨rfl, x015⟩
    have n5 : did ≠ 5 := by simpa using q
    refine xif_of (fun q => ?_) (fun q => ?_)
    · obtain ⟨e1, e2⟩ := f0 (by simpa using q)
      refine xif_of (fun _ => ?_) (fun d => absurd d (by simp [e1]))
      exact ⟨congrArg Value.bool (decide_eq_true e2), x015⟩
    have n0 : did ≠ 0 := by simpa using q
    refine xif_of (fun q => ?_) (fun q => ?_)
    · obtain ⟨e1, e2⟩ := f1 (by simpa using q)
      refine xif_of (fun _ => ?_) (fun d => absurd d (by simp [e1]))
      exact ⟨congrArg Value.bool (by simp [e2]), x015⟩
    have n1 : did ≠ 1 := by simpa using q
    refine xif_of (fun q => ?_) (fun q => ?_)
    · obtain ⟨e1, e2, e3⟩ := f2 (by simpa using q)
      refine xif_of (fun _ => ?_) (fun d => absurd d (by simp [e1]))
      refine xif_of (fun _ => ?_) (fun d => absurd d (by simp; omega))
      exact ⟨congrArg Value.bool (by simp [e3]), x015⟩
    have n2 : did ≠ 2 := by simpa using q
    obtain ⟨e1, e2, e3⟩ := f3 n5 n0 n1 n2
    refine xif_of (fun _ => ?_) (fun d => absurd d (by simp [e1]))
    subst e2
    refine xif_of (fun _ => ⟨rfl, x015⟩) (fun q => ?_)
    have n3 : did ≠ 3 := by simpa using q
    exact ⟨congrArg Value.bool (by simp; omega), x015⟩
theorem at_ix {s : Sz} (o : s.Ok) {i : Int} (h0 : 0 ≤ i) (h1 : i < s.sh * s.bk) : atM s (i / s.bk) (i % s.bk) = i := by
  have hb : 0 < s.bk := o.bk1
  have e := Int.mul_ediv_add_emod i s.bk
  have m0 := Int.emod_nonneg i (show s.bk ≠ 0 by omega)
  have m1 := Int.emod_lt_of_pos i hb
  have d0 := Int.ediv_nonneg h0 (show 0 ≤ s.bk by omega)
  have d1 : i / s.bk < s.sh := Int.ediv_lt_of_lt_mul hb h1
  rw [atM, if_neg (by omega), Int.mul_comm]
  exact e
theorem quo_ix {i k : Int} (h0 : 0 ≤ i) (h1 : i ≤ 1000) (hk : 1 ≤ k) : IntKind.i64.wrap (i.tdiv k) = i / k := by
  have := Int.ediv_le_self k h0
  have := Int.ediv_nonneg h0 (show 0 ≤ k by omega)
  rw [Int.tdiv_eq_ediv_of_nonneg h0, wrap_i64 (by omega) (by omega)]
theorem lApart_spec {A : Option Addr} {ops : List OpR} {c : Nat} {s0 : Sz} {x : OpR} (hr : Row encO7 7 h A ops) (wf : ∀ x ∈ ops, x.Wf) (w : x.Wf) {n : Nat} (hl : ops.length = n) (hn : n ≤ 140737488355328) :
    HCalls Try.prog 12 #[.agg #[.int .i64 s0.sh, .int .i64 s0.bk, .int .i64 s0.sl], .slice A n c, .agg (encO7 x).toArray] h (fun v h' => v = .bool true ∧ Ext h h') := by
  subst hl
  refine xcalls env_lApart Try.func12 rfl (by kernel_rfl) rfl (by kernel_rfl) ?_
  intro zb h1 n1 ob h2 n2
  have hz2 := n2.ext.blk n1.this
  refine ⟨_, rfl, reads_all hz2, ?_⟩
  refine (rbFix_spec s0).mono ?_
  rintro v h3 ⟨rfl, x3⟩
  obtain ⟨s, hs⟩ : ∃ s, fixSz s0 = s := ⟨_, rfl⟩
  have o : s.Ok := by rw [← hs]; exact fixSz_ok s0
  rw [hs]
  have hz3 := x3.blk hz2
  refine ⟨rfl, rfl, canset_blk hz3 rfl, fun h4 s4 => ?_⟩
  have hz : h4[zb]? = some (.cells [.int .i64 s.sh, .int .i64 s.bk, .int .i64 s.sl].toArray 79 (0, 0)) := s4.put hz3
  have x03 := (n1.ext.trans n2.ext).trans x3
  have x04 := x03.stored s4 (n1.ge (Ext.refl _))
  have hob : h4[ob]? = some (.cells (encO7 x).toArray 82 (0, 0)) := s4.blk (x3.blk n2.this) (by have := n2.lt n1.this; exact Nat.ne_of_gt this)
  refine ⟨_, rfl, reads_all hz, ?_⟩
  refine (lSize_spec s _).mono ?_
  rintro v h5 ⟨rfl, x5⟩
  refine (kNew_spec o).mono ?_
  rintro v h6 ⟨b, tb, rfl, H6, x6⟩
  have tge := H6.table.1
  refine (told11_spec _).mono ?_
  rintro v h7 ⟨rfl, x7⟩
  have x47 := x5.trans (x6.trans x7)
  have hge : h.size ≤ h5.size := (x04.trans x5).size
  refine ⟨List (List Place), fun L => [(3, .pointer (some ⟨zb, 0, none⟩)), (5, .pointer (some ⟨ob, 0, none⟩)), (7, .pointer (some ⟨b, 0, none⟩))], fun L h' => Good s L ∧ BkP h5.size h' b tb s L ∧ Ext h5 h', ?_, ?_⟩
  · refine ⟨Nat × List (List Place), fun z => [(1, .slice A ops.length c), (3, .pointer (some ⟨zb, 0, none⟩)), (5, .pointer (some ⟨ob, 0, none⟩)), (7, .pointer (some ⟨b, 0, none⟩)), (9, .int .i64 z.1)],
      fun z h' => z.1 ≤ ops.length ∧ Good s z.2 ∧ BkP h5.size h' b tb s z.2 ∧ Ext h5 h', fun z => ops.length - z.1, (0, _), ⟨rfl, rfl, rfl, rfl, rfl, trivial⟩, ⟨Nat.zero_le _, good_new o, H6.ext x7, x6.trans x7⟩, ?_⟩
    rintro ⟨i, L⟩ h8 ⟨hi, G, H8, x8⟩
    simp only at hi G H8
    have x08 := (x04.trans x5).trans x8
    refine xif_of (fun hlt => ?_) (fun hge => ?_)
    · have hlt : (i : Int) < ops.length := of_decide_eq_true hlt
      refine xif_of (fun _ => ?_) (fun _ => ?_)
      · obtain ⟨y, hy⟩ : ∃ y, ops[i]? = some y := ⟨ops[i]'(by omega), List.getElem?_eq_getElem (by omega)⟩
        have wy := wf y (List.mem_of_getElem? hy)
        obtain ⟨a, rfl, hrd⟩ := (x08.row hr) i y hy
        refine ⟨a, rfl, (by show (0 : Int) ≤ i; omega), hlt, encO7 y, rfl, hrd, ?_⟩
        refine (lDo_spec o G.bok H8 wy).mono ?_
        rintro v h9 ⟨rfl, H9, k9⟩
        exact ⟨(i + 1, _), ⟨rfl, rfl, rfl, rfl, slot_inc (by omega), trivial⟩, ⟨by show i + 1 ≤ ops.length; omega, good_do o G wy, H9, KeepA.ext2 (A := none) k9 x8 tge⟩, by show ops.length - (i + 1) < ops.length - i; omega⟩
      · exact ⟨L, ⟨rfl, rfl, rfl, trivial⟩, G, H8, x8⟩
    · exact ⟨L, ⟨rfl, rfl, rfl, trivial⟩, G, H8, x8⟩
  · rintro L h8 ⟨G, H8, x8⟩
    have x48 := x5.trans x8
    refine (kCopy_spec o G.bok H8).mono ?_
    rintro v h9 ⟨d, td, rfl, H9, x9⟩
    have hob9 := (x48.trans x9).blk hob
    have hz9 := (x48.trans x9).blk hz
    have kk := kind_eq x.kind
    refine ⟨_, cell_blk hob9 rfl, by decide, ?_⟩
    refine xif_of (fun q => ⟨rfl, x04.trans (x48.trans x9)⟩) (fun q => ?_)
    replace q : (IntKind.i64.wrap ((IntKind.u64.wrap x.kind).tmod 7) == 5) = false := q
    rw [kk] at q
    have k5 : x.k ≠ 5 := by show ¬ x.kind % 18446744073709551616 % 7 = 5; simpa using q
    refine xif_of (fun q => ⟨rfl, x04.trans (x48.trans x9)⟩) (fun q => ?_)
    replace q : (IntKind.i64.wrap ((IntKind.u64.wrap x.kind).tmod 7) == 6) = false := q
    rw [kk] at q
    have k6 : x.k ≠ 6 := by show ¬ x.kind % 18446744073709551616 % 7 = 6; simpa using q
    refine ⟨encO7 x, rfl, reads_all hob9, ?_⟩
    refine (lDo_spec o G.bok (H8.ext x9) w).mono ?_
    rintro v h10 ⟨rfl, H10, k10⟩
    have x510 : Ext h5 h10 := KeepA.ext2 (A := none) k10 (x8.trans x9) tge
    have tlt : tb < h8.size := by
      obtain ⟨_, cx, hx⟩ := H8.table
      exact blk_lt hx
    have C10 := H9.keepGe k10 tlt
    have hob10 := x510.blk (x5.blk hob)
    have hz10 := x510.blk (x5.blk hz)
    have G10 := good_do o G w
    have hm := o.many
    have hb16 := o.bk2
    have hb1 := o.bk1
    refine ⟨[.int .i64 x.vid, .int .u64 x.mac], rfl, reads_at hob10 rfl, _, cell_blk hz10 rfl, _, cell_blk hz10 rfl, ?_⟩
    refine (rPlace_spec w.key o.sh1 o.sh2 o.bk1 o.bk2 _).mono ?_
    rintro v h11 ⟨rfl, x11⟩
    have rng := placeM_range (vid := x.vid) (mac := x.mac) o.sh1 o.bk1
    have ixr := ixM_range o x.vid x.mac
    have ew := ix_wrap o x.vid x.mac
    refine ⟨Nat, fun z => [(3, .pointer (some ⟨zb, 0, none⟩)), (7, .pointer (some ⟨b, 0, none⟩)), (10, .pointer (some ⟨d, 0, none⟩)), (12, .int .i64 (placeM x.vid x.mac s.sh s.bk).1), (13, .int .i64 (placeM x.vid x.mac s.sh s.bk).2), (14, .int .i64 z)],
      fun z h' => (z : Int) ≤ s.sh * s.bk ∧ Ext h10 h', fun z => (s.sh * s.bk).toNat - z, 0, ⟨rfl, rfl, rfl, rfl, rfl, rfl, trivial⟩, ⟨by show ((0 : Nat) : Int) ≤ _; omega, x11⟩, ?_⟩
    rintro i h12 ⟨hi, x12⟩
    have hz12 := x12.blk hz10
    have hw : IntKind.i64.wrap (s.sh * s.bk) = s.sh * s.bk := wrap_i64 (by omega) (by omega)
    refine ⟨_, cell_blk hz12 rfl, _, cell_blk hz12 rfl, ?_⟩
    refine xif_of (fun hlt => ?_) (fun _ => ?_)
    · have hlt : (i : Int) < IntKind.i64.wrap (s.sh * s.bk) := of_decide_eq_true hlt
      rw [hw] at hlt
      have nxt : ∀ hX, Ext h12 hX → ∃ x' : Nat, (some (Value.pointer (some ⟨zb, 0, none⟩)) = some (Value.pointer (some ⟨zb, 0, none⟩)) ∧ some (Value.pointer (some ⟨b, 0, none⟩)) = some (Value.pointer (some ⟨b, 0, none⟩)) ∧ some (Value.pointer (some ⟨d, 0, none⟩)) = some (Value.pointer (some ⟨d, 0, none⟩)) ∧ some (Value.int .i64 (placeM x.vid x.mac s.sh s.bk).1) = some (Value.int .i64 (placeM x.vid x.mac s.sh s.bk).1) ∧ some (Value.int .i64 (placeM x.vid x.mac s.sh s.bk).2) = some (Value.int .i64 (placeM x.vid x.mac s.sh s.bk).2) ∧ some (Value.int .i64 (IntKind.i64.wrap ((i : Int) + 1))) = some (Value.int .i64 (x' : Int)) ∧ True) ∧ ((x' : Int) ≤ s.sh * s.bk ∧ Ext h10 hX) ∧ (s.sh * s.bk).toNat - x' < (s.sh * s.bk).toNat - i :=
        fun hX xX => ⟨i + 1, ⟨rfl, rfl, rfl, rfl, rfl, slot_inc (by omega), trivial⟩, ⟨by omega, x12.trans xX⟩, by omega⟩
      have hai := at_ix o (i := i) (by omega) hlt
      have q1 := quo_ix (i := i) (k := s.bk) (by omega) (by omega) hb1
      have q2 : (i : Int).tmod s.bk = i % s.bk := Int.tmod_eq_emod_of_nonneg (by omega)
      refine ⟨_, cell_blk hz12 rfl, ?_⟩
      refine xif_of (fun hne => ?_) (fun _ => nxt h12 (Ext.refl _))
      replace hne : ((i : Int) != IntKind.i64.wrap (IntKind.i64.wrap ((placeM x.vid x.mac s.sh s.bk).1 * s.bk) + (placeM x.vid x.mac s.sh s.bk).2)) = true := hne
      rw [ew] at hne
      have hne : (i : Int) ≠ ixM s x.vid x.mac := by simpa using hne
      have nz : s.bk ≠ 0 := by omega
      refine ⟨_, cell_blk hz12 rfl, nz, _, cell_blk hz12 rfl, nz, _, cell_blk hz12 rfl, nz, _, cell_blk hz12 rfl, nz, ?_⟩
      rw [q1, q2]
      refine (kBucket_spec o G10.bok (H10.ext x12) _ _).mono ?_
      rintro v h13 ⟨A1, c1, l1, e1, rfl, own1, x13⟩
      obtain ⟨k, l, hki, hkl, hl10, hgd, hsl, _⟩ := G10.bok.get (i := i) (by omega) hlt
      have hki : i = k := by omega
      subst hki
      rw [hai, if_neg (by omega), hgd] at e1
      subst e1
      have hL : L[i]? = some l1 := by rw [← hl10]; exact (apart_do k5 k6 hne ixr.1).symm
      have h8l := sl_small o hsl
      have cb : ∀ hX, Ext h12 hX → cell hX ⟨zb, 1, none⟩ = some (.int .i64 s.bk) := fun hX xX => cell_blk (xX.blk hz12) rfl
      refine ⟨⟨cb _ x13, cb _ x13, trivial⟩, ?_⟩
      refine (l10From_spec (own1.row encP_len) rfl (by omega)).mono ?_
      rintro v h14 ⟨A2, c2, rfl, own2, x14⟩
      have x1214 := x13.trans x14
      refine ⟨⟨cb _ x1214, cb _ x1214, trivial⟩, ?_⟩
      refine (kBucket_spec o G.bok (C10.ext (x12.trans x1214)) _ _).mono ?_
      rintro v h15 ⟨A3, c3, l3, e3, rfl, own3, x15⟩
      rw [hai, if_neg (by omega), Int.toNat_natCast, List.getD_eq_getElem?_getD, hL] at e3
      have e3 : l3 = l1 := e3
      subst e3
      refine (l10From_spec (own3.row encP_len) rfl (by omega)).mono ?_
      rintro v h16 ⟨A4, c4, rfl, own4, x16⟩
      refine (rSame_spec ((own2.ext (x15.trans x16)).row encP_len) (own4.row encP_len) rfl rfl (by omega)).mono ?_
      rintro v h17 ⟨rfl, rfl⟩
      refine xif_of (fun q => absurd q (by simp)) (fun _ => nxt _ (x1214.trans (x15.trans x16)))
    · exact ⟨rfl, (x04.trans x5).trans (x510.trans x12)⟩
end
end Go.Proofs.YtkppagdjakllpaaE
