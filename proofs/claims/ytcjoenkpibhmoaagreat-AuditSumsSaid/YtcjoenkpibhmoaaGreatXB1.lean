/- What the program's book answers: where a bucket is, who is known, what is learned, ordered, dropped. Conditions: the arguments are of their types. -/
import Derived.Test.YtcjoenkpibhmoaaGreatXBk
set_option linter.unusedVariables false
set_option linter.unusedSimpArgs false
set_option maxRecDepth 100000
namespace Go.Proofs.YtcjoenkpibhmoaaGreatE
open Go Go.Proofs
def env_kOf : Nat → Ann
  | 3 => ⟨.op 0 [] <| .op 1 [] <| .op 2 [] <| .op 3 [] <| .op 4 [] <| .op 5 [] <| .op 6 [] <| .op 7 [] <| .op 8 [] <| .op 9 [] <| .op 10 [] <| .op 11 [] <| .op 12 [] <| .op 13 [] <| .op 14 [] <| .op 15 [] <| .op 16 [] <| .nil, [0, 0, 0, 4, 12, 28, 60, 0, 128, 384, 896, 1920, 4094, 8190, 8190, 32767, 65535], false⟩
  | _ => ⟨.nil, [], false⟩
def env_kLookup : Nat → Ann
  | 4 => ⟨.op 0 [] <| .op 1 [] <| .op 2 [] <| .op 3 [] <| .op 4 [] <| .op 5 [] <| .op 6 [] <| .op 7 [] <| .op 8 [] <| .op 9 [] <| .nil, [0, 1, 3, 7, 0, 31, 63, 0, 255, 511], false⟩
  | _ => ⟨.nil, [], false⟩
def env_kDrop : Nat → Ann
  | 4 => ⟨.op 0 [] <| .op 1 [] <| .op 2 [] <| .op 3 [] <| .op 4 [] <| .op 5 [] <| .op 6 [] <| .op 7 [] <| .op 8 [] <| .op 9 [] <| .op 10 [] <| .op 11 [] <| .op 12 [] <| .op 13 [] <| .nil, [0, 1, 3, 7, 0, 31, 63, 0, 255, 511, 1023, 1023, 2047, 8191], false⟩
  | _ => ⟨.nil, [], false⟩
abbrev BkP (base : Nat) (h : Heap) (b tb : Nat) (s : Sz) (L : List (List Place)) : Prop := BkAt 234 235 282 base h b tb s L
section
variable {base b tb : Nat} {s : Sz} {L : List (List Place)} {h : Heap}
theorem kAt_spec (o : s.Ok) (H : BkP base h b tb s L) (a n : Int) : HCalls Tryz.prog 173 #[.pointer (some ⟨b, 0, none⟩), .int .i64 a, .int .i64 n] h (fun v h' => v = .int .i64 (atM s a n) ∧ h' = h) := by
  obtain ⟨c0, c1, _, _, _⟩ := H.cells
  refine xcalls env0 Tryz.func173 rfl (by kernel_rfl) rfl (by kernel_rfl) ?_
  refine xif_of (fun q1 => ?_) (fun q1 => ?_)
  · have q1 : a < 0 := of_decide_eq_true q1
    exact ⟨by rw [atM, if_pos (by omega)]; rfl, rfl⟩
  have q1 : ¬ a < 0 := of_decide_eq_false q1
  refine ⟨_, c0, ?_⟩
  refine xif_of (fun q2 => ?_) (fun q2 => ?_)
  · have q2 : a ≥ s.sh := of_decide_eq_true q2
    exact ⟨by rw [atM, if_pos (by omega)]; rfl, rfl⟩
  have q2 : ¬ a ≥ s.sh := of_decide_eq_false q2
  refine xif_of (fun q3 => ?_) (fun q3 => ?_)
  · have q3 : n < 0 := of_decide_eq_true q3
    exact ⟨by rw [atM, if_pos (by omega)]; rfl, rfl⟩
  have q3 : ¬ n < 0 := of_decide_eq_false q3
  refine ⟨_, c1, ?_⟩
  refine xif_of (fun q4 => ?_) (fun q4 => ?_)
  · have q4 : n ≥ s.bk := of_decide_eq_true q4
    exact ⟨by rw [atM, if_pos (by omega)]; rfl, rfl⟩
  have q4 : ¬ n ≥ s.bk := of_decide_eq_false q4
  refine ⟨_, c1, congrArg (Value.int .i64) ?_, rfl⟩
  have m := mul_in (a := a) (b := n) (m := s.sh) (n := s.bk) (by omega) (by omega) (by omega) (by omega)
  have mm := o.many
  have : 0 ≤ a * s.bk := Int.mul_nonneg (by omega) (by omega)
  rw [wrap_i64 (x := a * s.bk) (by omega) (by omega), wrap_i64 (by omega) (by omega), atM, if_neg (by omega)]
theorem kOf_spec (o : s.Ok) (H : BkP base h b tb s L) {vid mac : Int} (wf : KeyWf vid mac) : HCalls Tryz.prog 169 #[.pointer (some ⟨b, 0, none⟩), .agg #[.int .i64 vid, .int .u64 mac]] h (fun v h' => v = .int .i64 (ixM s vid mac) ∧ Ext h h') := by
  refine xcalls env_kOf Tryz.func169 rfl (by kernel_rfl) rfl (by kernel_rfl) ?_
  intro kb h1 n1
  have H1 := H.ext n1.ext
  obtain ⟨c0, c1, _, _, _⟩ := H1.cells
  refine ⟨_, rfl, reads_all n1.this, _, c0, _, c1, ?_⟩
  refine (kPlace_spec wf o.sh1 o.sh2 o.bk1 o.bk2 _).mono ?_
  rintro v h2 ⟨rfl, x2⟩
  refine (kAt_spec o (H1.ext x2) _ _).mono ?_
  rintro v h3 ⟨rfl, rfl⟩
  exact ⟨congrArg (Value.int .i64) (atM_place o vid mac), n1.ext.trans x2⟩
theorem cell_ix {h : Heap} {t k : Nat} {v : Value} (H : cell h ⟨t, k, none⟩ = some v) : cell h ((⟨t, 0, none⟩ : Addr).add ((k : Int).toNat * 1)) = some v := by rw [add_lit]; simpa using H
theorem canset_ix {h : Heap} {t k n : Nat} (H : CanSet h ⟨t, k, none⟩ n) : CanSet h ((⟨t, 0, none⟩ : Addr).add ((k : Int).toNat * 1)) n := by rw [add_lit]; simpa using H
theorem stored_ix {h h' : Heap} {t k : Nat} {vs : List Value} (s : Stored h ((⟨t, 0, none⟩ : Addr).add ((k : Int).toNat * 1)) vs h') : Stored h ⟨t, k, none⟩ vs h' := by rw [add_lit] at s; simpa using s
theorem sl_small (o : s.Ok) {l : List Place} (h : (l.length : Int) = s.sl) : l.length ≤ 8 := by have := o.sl2; omega
theorem kLookup_spec (o : s.Ok) (B : Bok s L) (H : BkP base h b tb s L) {vid mac : Int} (wf : KeyWf vid mac) : HCalls Tryz.prog 137 #[.pointer (some ⟨b, 0, none⟩), .agg #[.int .i64 vid, .int .u64 mac]] h (fun v h' => v = .int .i64 (lookB s L vid mac) ∧ Ext h h') := by
  have r := ixM_range o vid mac
  obtain ⟨k, l, hk, hkl, hl, hgd, hsl, hwf⟩ := B.get r.1 r.2
  have h8 := sl_small o hsl
  refine xcalls env_kLookup Tryz.func137 rfl (by kernel_rfl) rfl (by kernel_rfl) ?_
  intro kb h1 n1
  have H1 := H.ext n1.ext
  refine ⟨_, rfl, reads_all n1.this, ?_⟩
  refine (kOf_spec o H1 wf).mono ?_
  rintro v h2 ⟨rfl, x2⟩
  have H2 := H1.ext x2
  rw [lookB, hgd, hk]
  refine xif_of (fun q => by have q : (k : Int) < 0 := of_decide_eq_true q; omega) (fun _ => ?_)
  obtain ⟨c0, c1, _, ⟨cap, _, c3⟩, _⟩ := H2.cells
  obtain ⟨A, c, hc, own⟩ := H2.bucket hl
  refine ⟨_, c3, _, rfl, by omega, by omega, _, cell_ix hc, _, rfl, reads_all (x2.blk n1.this), ?_⟩
  refine (bFind_spec (own.row encP_len) rfl (by omega)).mono ?_
  rintro v h3 ⟨rfl, x3⟩
  have x03 := n1.ext.trans (x2.trans x3)
  unfold lookM
  rcases findN_range (vid := vid) (mac := mac) l 0 with hf | ⟨hf0, hf1⟩
  · refine xif_of (fun _ => ?_) (fun hc => absurd (of_decide_eq_false hc) (by omega))
    exact ⟨by rw [if_pos (by omega)]; rfl, x03⟩
  · refine xif_of (fun hc => absurd (of_decide_eq_true hc) (by omega)) (fun _ => ?_)
    obtain ⟨i, hi⟩ : ∃ i : Nat, findN vid mac l 0 = i := ⟨(findN vid mac l 0).toNat, by omega⟩
    obtain ⟨w, hw⟩ : ∃ w, l[i]? = some w := ⟨_, List.getElem?_eq_getElem (show i < l.length by omega)⟩
    rw [hi]
    obtain ⟨a, rfl, hrd⟩ := ((own.ext x3).row encP_len) i w hw
    refine ⟨_, x3.cell c3, _, rfl, by omega, by omega, _, x3.cell (cell_ix hc), _, rfl, by omega, by omega, _, hrd.get 3 rfl, ?_, x03⟩
    rw [if_neg (by omega), Int.toNat_natCast, List.getD_eq_getElem?_getD, hw]; rfl
/-- What a bucket's function makes of the key's bucket. -/
theorem kPut_spec (o : s.Ok) (B : Bok s L) (H : BkP base h b tb s L) {vid mac : Int} (wf : KeyWf vid mac) {g : FuncId} {cap : List Value} {f : List Place → List Place × Int} (hfl : ∀ l, (f l).1.length = l.length)
    (hg : ∀ (h' : Heap) (A : Option Addr) (c : Nat) (l : List Place), Ext h h' → Row encP 6 h' A l → l.length ≤ 8 → HCalls Tryz.prog g (([] : List Value) ++ [Value.slice A l.length c] ++ cap).toArray h' (fun v h'' => ∃ bb, v = .tuple #[.slice (some ⟨bb, 0, none⟩) l.length l.length, .int .i64 (f l).2] ∧ OwnA encP 6 282 h'.size h'' (some ⟨bb, 0, none⟩) l.length (f l).1 ∧ Ext h' h'')) :
    HCalls Tryz.prog 166 #[.pointer (some ⟨b, 0, none⟩), .agg #[.int .i64 vid, .int .u64 mac], .func (.func g) #[] cap.toArray] h (fun v h' => v = .int .i64 (updB L (ixM s vid mac) f).2 ∧ BkP base h' b tb s (updB L (ixM s vid mac) f).1 ∧ KeepA (some ⟨tb, 0, none⟩) h h') := by
  have r := ixM_range o vid mac
  obtain ⟨k, l, hk, hkl, hl, hgd, hsl, hwf⟩ := B.get r.1 r.2
  have h8 := sl_small o hsl
  rw [hk, updB_at hl]
  refine xcalls env0 Tryz.func166 rfl (by kernel_rfl) rfl (by kernel_rfl) ?_
  intro kb h1 n1
  have H1 := H.ext n1.ext
  refine ⟨_, rfl, reads_all n1.this, ?_⟩
  refine (kOf_spec o H1 wf).mono ?_
  rintro v h2 ⟨rfl, x2⟩
  have H2 := H1.ext x2
  rw [hk]
  refine xif_of (fun q => by have q : (k : Int) < 0 := of_decide_eq_true q; omega) (fun _ => ?_)
  obtain ⟨c0, c1, _, ⟨ca, _, c3⟩, _⟩ := H2.cells
  obtain ⟨A, c, hc, own⟩ := H2.bucket hl
  refine ⟨_, c3, _, rfl, by omega, by omega, _, cell_ix hc, ?_⟩
  refine (hg h2 A c l (n1.ext.trans x2) (own.row encP_len) h8).mono ?_
  rintro v h3 ⟨bb, rfl, own3, x3⟩
  have H3 := H2.ext x3
  have hbs : base ≤ h2.size := Nat.le_trans H2.ge (Nat.le_of_lt H2.lt)
  refine ⟨_, x3.cell c3, _, rfl, by omega, by omega, rfl, rfl, canset_ix (H3.canset hkl), fun h4 s4 => ?_⟩
  have P := H3.put (by decide) (by decide) hkl (hfl l).symm (own3.mono hbs) (stored_ix s4)
  exact ⟨rfl, P.1, (((n1.ext.trans x2).trans x3).keepA _).trans P.2⟩
theorem kLearn1_spec {A : Option Addr} {l : List Place} {c : Nat} {vid mac port now : Int} {h : Heap} (wf : KeyWf vid mac) {b1 b2 b3 : Nat} (h1 : h[b1]? = some (.cells [.int .i64 vid, .int .u64 mac].toArray 110 (0, 0))) (h2 : h[b2]? = some (.cells [.int .i64 port].toArray 3 (0, 0))) (h3 : h[b3]? = some (.cells [.int .u32 now].toArray 26 (0, 0)))
    (hr : Row encP 6 h A l) (hn : l.length ≤ 8) : HCalls Tryz.prog 167 #[.slice A l.length c, .pointer (some ⟨b1, 0, none⟩), .pointer (some ⟨b2, 0, none⟩), .pointer (some ⟨b3, 0, none⟩)] h (fun v h'' => ∃ bb, v = .tuple #[.slice (some ⟨bb, 0, none⟩) l.length l.length, .int .i64 (learnM l vid mac port now).2] ∧ OwnA encP 6 282 h.size h'' (some ⟨bb, 0, none⟩) l.length (learnM l vid mac port now).1 ∧ Ext h h'') := by
  refine xcalls env0 Tryz.func167 rfl (by kernel_rfl) rfl (by kernel_rfl) ?_
  refine ⟨_, rfl, reads_all h1, _, cell_blk h2 rfl, _, cell_blk h3 rfl, ?_⟩
  refine (bLearn_spec hr rfl (by omega) wf).mono ?_
  rintro v h4 ⟨bb, rfl, own, x⟩
  exact ⟨bb, rfl, own, x⟩
theorem kOrder1_spec {A : Option Addr} {l : List Place} {c : Nat} {vid mac port now : Int} {h : Heap} (wf : KeyWf vid mac) {b1 b2 b3 : Nat} (h1 : h[b1]? = some (.cells [.int .i64 vid, .int .u64 mac].toArray 110 (0, 0))) (h2 : h[b2]? = some (.cells [.int .i64 port].toArray 3 (0, 0))) (h3 : h[b3]? = some (.cells [.int .u32 now].toArray 26 (0, 0)))
    (hr : Row encP 6 h A l) (hn : l.length ≤ 8) : HCalls Tryz.prog 171 #[.slice A l.length c, .pointer (some ⟨b1, 0, none⟩), .pointer (some ⟨b2, 0, none⟩), .pointer (some ⟨b3, 0, none⟩)] h (fun v h'' => ∃ bb, v = .tuple #[.slice (some ⟨bb, 0, none⟩) l.length l.length, .int .i64 (orderM l vid mac port now).2] ∧ OwnA encP 6 282 h.size h'' (some ⟨bb, 0, none⟩) l.length (orderM l vid mac port now).1 ∧ Ext h h'') := by
  refine xcalls env0 Tryz.func171 rfl (by kernel_rfl) rfl (by kernel_rfl) ?_
  refine ⟨_, rfl, reads_all h1, _, cell_blk h2 rfl, _, cell_blk h3 rfl, ?_⟩
  refine (bOrder_spec hr rfl (by omega) wf).mono ?_
  rintro v h4 ⟨bb, rfl, own, x⟩
  exact ⟨bb, rfl, own, x⟩
theorem kLearn_spec (o : s.Ok) (B : Bok s L) (H : BkP base h b tb s L) {vid mac port now : Int} (wf : KeyWf vid mac) : HCalls Tryz.prog 136 #[.pointer (some ⟨b, 0, none⟩), .agg #[.int .i64 vid, .int .u64 mac], .int .i64 port, .int .u32 now] h (fun v h' => v = .int .i64 (learnB s L vid mac port now).2 ∧ BkP base h' b tb s (learnB s L vid mac port now).1 ∧ KeepA (some ⟨tb, 0, none⟩) h h') := by
  refine xcalls env0 Tryz.func136 rfl (by kernel_rfl) rfl (by kernel_rfl) ?_
  intro b1 h1 n1 b2 h2 n2 b3 h3 n3
  have x := n1.ext.trans (n2.ext.trans n3.ext)
  have e1 := n3.ext.blk (n2.ext.blk n1.this)
  have e2 := n3.ext.blk n2.this
  refine ⟨_, rfl, reads_all e1, ?_⟩
  refine (kPut_spec o B (H.ext x) wf (g := 167) (cap := [.pointer (some ⟨b1, 0, none⟩), .pointer (some ⟨b2, 0, none⟩), .pointer (some ⟨b3, 0, none⟩)]) (f := fun l => learnM l vid mac port now) (fun l => learnM_len _ _ _ _ _) fun h' A c l x' hr h8 => kLearn1_spec wf (x'.blk e1) (x'.blk e2) (x'.blk n3.this) hr h8).mono ?_
  rintro v h4 ⟨rfl, H4, k4⟩
  exact ⟨rfl, H4, (x.keepA _).trans k4⟩
theorem kOrder_spec (o : s.Ok) (B : Bok s L) (H : BkP base h b tb s L) {vid mac port now : Int} (wf : KeyWf vid mac) : HCalls Tryz.prog 138 #[.pointer (some ⟨b, 0, none⟩), .agg #[.int .i64 vid, .int .u64 mac], .int .i64 port, .int .u32 now] h (fun v h' => v = .int .i64 (orderB s L vid mac port now).2 ∧ BkP base h' b tb s (orderB s L vid mac port now).1 ∧ KeepA (some ⟨tb, 0, none⟩) h h') := by
  refine xcalls env0 Tryz.func138 rfl (by kernel_rfl) rfl (by kernel_rfl) ?_
  intro b1 h1 n1 b2 h2 n2 b3 h3 n3
  have x := n1.ext.trans (n2.ext.trans n3.ext)
  have e1 := n3.ext.blk (n2.ext.blk n1.this)
  have e2 := n3.ext.blk n2.this
  refine ⟨_, rfl, reads_all e1, ?_⟩
  refine (kPut_spec o B (H.ext x) wf (g := 171) (cap := [.pointer (some ⟨b1, 0, none⟩), .pointer (some ⟨b2, 0, none⟩), .pointer (some ⟨b3, 0, none⟩)]) (f := fun l => orderM l vid mac port now) (fun l => orderM_len _ _ _ _ _) fun h' A c l x' hr h8 => kOrder1_spec wf (x'.blk e1) (x'.blk e2) (x'.blk n3.this) hr h8).mono ?_
  rintro v h4 ⟨rfl, H4, k4⟩
  exact ⟨rfl, H4, (x.keepA _).trans k4⟩
theorem kDrop_spec (o : s.Ok) (B : Bok s L) (H : BkP base h b tb s L) {vid mac : Int} (wf : KeyWf vid mac) :
    HCalls Tryz.prog 141 #[.pointer (some ⟨b, 0, none⟩), .agg #[.int .i64 vid, .int .u64 mac]] h (fun v h' => v = .bool (dropB s L vid mac).2 ∧ BkP base h' b tb s (dropB s L vid mac).1 ∧ KeepA (some ⟨tb, 0, none⟩) h h') := by
  have r := ixM_range o vid mac
  obtain ⟨k, l, hk, hkl, hl, hgd, hsl, hwf⟩ := B.get r.1 r.2
  have h8 := sl_small o hsl
  rw [dropB, hk, updB_at hl]
  refine xcalls env_kDrop Tryz.func141 rfl (by kernel_rfl) rfl (by kernel_rfl) ?_
  intro kb h1 n1
  have H1 := H.ext n1.ext
  refine ⟨_, rfl, reads_all n1.this, ?_⟩
  refine (kOf_spec o H1 wf).mono ?_
  rintro v h2 ⟨rfl, x2⟩
  have H2 := H1.ext x2
  rw [hk]
  refine xif_of (fun q => by have q : (k : Int) < 0 := of_decide_eq_true q; omega) (fun _ => ?_)
  obtain ⟨c0, c1, _, ⟨ca, _, c3⟩, _⟩ := H2.cells
  obtain ⟨A, c, hc, own⟩ := H2.bucket hl
  refine ⟨_, c3, _, rfl, by omega, by omega, _, cell_ix hc, _, rfl, reads_all (x2.blk n1.this), ?_⟩
  refine (bDrop_spec (own.row encP_len) rfl (by omega)).mono ?_
  rintro v h3 ⟨bb, rfl, own3, x3⟩
  have H3 := H2.ext x3
  have hbs : base ≤ h2.size := Nat.le_trans H2.ge (Nat.le_of_lt H2.lt)
  refine ⟨_, x3.cell c3, _, rfl, by omega, by omega, rfl, rfl, canset_ix (H3.canset hkl), fun h4 s4 => ?_⟩
  have P := H3.put (by decide) (by decide) hkl (dropM_len l vid mac).symm (own3.mono hbs) (stored_ix s4)
  exact ⟨rfl, P.1, (((n1.ext.trans x2).trans x3).keepA _).trans P.2⟩
theorem kAge_spec (o : s.Ok) (B : Bok s L) (H : BkP base h b tb s L) (a n now old : Int) :
    HCalls Tryz.prog 139 #[.pointer (some ⟨b, 0, none⟩), .int .i64 a, .int .i64 n, .int .u32 now, .int .u32 old] h (fun v h' => v = .int .i64 (ageB s L a n now old).2 ∧ BkP base h' b tb s (ageB s L a n now old).1 ∧ KeepA (some ⟨tb, 0, none⟩) h h') := by
  unfold ageB
  refine xcalls env0 Tryz.func139 rfl (by kernel_rfl) rfl (by kernel_rfl) ?_
  refine (kAt_spec o H a n).mono ?_
  rintro v h1 ⟨rfl, rfl⟩
  rcases atM_range o a n with r | ⟨r0, r1, _⟩
  · rw [if_pos (by omega)]
    refine xif_of (fun _ => ?_) (fun q => absurd (of_decide_eq_false q) (by omega))
    exact ⟨rfl, H, (Ext.refl _).keepA _⟩
  rw [if_neg (by omega)]
  obtain ⟨k, l, hk, hkl, hl, hgd, hsl, hwf⟩ := B.get r0 r1
  have h8 := sl_small o hsl
  rw [hk, updB_at hl]
  refine xif_of (fun q => by have q : (k : Int) < 0 := of_decide_eq_true q; omega) (fun _ => ?_)
  obtain ⟨c0, c1, _, ⟨ca, _, c3⟩, _⟩ := H.cells
  obtain ⟨A, c, hc, own⟩ := H.bucket hl
  refine ⟨_, c3, _, rfl, by omega, by omega, _, cell_ix hc, ?_⟩
  refine (bAge_spec (own.row encP_len) rfl (by omega)).mono ?_
  rintro v h3 ⟨bb, rfl, own3, x3⟩
  have H3 := H.ext x3
  have hbs : base ≤ h1.size := Nat.le_trans H.ge (Nat.le_of_lt H.lt)
  refine ⟨_, x3.cell c3, _, rfl, by omega, by omega, rfl, rfl, canset_ix (H3.canset hkl), fun h4 s4 => ?_⟩
  have P := H3.put (by decide) (by decide) hkl (withoutM_len (oldM now old) l).symm (own3.mono hbs) (stored_ix s4)
  exact ⟨rfl, P.1, (x3.keepA _).trans P.2⟩
end
end Go.Proofs.YtcjoenkpibhmoaaGreatE
