/- What the document's book answers. Conditions: the arguments are of their types. -/
import Derived.Test.YtjjempefncgfhaaGreatDoorXB1
set_option linter.unusedVariables false
set_option linter.unusedSimpArgs false
set_option maxRecDepth 100000
namespace Go.Proofs.YtjjempefncgfhaaGreatDoorE
open Go Go.Proofs
def env_rbAt : Nat → Ann
  | 1 => ⟨.op 0 [] <| .op 1 [] <| .op 2 [] <| .op 3 [] <| .op 4 [] <| .op 5 [] <| .op 6 [] <| .op 7 [] <| .op 8 [] <| .op 9 [] <| .op 10 [] <| .op 11 [] <| .op 12 [] <| .op 13 [] <| .op 14 [] <| .op 15 [] <| .op 16 [] <| .nil, [0, 0, 2, 6, 14, 30, 0, 64, 192, 448, 960, 2047, 4095, 8191, 8191, 16383, 65535], false⟩
  | _ => ⟨.nil, [], false⟩
def env_rbLookup : Nat → Ann
  | 1 => ⟨.op 0 [] <| .op 1 [] <| .op 2 [] <| .op 3 [] <| .op 4 [] <| .op 5 [] <| .op 6 [3] <| .op 7 [] <| .op 8 [] <| .op 9 [] <| .nil, [0, 1, 3, 7, 0, 0, 48, 127, 255, 511], false⟩
  | _ => ⟨.nil, [], false⟩
def env_rbLearn : Nat → Ann
  | 2 => ⟨.op 0 [] <| .op 1 [] <| .op 2 [] <| .op 3 [] <| .op 4 [] <| .op 5 [] <| .op 6 [] <| .op 7 [] <| .op 8 [] <| .op 9 [] <| .op 10 [] <| .op 11 [] <| .op 12 [] <| .op 13 [] <| .op 14 [] <| .op 15 [] <| .nil, [0, 1, 3, 7, 0, 31, 63, 0, 0, 0, 1023, 2047, 4095, 4095, 8191, 32767], false⟩
  | _ => ⟨.nil, [], false⟩
def env_rbOrder : Nat → Ann
  | 2 => ⟨.op 0 [] <| .op 1 [] <| .op 2 [] <| .op 3 [] <| .op 4 [] <| .op 5 [] <| .op 6 [] <| .op 7 [] <| .op 8 [] <| .op 9 [] <| .op 10 [] <| .op 11 [] <| .op 12 [] <| .op 13 [] <| .op 14 [] <| .op 15 [] <| .nil, [0, 1, 3, 7, 0, 31, 63, 0, 0, 0, 1023, 2047, 4095, 4095, 8191, 32767], false⟩
  | _ => ⟨.nil, [], false⟩
def env_rbDrop : Nat → Ann
  | 2 => ⟨.op 0 [] <| .op 1 [] <| .op 2 [] <| .op 3 [] <| .op 4 [] <| .op 5 [] <| .op 6 [] <| .op 7 [] <| .op 8 [] <| .op 9 [] <| .op 10 [] <| .op 11 [] <| .op 12 [] <| .op 13 [] <| .nil, [0, 1, 3, 7, 0, 31, 63, 0, 255, 511, 1023, 1023, 2047, 8191], false⟩
  | _ => ⟨.nil, [], false⟩
def env_rbFlush : Nat → Ann
  | 5 => ⟨.op 0 [] <| .op 1 [] <| .op 2 [] <| .op 3 [] <| .op 4 [] <| .op 5 [] <| .op 6 [] <| .op 7 [] <| .op 8 [] <| .op 9 [] <| .op 10 [] <| .op 11 [] <| .op 12 [] <| .op 13 [] <| .nil, [0, 1, 3, 7, 0, 31, 63, 0, 255, 511, 1023, 1023, 2047, 8191], false⟩
  | _ => ⟨.nil, [], false⟩
def env_rbNew : Nat → Ann
  | 5 => ⟨.op 0 [] <| .op 1 [] <| .op 2 [] <| .op 3 [] <| .op 4 [] <| .op 5 [] <| .op 6 [] <| .op 7 [4] <| .op 8 [4] <| .op 9 [] <| .op 10 [] <| .op 11 [] <| .op 12 [] <| .nil, [0, 0, 2, 6, 14, 0, 32, 96, 224, 510, 1023, 2047, 4095], false⟩
  | _ => ⟨.nil, [], false⟩
abbrev BkR (base : Nat) (h : Heap) (b tb : Nat) (s : Sz) (L : List (List Place)) : Prop := BkAt 163 171 242 base h b tb s L
section
variable {base b tb : Nat} {s : Sz} {L : List (List Place)} {h : Heap}
theorem ix_wrap (o : s.Ok) (vid mac : Int) : IntKind.i64.wrap (IntKind.i64.wrap ((placeM vid mac s.sh s.bk).1 * s.bk) + (placeM vid mac s.sh s.bk).2) = ixM s vid mac := by
  have p := placeM_range (vid := vid) (mac := mac) o.sh1 o.bk1
  have m := mul_in p.1 p.2.1 p.2.2.1 p.2.2.2
  have mm := o.many
  have : 0 ≤ (placeM vid mac s.sh s.bk).1 * s.bk := Int.mul_nonneg p.1 (by omega)
  rw [wrap_i64 (x := (placeM vid mac s.sh s.bk).1 * s.bk) (by omega) (by omega), wrap_i64 (by omega) (by omega)]; rfl
theorem rbAt_spec (o : s.Ok) (H : BkR base h b tb s L) {vid mac : Int} (wf : KeyWf vid mac) : HCalls Tryz.prog 174 #[.pointer (some ⟨b, 0, none⟩), .agg #[.int .i64 vid, .int .u64 mac]] h (fun v h' => v = .int .i64 (ixM s vid mac) ∧ Ext h h') := by
  refine xcalls env_rbAt Tryz.func174 rfl (by kernel_rfl) rfl (by kernel_rfl) ?_
  intro kb h1 n1
  have H1 := H.ext n1.ext
  obtain ⟨c0, c1, _, _, _⟩ := H1.cells
  refine ⟨_, rfl, reads_all n1.this, _, c0, _, c1, ?_⟩
  refine (rPlace_spec wf o.sh1 o.sh2 o.bk1 o.bk2 _).mono ?_
  rintro v h2 ⟨rfl, x2⟩
  exact ⟨_, x2.cell c1, congrArg (Value.int .i64) (ix_wrap o vid mac), n1.ext.trans x2⟩
theorem rbLookup_spec (o : s.Ok) (B : Bok s L) (H : BkR base h b tb s L) {vid mac : Int} (wf : KeyWf vid mac) : HCalls Tryz.prog 111 #[.pointer (some ⟨b, 0, none⟩), .agg #[.int .i64 vid, .int .u64 mac]] h (fun v h' => v = .int .i64 (lookB s L vid mac) ∧ Ext h h') := by
  have r := ixM_range o vid mac
  obtain ⟨k, l, hk, hkl, hl, hgd, hsl, hwf⟩ := B.get r.1 r.2
  have h8 := sl_small o hsl
  rw [lookB, hgd]
  refine xcalls env_rbLookup Tryz.func111 rfl (by kernel_rfl) rfl (by kernel_rfl) ?_
  intro kb h1 n1
  have H1 := H.ext n1.ext
  obtain ⟨c0, c1, _, ⟨cap, _, c3⟩, _⟩ := H1.cells
  refine ⟨_, c3, _, rfl, reads_all n1.this, ?_⟩
  refine (rbAt_spec o H1 wf).mono ?_
  rintro v h2 ⟨rfl, x2⟩
  have H2 := H1.ext x2
  rw [hk]
  obtain ⟨A, c, hc, own⟩ := H2.bucket hl
  refine ⟨⟨x2.cell c3, trivial⟩, ?_⟩
  refine ⟨_, rfl, by omega, by omega, _, cell_ix hc, _, rfl, reads_all (x2.blk n1.this), ?_⟩
  refine (rFind_spec (own.row encP_len) rfl (by omega)).mono ?_
  rintro v h3 ⟨rfl, x3⟩
  have x03 := n1.ext.trans (x2.trans x3)
  unfold lookM
  rcases findN_range (vid := vid) (mac := mac) l 0 with hf | ⟨hf0, hf1⟩
  · refine xif_of (fun _ => ?_) (fun hc => absurd (of_decide_eq_false hc) (by omega))
    exact ⟨by rw [if_pos (by omega)]; rfl, x03⟩
  · refine xif_of (fun hc => absurd (of_decide_eq_true hc) (by omega)) (fun _ => ?_)
    obtain ⟨i, hi⟩ : ∃ i : Nat, findN vid mac l 0 = i := ⟨(findN vid mac l 0).toNat, by omega⟩
    obtain ⟨w, hw⟩ : ∃ w, l[i]? = some w := ⟨_, List.getElem?_eq_getElem (show i < l.length by omega)⟩
    rw [hi]
    obtain ⟨a, rfl, hrd⟩ := ((own.ext x3).row encP_len) i w hw
    refine ⟨_, rfl, by omega, by omega, _, hrd.get 3 rfl, ?_, x03⟩
    rw [if_neg (by omega), Int.toNat_natCast, List.getD_eq_getElem?_getD, hw]; rfl
theorem rbLearn_spec (o : s.Ok) (B : Bok s L) (H : BkR base h b tb s L) {vid mac port now : Int} (wf : KeyWf vid mac) (a0 : 0 ≤ now) (a1 : now < 4294967296) : HCalls Tryz.prog 110 #[.pointer (some ⟨b, 0, none⟩), .agg #[.int .i64 vid, .int .u64 mac], .int .i64 port, .int .u32 now] h (fun v h' => v = .int .i64 (learnB s L vid mac port now).2 ∧ BkR base h' b tb s (learnB s L vid mac port now).1 ∧ KeepA (some ⟨tb, 0, none⟩) h h') := by
  have r := ixM_range o vid mac
  obtain ⟨k, l, hk, hkl, hl, hgd, hsl, hwf⟩ := B.get r.1 r.2
  have h8 := sl_small o hsl
  rw [learnB, hk, updB_at hl]
  refine xcalls env_rbLearn Tryz.func110 rfl (by kernel_rfl) rfl (by kernel_rfl) ?_
  intro kb h1 n1
  have H1 := H.ext n1.ext
  refine ⟨_, rfl, reads_all n1.this, ?_⟩
  refine (rbAt_spec o H1 wf).mono ?_
  rintro v h2 ⟨rfl, x2⟩
  have H2 := H1.ext x2
  rw [hk]
  obtain ⟨c0, c1, _, ⟨ca, _, c3⟩, _⟩ := H2.cells
  obtain ⟨A, c, hc, own⟩ := H2.bucket hl
  refine ⟨_, c3, _, rfl, by omega, by omega, _, cell_ix hc, _, rfl, reads_all (x2.blk n1.this), ?_⟩
  refine (rLearn_spec (own.row encP_len) hwf a0 a1 rfl (by omega) wf).mono ?_
  rintro v h3 ⟨A3, d3, rfl, own3, x3⟩
  have H3 := H2.ext x3
  have hbs : base ≤ h2.size := Nat.le_trans H2.ge (Nat.le_of_lt H2.lt)
  refine ⟨_, x3.cell c3, _, rfl, by omega, by omega, rfl, rfl, canset_ix (H3.canset hkl), fun h4 s4 => ?_⟩
  have P := H3.put (by decide) (by decide) hkl (learnM_len l vid mac port now).symm (own3.mono hbs) (stored_ix s4)
  exact ⟨rfl, P.1, (((n1.ext.trans x2).trans x3).keepA _).trans P.2⟩
theorem rbOrder_spec (o : s.Ok) (B : Bok s L) (H : BkR base h b tb s L) {vid mac port now : Int} (wf : KeyWf vid mac) (a0 : 0 ≤ now) (a1 : now < 4294967296) : HCalls Tryz.prog 112 #[.pointer (some ⟨b, 0, none⟩), .agg #[.int .i64 vid, .int .u64 mac], .int .i64 port, .int .u32 now] h (fun v h' => v = .int .i64 (orderB s L vid mac port now).2 ∧ BkR base h' b tb s (orderB s L vid mac port now).1 ∧ KeepA (some ⟨tb, 0, none⟩) h h') := by
  have r := ixM_range o vid mac
  obtain ⟨k, l, hk, hkl, hl, hgd, hsl, hwf⟩ := B.get r.1 r.2
  have h8 := sl_small o hsl
  rw [orderB, hk, updB_at hl]
  refine xcalls env_rbOrder Tryz.func112 rfl (by kernel_rfl) rfl (by kernel_rfl) ?_
  intro kb h1 n1
  have H1 := H.ext n1.ext
  refine ⟨_, rfl, reads_all n1.this, ?_⟩
  refine (rbAt_spec o H1 wf).mono ?_
  rintro v h2 ⟨rfl, x2⟩
  have H2 := H1.ext x2
  rw [hk]
  obtain ⟨c0, c1, _, ⟨ca, _, c3⟩, _⟩ := H2.cells
  obtain ⟨A, c, hc, own⟩ := H2.bucket hl
  refine ⟨_, c3, _, rfl, by omega, by omega, _, cell_ix hc, _, rfl, reads_all (x2.blk n1.this), ?_⟩
  refine (rOrder_spec (own.row encP_len) hwf a0 a1 rfl (by omega) wf).mono ?_
  rintro v h3 ⟨A3, d3, rfl, own3, x3⟩
  have H3 := H2.ext x3
  have hbs : base ≤ h2.size := Nat.le_trans H2.ge (Nat.le_of_lt H2.lt)
  refine ⟨_, x3.cell c3, _, rfl, by omega, by omega, rfl, rfl, canset_ix (H3.canset hkl), fun h4 s4 => ?_⟩
  have P := H3.put (by decide) (by decide) hkl (orderM_len l vid mac port now).symm (own3.mono hbs) (stored_ix s4)
  exact ⟨rfl, P.1, (((n1.ext.trans x2).trans x3).keepA _).trans P.2⟩
theorem rbDrop_spec (o : s.Ok) (B : Bok s L) (H : BkR base h b tb s L) {vid mac : Int} (wf : KeyWf vid mac) :
    HCalls Tryz.prog 113 #[.pointer (some ⟨b, 0, none⟩), .agg #[.int .i64 vid, .int .u64 mac]] h (fun v h' => v = .bool (dropB s L vid mac).2 ∧ BkR base h' b tb s (dropB s L vid mac).1 ∧ KeepA (some ⟨tb, 0, none⟩) h h') := by
  have r := ixM_range o vid mac
  obtain ⟨k, l, hk, hkl, hl, hgd, hsl, hwf⟩ := B.get r.1 r.2
  have h8 := sl_small o hsl
  rw [dropB, hk, updB_at hl]
  refine xcalls env_rbDrop Tryz.func113 rfl (by kernel_rfl) rfl (by kernel_rfl) ?_
  intro kb h1 n1
  have H1 := H.ext n1.ext
  refine ⟨_, rfl, reads_all n1.this, ?_⟩
  refine (rbAt_spec o H1 wf).mono ?_
  rintro v h2 ⟨rfl, x2⟩
  have H2 := H1.ext x2
  rw [hk]
  obtain ⟨c0, c1, _, ⟨ca, _, c3⟩, _⟩ := H2.cells
  obtain ⟨A, c, hc, own⟩ := H2.bucket hl
  refine ⟨_, c3, _, rfl, by omega, by omega, _, cell_ix hc, _, rfl, reads_all (x2.blk n1.this), ?_⟩
  refine (rDrop_spec (own.row encP_len) rfl (by omega)).mono ?_
  rintro v h3 ⟨A3, d3, rfl, own3, x3⟩
  have H3 := H2.ext x3
  have hbs : base ≤ h2.size := Nat.le_trans H2.ge (Nat.le_of_lt H2.lt)
  refine ⟨_, x3.cell c3, _, rfl, by omega, by omega, rfl, rfl, canset_ix (H3.canset hkl), fun h4 s4 => ?_⟩
  have P := H3.put (by decide) (by decide) hkl (dropM_len l vid mac).symm (own3.mono hbs) (stored_ix s4)
  exact ⟨rfl, P.1, (((n1.ext.trans x2).trans x3).keepA _).trans P.2⟩
theorem rbAge_spec (o : s.Ok) (B : Bok s L) (H : BkR base h b tb s L) (a n : Int) {now old : Int} (a0 : 0 ≤ now) (a1 : now < 4294967296) :
    HCalls Tryz.prog 114 #[.pointer (some ⟨b, 0, none⟩), .int .i64 a, .int .i64 n, .int .u32 now, .int .u32 old] h (fun v h' => v = .int .i64 (ageB s L a n now old).2 ∧ BkR base h' b tb s (ageB s L a n now old).1 ∧ KeepA (some ⟨tb, 0, none⟩) h h') := by
  obtain ⟨c0, c1, _, ⟨ca, _, c3⟩, _⟩ := H.cells
  have kh := (Ext.refl h).keepA (some ⟨tb, 0, none⟩)
  have no : atM s a n = -1 → (.int .i64 0 : Value) = .int .i64 (ageB s L a n now old).2 ∧ BkR base h b tb s (ageB s L a n now old).1 ∧ KeepA (some ⟨tb, 0, none⟩) h h := by
    intro e
    rw [ageB, if_pos (by omega)]
    exact ⟨rfl, H, kh⟩
  refine xcalls env0 Tryz.func114 rfl (by kernel_rfl) rfl (by kernel_rfl) ?_
  refine xif_of (fun q1 => ?_) (fun q1 => ?_)
  · have q1 : a < 0 := of_decide_eq_true q1
    exact no (by rw [atM, if_pos (by omega)])
  have q1 : ¬ a < 0 := of_decide_eq_false q1
  refine ⟨_, c0, ?_⟩
  refine xif_of (fun q2 => ?_) (fun q2 => ?_)
  · have q2 : a ≥ s.sh := of_decide_eq_true q2
    exact no (by rw [atM, if_pos (by omega)])
  have q2 : ¬ a ≥ s.sh := of_decide_eq_false q2
  refine xif_of (fun q3 => ?_) (fun q3 => ?_)
  · have q3 : n < 0 := of_decide_eq_true q3
    exact no (by rw [atM, if_pos (by omega)])
  have q3 : ¬ n < 0 := of_decide_eq_false q3
  refine ⟨_, c1, ?_⟩
  refine xif_of (fun q4 => ?_) (fun q4 => ?_)
  · have q4 : n ≥ s.bk := of_decide_eq_true q4
    exact no (by rw [atM, if_pos (by omega)])
  have q4 : ¬ n ≥ s.bk := of_decide_eq_false q4
  have m := mul_in (a := a) (b := n) (m := s.sh) (n := s.bk) (by omega) (by omega) (by omega) (by omega)
  have mm := o.many
  have hp : 0 ≤ a * s.bk := Int.mul_nonneg (by omega) (by omega)
  have ea : atM s a n = a * s.bk + n := by rw [atM, if_neg (by omega)]
  obtain ⟨k, l, hk, hkl, hl, hgd, hsl, hwf⟩ := B.get m.1 m.2
  have h8 := sl_small o hsl
  have ew : IntKind.i64.wrap (IntKind.i64.wrap (a * s.bk) + n) = (k : Int) := by rw [wrap_i64 (x := a * s.bk) (by omega) (by omega), wrap_i64 (by omega) (by omega), hk]
  rw [ageB, if_neg (by omega), ea, hk, updB_at hl]
  obtain ⟨A, c, hc, own⟩ := H.bucket hl
  have hc' : cell h ((⟨tb, 0, none⟩ : Addr).add ((IntKind.i64.wrap (IntKind.i64.wrap (a * s.bk) + n)).toNat * 1)) = some (.slice A l.length c) := by rw [ew]; exact cell_ix hc
  have hin : 0 ≤ IntKind.i64.wrap (IntKind.i64.wrap (a * s.bk) + n) ∧ IntKind.i64.wrap (IntKind.i64.wrap (a * s.bk) + n) < (L.length : Int) := by rw [ew]; omega
  refine ⟨_, c1, _, c3, _, rfl, hin.1, hin.2, _, hc', ?_⟩
  refine (rBAge_spec (own.row encP_len) rfl (by omega) hwf a0 a1).mono ?_
  rintro v h3 ⟨A3, d3, rfl, own3, x3⟩
  have H3 := H.ext x3
  have hbs : base ≤ h.size := Nat.le_trans H.ge (Nat.le_of_lt H.lt)
  have hcs : CanSet h3 ((⟨tb, 0, none⟩ : Addr).add ((IntKind.i64.wrap (IntKind.i64.wrap (a * s.bk) + n)).toNat * 1)) 1 := by rw [ew]; exact canset_ix (H3.canset hkl)
  refine ⟨_, x3.cell c3, _, rfl, hin.1, hin.2, rfl, rfl, hcs, fun h4 s4 => ?_⟩
  have s4' : Stored h3 ((⟨tb, 0, none⟩ : Addr).add ((IntKind.i64.wrap (IntKind.i64.wrap (a * s.bk) + n)).toNat * 1)) [.slice A3 l.length d3] h4 := s4
  rw [ew] at s4'
  have P := H3.put (by decide) (by decide) hkl (withoutM_len (oldM now old) l).symm (own3.mono hbs) (stored_ix s4')
  exact ⟨rfl, P.1, (x3.keepA _).trans P.2⟩
theorem rbFlush_spec (o : s.Ok) (B : Bok s L) (H : BkR base h b tb s L) (port vid : Int) :
    HCalls Tryz.prog 115 #[.pointer (some ⟨b, 0, none⟩), .agg #[.int .i64 port, .int .i64 vid]] h (fun v h' => v = .int .i64 (flushB L port vid).2 ∧ BkR base h' b tb s (flushB L port vid).1 ∧ KeepA (some ⟨tb, 0, none⟩) h h') := by
  obtain ⟨f, hf⟩ : ∃ f : List Place → List Place, (fun l => (withoutM (hitM port vid) l).1) = f := ⟨_, rfl⟩
  have hfl : ∀ l, (f l).length = l.length := fun l => by rw [← hf]; exact withoutM_len _ _
  have hL := B.len
  have hm := o.many
  unfold flushB
  rw [hf]
  refine xcalls env_rbFlush Tryz.func115 rfl (by kernel_rfl) rfl (by kernel_rfl) ?_
  intro kb h1 n1
  have H1 := H.ext n1.ext
  have hne : kb ≠ tb := by
    obtain ⟨_, cx, hx⟩ := H.table
    have := n1.lt hx
    omega
  refine ⟨Nat, fun i => [(0, .pointer (some ⟨b, 0, none⟩)), (3, .pointer (some ⟨kb, 0, none⟩)), (5, .int .i64 ((L.take i).map (goneN port vid)).sum), (6, .int .i64 i)],
    fun i h' => i ≤ L.length ∧ BkR base h' b tb s ((L.take i).map f ++ L.drop i) ∧ KeepA (some ⟨tb, 0, none⟩) h1 h' ∧ (0 ≤ ((L.take i).map (goneN port vid)).sum ∧ ((L.take i).map (goneN port vid)).sum ≤ 8 * i), fun i => L.length - i, 0, ⟨rfl, rfl, rfl, rfl, trivial⟩, ⟨Nat.zero_le _, by simpa using H1, (Ext.refl _).keepA _, by simp⟩, ?_⟩
  rintro i h2 ⟨hi, H2, k2, s0, s1⟩
  have hlm : ((L.take i).map f ++ L.drop i).length = L.length := by simp; omega
  obtain ⟨_, _, _, ⟨cap, _, c3⟩, _⟩ := H2.cells
  refine ⟨_, c3, ?_⟩
  refine xif_of (fun hlt => ?_) (fun hge => ?_)
  · have hlt : (i : Int) < ((L.take i).map f ++ L.drop i).length := of_decide_eq_true hlt
    obtain ⟨l, hl⟩ : ∃ l, L[i]? = some l := ⟨L[i], List.getElem?_eq_getElem (by omega)⟩
    have h8 := sl_small o (B.each l (List.mem_of_getElem? hl))
    obtain ⟨m1, m2⟩ := mix_set (f := f) hl
    obtain ⟨A, c, hc, own⟩ := H2.bucket m1
    have hkb := k2.blk n1.this (by rintro ⟨⟩; exact hne rfl)
    refine ⟨_, c3, _, rfl, by omega, by omega, _, cell_ix hc, _, rfl, reads_all hkb, ?_⟩
    refine (rFlush_spec (own.row encP_len) rfl (by omega)).mono ?_
    rintro v h3 ⟨A3, d3, rfl, own3, x3⟩
    have H3 := H2.ext x3
    obtain ⟨_, _, _, ⟨ca, _, e3⟩, _⟩ := H3.cells
    have hbs : base ≤ h2.size := Nat.le_trans H2.ge (Nat.le_of_lt H2.lt)
    have hil : i < ((L.take i).map f ++ L.drop i).length := (List.getElem?_eq_some_iff.1 m1).1
    have g := goneN_range port vid l
    have e1 := sum_step (f := goneN port vid) hl
    refine ⟨_, e3, _, rfl, by omega, by omega, rfl, rfl, canset_ix (H3.canset hil), fun h4 s4 => ?_⟩
    have P := H3.put (by decide) (by decide) hil (withoutM_len (hitM port vid) l).symm (own3.mono hbs) (stored_ix s4)
    have e2 : (withoutM (hitM port vid) l).1 = f l := by rw [← hf]
    rw [e2, m2] at P
    refine ⟨i + 1, ⟨rfl, rfl, congrArg (fun z => some (Value.int .i64 z)) ?_, slot_inc (by omega), trivial⟩, ⟨by omega, P.1, k2.trans ((x3.keepA _).trans P.2), by omega, by omega⟩, by show L.length - (i + 1) < L.length - i; omega⟩
    show IntKind.i64.wrap (((L.take i).map (goneN port vid)).sum + goneN port vid l) = _
    rw [e1, wrap_i64 (by omega) (by omega)]
  · have hge : ¬ (i : Int) < ((L.take i).map f ++ L.drop i).length := of_decide_eq_false hge
    rw [List.take_of_length_le (by omega), List.drop_eq_nil_of_le (by omega), List.append_nil] at H2
    exact ⟨congrArg (Value.int .i64) (by rw [List.take_of_length_le (show L.length ≤ i by omega)]), H2, (n1.ext.keepA _).trans k2⟩
end
end Go.Proofs.YtjjempefncgfhaaGreatDoorE
/- What the document's book answers: all entries, a copy, a new one; sizes. Conditions: the arguments are of their types. -/
set_option linter.unusedVariables false
set_option linter.unusedSimpArgs false
set_option maxRecDepth 100000
namespace Go.Proofs.YtjjempefncgfhaaGreatDoorE
open Go Go.Proofs
section
variable {base b tb : Nat} {s : Sz} {L : List (List Place)} {h : Heap}
theorem entInfoR : (Tryz.prog.info? 240).map (fun i => (i.size, i.bytes)) = some (5, 32) := by kernel_rfl
theorem entZeroR : xzero Tryz.prog 240 = some (encE Place.none) := by kernel_rfl
theorem slInfoR : (Tryz.prog.info? 171).map (fun i => (i.size, i.bytes)) = some (1, 24) := by kernel_rfl
theorem slZeroR : xzero Tryz.prog 171 = some [.slice none 0 0] := by kernel_rfl
theorem rbNew_spec (o : s.Ok) : HCalls Tryz.prog 56 #[.agg #[.int .i64 s.sh, .int .i64 s.bk, .int .i64 s.sl]] h (fun v h' => ∃ b tb, v = .pointer (some ⟨b, 0, none⟩) ∧ BkR h.size h' b tb s (List.replicate (s.sh * s.bk).toNat (List.replicate s.sl.toNat Place.none)) ∧ Ext h h') := by
  have hm := o.many
  have o5 := o.sl1
  have o6 := o.sl2
  refine xcalls env_rbNew Tryz.func56 rfl (by kernel_rfl) rfl (by kernel_rfl) ?_
  intro zb h1 n1
  refine ⟨_, rfl, reads_all n1.this, ?_⟩
  intro b h3 n3
  have hz := n3.ext.blk n1.this
  have x03 := n1.ext.trans n3.ext
  refine ⟨Nat × Option Addr × Nat, fun z => [(1, .pointer (some ⟨zb, 0, none⟩)), (3, .pointer (some ⟨b, 0, none⟩)), (4, .int .i64 z.1)],
    fun z h' => (z.1 : Int) ≤ s.sh * s.bk ∧ BkO 163 171 242 h.size h' b z.2.1 z.2.2 s (List.replicate z.1 (List.replicate s.sl.toNat Place.none)) ∧ Ext h h' ∧ h'[zb]? = some (.cells [.int .i64 s.sh, .int .i64 s.bk, .int .i64 s.sl].toArray 25 (0, 0)), fun z => (s.sh * s.bk).toNat - z.1, (0, none, 0), ⟨rfl, rfl, rfl, trivial⟩, ⟨by show ((0 : Nat) : Int) ≤ _; omega, BkO.start n3 n1.ext.size, x03, hz⟩, ?_⟩
  rintro ⟨i, A, cap⟩ h4 ⟨hi, H4, x4, hz4⟩
  simp only at hi H4
  have hw : IntKind.i64.wrap (s.sh * s.bk) = s.sh * s.bk := wrap_i64 (by omega) (by omega)
  refine ⟨_, cell_blk hz4 rfl, _, cell_blk hz4 rfl, ?_⟩
  refine xif_of (fun hlt => ?_) (fun hge => ?_)
  · have hlt : (i : Int) < IntKind.i64.wrap (s.sh * s.bk) := of_decide_eq_true hlt
    rw [hw] at hlt
    have c3 := H4.c3
    refine ⟨_, c3, _, cell_blk hz4 rfl, by omega, by omega, (by show ((40 : Nat) : Int) * s.sl ≤ _; omega), by omega, ?_⟩
    intro pb h5 n5
    have own5 : OwnA encP 6 242 h.size h5 (some ⟨pb, 0, none⟩) s.sl.toNat (List.replicate s.sl.toNat Place.none) := OwnA.made (z := Place.none) s.sl.toNat n5 rfl x4.size
    refine ⟨⟨n5.ext.cell c3, trivial⟩, ?_⟩
    intro bs h6 n6
    refine ⟨⟨n6.ext.cell (n5.ext.cell c3), trivial⟩, ?_⟩
    refine (H4.ext n5.ext).more slInfoR slZeroR rfl (by decide) (by decide) (by decide) (by decide) (by decide) (by simp) own5 n6 (by simp; omega) fun A2 c2 h7 cs fr ex st => ?_
    refine ⟨rfl, rfl, cs, fun h8 s8 => ?_⟩
    have H8 := st h8 s8
    rw [← List.replicate_succ'] at H8
    have hz7 := fr _ _ _ _ (n5.ext.blk hz4) (by decide)
    have zne : zb ≠ b := H4.ne hz4 (by decide)
    exact ⟨(i + 1, A2, c2), ⟨rfl, rfl, slot_inc (by omega), trivial⟩, ⟨by show ((i + 1 : Nat) : Int) ≤ s.sh * s.bk; omega, H8, (ex h (Nat.le_refl _) (x4.trans n5.ext)).stored s8 H4.ge, s8.blk hz7 zne⟩, by show (s.sh * s.bk).toNat - (i + 1) < (s.sh * s.bk).toNat - i; omega⟩
  · have hge : ¬ (i : Int) < IntKind.i64.wrap (s.sh * s.bk) := of_decide_eq_false hge
    rw [hw] at hge
    have e : (s.sh * s.bk).toNat = i := by omega
    obtain ⟨tb, rfl, H5⟩ := H4.done (by rw [← e]; simp; omega)
    exact ⟨b, tb, rfl, by rw [e]; exact H5, x4⟩
def fixSz (s : Sz) : Sz := ⟨1 + s.sh % 18446744073709551616 % 8, 1 + s.bk % 18446744073709551616 % 16, 1 + s.sl % 18446744073709551616 % 8⟩
theorem fixSz_ok (s : Sz) : (fixSz s).Ok := by
  refine ⟨?_, ?_, ?_, ?_, ?_, ?_⟩ <;> simp only [fixSz] <;> omega
theorem fix_eq (p d : Int) (hd : 1 ≤ d) (h2 : d ≤ 16) : IntKind.i64.wrap (1 + IntKind.i64.wrap ((IntKind.u64.wrap p).tmod d)) = 1 + p % 18446744073709551616 % d := by
  have h3 := Int.emod_lt_of_pos (p % 18446744073709551616) (show 0 < d by omega)
  have h4 := Int.emod_nonneg (p % 18446744073709551616) (show d ≠ 0 by omega)
  rw [IntKind.wrap_u64, Int.tmod_eq_emod_of_nonneg (by omega), wrap_i64 (x := p % 18446744073709551616 % d) (by omega) (by omega), wrap_i64 (by omega) (by omega)]
theorem rbFix_spec (s : Sz) : HCalls Tryz.prog 37 #[.agg #[.int .i64 s.sh, .int .i64 s.bk, .int .i64 s.sl]] h (fun v h' => v = .agg #[.int .i64 (fixSz s).sh, .int .i64 (fixSz s).bk, .int .i64 (fixSz s).sl] ∧ Ext h h') := by
  refine xcalls env0 Tryz.func37 rfl (by kernel_rfl) rfl (by kernel_rfl) ?_
  intro zb h1 n1 rb h2 n2
  have hz := n2.ext.blk n1.this
  refine ⟨_, cell_blk hz rfl, by decide, _, cell_blk hz rfl, by decide, _, cell_blk hz rfl, by decide, rfl, rfl, canset_blk n2.this rfl, fun h3 s3 => ?_⟩
  have s3' : Stored h2 ⟨rb, 0, none⟩ [.int .i64 (IntKind.i64.wrap (1 + IntKind.i64.wrap ((IntKind.u64.wrap s.sh).tmod 8))), .int .i64 (IntKind.i64.wrap (1 + IntKind.i64.wrap ((IntKind.u64.wrap s.bk).tmod 16))), .int .i64 (IntKind.i64.wrap (1 + IntKind.i64.wrap ((IntKind.u64.wrap s.sl).tmod 8)))] h3 := s3
  rw [fix_eq _ 8 (by decide) (by decide), fix_eq _ 16 (by decide) (by decide), fix_eq _ 8 (by decide) (by decide)] at s3'
  have hr : h3[rb]? = some (.cells [.int .i64 (fixSz s).sh, .int .i64 (fixSz s).bk, .int .i64 (fixSz s).sl].toArray 25 (0, 0)) := s3'.put n2.this
  exact ⟨_, rfl, reads_all hr, rfl, (n1.ext.trans n2.ext).stored s3 (n2.ge n1.ext)⟩
theorem rbRight_spec (s : Sz) : HCalls Tryz.prog 108 #[.agg #[.int .i64 s.sh, .int .i64 s.bk, .int .i64 s.sl]] h (fun v h' => v = .bool (rightM s) ∧ Ext h h') := by
  refine xcalls env0 Tryz.func108 rfl (by kernel_rfl) rfl (by kernel_rfl) ?_
  intro zb h1 n1
  have hz := n1.this
  refine ⟨_, cell_blk hz rfl, xif_of (fun q1 => ?_) (fun q1 => ?_)⟩
  · have q1 : s.sh ≥ 1 := of_decide_eq_true q1
    refine ⟨_, cell_blk hz rfl, xif_of (fun q2 => ?_) (fun q2 => ?_)⟩
    · have q2 : s.sh ≤ 8 := of_decide_eq_true q2
      refine ⟨_, cell_blk hz rfl, xif_of (fun q3 => ?_) (fun q3 => ?_)⟩
      · have q3 : s.bk ≥ 1 := of_decide_eq_true q3
        refine ⟨_, cell_blk hz rfl, xif_of (fun q4 => ?_) (fun q4 => ?_)⟩
        · have q4 : s.bk ≤ 16 := of_decide_eq_true q4
          refine ⟨_, cell_blk hz rfl, xif_of (fun q5 => ?_) (fun q5 => ?_)⟩
          · have q5 : s.sl ≥ 1 := of_decide_eq_true q5
            refine ⟨_, cell_blk hz rfl, ?_⟩
            exact ⟨congrArg Value.bool (by rw [Bool.eq_iff_iff]; simp [rightM]; omega), n1.ext⟩
          · have q5 : ¬ s.sl ≥ 1 := of_decide_eq_false q5
            exact ⟨congrArg Value.bool (by rw [Bool.eq_iff_iff]; simp [rightM]; omega), n1.ext⟩
        · have q4 : ¬ s.bk ≤ 16 := of_decide_eq_false q4
          exact ⟨congrArg Value.bool (by rw [Bool.eq_iff_iff]; simp [rightM]; omega), n1.ext⟩
      · have q3 : ¬ s.bk ≥ 1 := of_decide_eq_false q3
        exact ⟨congrArg Value.bool (by rw [Bool.eq_iff_iff]; simp [rightM]; omega), n1.ext⟩
    · have q2 : ¬ s.sh ≤ 8 := of_decide_eq_false q2
      exact ⟨congrArg Value.bool (by rw [Bool.eq_iff_iff]; simp [rightM]; omega), n1.ext⟩
  · have q1 : ¬ s.sh ≥ 1 := of_decide_eq_false q1
    exact ⟨congrArg Value.bool (by rw [Bool.eq_iff_iff]; simp [rightM]; omega), n1.ext⟩
end
end Go.Proofs.YtjjempefncgfhaaGreatDoorE
