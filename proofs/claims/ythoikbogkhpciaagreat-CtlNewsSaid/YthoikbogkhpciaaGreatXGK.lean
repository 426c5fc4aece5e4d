/- A change of entries is begun. Conditions: the entries are there. -/
import Derived.Test.YthoikbogkhpciaaGreatXGJ
set_option linter.unusedVariables false
set_option linter.unusedSimpArgs false
set_option maxRecDepth 100000
namespace Go.Proofs.YthoikbogkhpciaaGreatE
open Go Go.Proofs
def env_dWhere : Nat → Ann
  | 1 => ⟨.op 0 [] <| .op 1 [] <| .op 2 [] <| .op 3 [] <| .op 4 [] <| .op 5 [] <| .op 6 [] <| .op 7 [] <| .op 8 [] <| .op 9 [] <| .op 10 [] <| .op 11 [] <| .op 12 [] <| .op 13 [] <| .op 14 [] <| .op 15 [] <| .op 16 [] <| .op 17 [] <| .op 18 [] <| .op 19 [] <| .op 20 [] <| .op 21 [] <| .op 22 [] <| .op 23 [] <| .op 24 [] <| .op 25 [] <| .op 26 [] <| .op 27 [] <| .op 28 [] <| .op 29 [] <| .nil, [0, 1, 3, 7, 0, 0, 32, 96, 224, 480, 1008, 0, 4080, 0, 8192, 24576, 57344, 122880, 253952, 516096, 1048560, 2097151, 0, 4194304, 12582912, 29360128, 0, 130023424, 268435455, 536870911], false⟩
  | _ => ⟨.nil, [], false⟩
def env_dKeyed : Nat → Ann
  | 3 => ⟨.op 0 [] <| .op 1 [] <| .op 2 [] <| .op 3 [] <| .op 4 [] <| .op 5 [] <| .op 6 [] <| .op 7 [] <| .op 8 [] <| .op 9 [] <| .op 10 [] <| .op 11 [] <| .op 12 [] <| .op 13 [] <| .op 14 [] <| .op 15 [] <| .op 16 [] <| .nil, [0, 0, 2, 6, 14, 30, 0, 64, 192, 448, 960, 2047, 4095, 8191, 8191, 16383, 65535], false⟩
  | _ => ⟨.nil, [], false⟩
def env_cEntry : Nat → Ann
  | 4 => ⟨.op 0 [] <| .op 1 [] <| .op 2 [] <| .op 3 [] <| .op 4 [] <| .op 5 [] <| .op 6 [] <| .op 7 [] <| .op 8 [] <| .op 9 [] <| .op 10 [] <| .op 11 [] <| .op 12 [] <| .nil, [0, 1, 3, 7, 0, 0, 32, 0, 128, 0, 512, 2047, 4095], false⟩
  | 6 => ⟨.op 0 [] <| .op 1 [] <| .op 2 [] <| .op 3 [] <| .op 4 [] <| .op 5 [] <| .op 6 [] <| .op 7 [] <| .op 8 [] <| .nil, [0, 1, 3, 7, 0, 0, 32, 127, 255], false⟩
  | 8 => ⟨.op 0 [] <| .op 1 [] <| .op 2 [] <| .op 3 [] <| .op 4 [] <| .op 5 [] <| .op 6 [] <| .op 7 [] <| .op 8 [] <| .op 9 [] <| .op 10 [] <| .op 11 [] <| .nil, [0, 1, 3, 7, 0, 0, 32, 0, 128, 480, 1023, 2047], false⟩
  | _ => ⟨.nil, [], false⟩
/-- Entries' place in memory. -/
structure DbV where
  mb : Nat
  base : Int
  lock : Int
  s : Sz
  tries : Int
def encDb (d : DbV) : List Value := [.pointer (some ⟨d.mb, 0, none⟩), .int .i64 d.base, .int .i64 d.lock, .int .i64 d.s.sh, .int .i64 d.s.bk, .int .i64 d.s.sl, .int .i64 d.tries]
def DbAt (h : Heap) (db : Nat) (d : DbV) : Prop := h[db]? = some (.cells (encDb d).toArray 209 (0, 0))
def encAt (x : Int × Int) : List Value := [.int .i64 x.1, .int .i64 x.2]
theorem encAt_len (x : Int × Int) : (encAt x).length = 2 := rfl
theorem encAt_one (x : Int × Int) : (encAt x).all Value.oneCell' = true := rfl
theorem atInfo : (Tryz.prog.info? 213).map (fun i => (i.size, i.bytes)) = some (2, 16) := by kernel_rfl
theorem atZero : xzero Tryz.prog 213 = some [.int .i64 0, .int .i64 0] := by kernel_rfl
section
variable {h h' : Heap} {db : Nat} {d : DbV} {who : Int}
theorem dWhere_spec (H : DbAt h db d) (x y : Int) : HCalls Tryz.prog 140 #[.pointer (some ⟨db, 0, none⟩), .int .i64 x, .int .i64 y] h (fun v h' => ∃ z : Int × Int, v = .agg (encAt z).toArray ∧ Ext h h') := by
  refine xcalls env_dWhere Tryz.func140 rfl (by kernel_rfl) rfl (by kernel_rfl) ?_
  intro zb h1 n1
  have H1 := n1.ext.blk H
  repeat (first | refine ⟨_, cell_blk (H1) rfl, ?_⟩)
  refine ⟨rfl, rfl, canset_blk n1.this rfl, fun h2 s2 => ?_⟩
  have hb2 : h2[zb]? = some (.cells (encAt (IntKind.i64.wrap (d.base + IntKind.i64.wrap (IntKind.i64.wrap (IntKind.i64.wrap (x * d.s.bk) + y) * IntKind.i64.wrap (1 + IntKind.i64.wrap (2 * d.s.sl)))), IntKind.i64.wrap (d.lock + x))).toArray _ (0, 0)) := s2.put n1.this
  exact ⟨_, rfl, reads_all hb2, _, rfl, n1.ext.stored s2 (n1.ge (Ext.refl _))⟩
theorem dThere_spec (H : DbAt h db d) {x y : Int} (x0 : 0 ≤ x) (x1 : x < d.s.sh) (y0 : 0 ≤ y) (y1 : y < d.s.bk) : HCalls Tryz.prog 139 #[.pointer (some ⟨db, 0, none⟩), .int .i64 x, .int .i64 y] h (fun v h' => v = .bool true ∧ h' = h) := by
  refine xcalls env0 Tryz.func139 rfl (by kernel_rfl) rfl (by kernel_rfl) ?_
  refine xif_true (decide_eq_true x0) ?_
  repeat (first | refine ⟨_, cell_blk (H) rfl, ?_⟩)
  refine xif_true (decide_eq_true x1) ?_
  refine xif_true (decide_eq_true y0) ?_
  repeat (first | refine ⟨_, cell_blk (H) rfl, ?_⟩)
  exact ⟨congrArg Value.bool (decide_eq_true y1), rfl⟩
theorem dMay_spec (x : Int) : HCalls Tryz.prog 165 #[.int .i64 x] h (fun v h' => v = .bool (decide (0 ≤ x) && decide (x < 64)) ∧ h' = h) := by
  refine xcalls env0 Tryz.func165 rfl (by kernel_rfl) rfl (by kernel_rfl) ?_
  refine xif_of (fun g => ?_) (fun g => ?_)
  · have g : decide (x ≥ 0) = true := g
    rw [show decide (0 ≤ x) = true from g, Bool.true_and]
    exact ⟨rfl, rfl⟩
  · have g : decide (x ≥ 0) = false := g
    rw [show decide (0 ≤ x) = false from g, Bool.false_and]
    exact ⟨rfl, rfl⟩
def actV (db : Nat) (who : Int) : List Value := [.pointer (some ⟨db, 0, none⟩), .int .i64 who, .func (.func 198) #[] #[], .int .i64 0, .int .i64 0, .int .i64 0, .int .i64 0, .int .i64 0, .int .u64 0, .int .u64 0, .int .i64 0, .bool false, .slice none 0 0, .int .i64 0, .slice none 0 0, .nilFunc, .slice none 0 0, .int .i64 0, .int .i64 0, .slice none 0 0, .int .i64 0]
theorem dBegin_spec (hw : 0 ≤ who) : HCalls Tryz.prog 197 #[.pointer (some ⟨db, 0, none⟩), .int .i64 who, .bool true, .func (.func 198) #[] #[]] h (fun v h' => ∃ p, v = .pointer (some ⟨p, 0, none⟩) ∧ h.size ≤ p ∧ h'[p]? = some (.cells (actV db who).toArray 245 (0, 0)) ∧ Ext h h') := by
  refine xcalls env0 Tryz.func197 rfl (by kernel_rfl) rfl (by kernel_rfl) ?_
  refine xif_false (decide_eq_false (show ¬ who < 0 by omega)) ?_
  intro p h1 n1
  exact ⟨p, rfl, n1.ge (Ext.refl _), n1.this, n1.ext⟩
theorem dChanges_spec (hw : 0 ≤ who) {a1 a2 : Option Addr} {n1 c1 n2 c2 f : Nat} {cap : Array Value} : HCalls Tryz.prog 171 #[.pointer (some ⟨db, 0, none⟩), .int .i64 who, .bool true, .slice a1 n1 c1, .slice a2 n2 c2, .func (.func f) #[] cap] h (fun v h' => (∃ p, v = .pointer (some ⟨p, 0, none⟩)) ∧ Ext h h') := by
  refine xcalls env0 Tryz.func171 rfl (by kernel_rfl) rfl (by kernel_rfl) ?_
  refine (dBegin_spec hw).mono ?_
  rintro v h1 ⟨p, rfl, gp, hp, x1⟩
  refine ⟨rfl, rfl, canset_blk hp rfl, fun h2 s2 => ?_⟩
  exact ⟨⟨p, rfl⟩, x1.stored s2 gp⟩
theorem dOne_spec (H : DbAt h db d) (hw : 0 ≤ who) {x y : Int} (x0 : 0 ≤ x) (x1 : x < d.s.sh) (y0 : 0 ≤ y) (y1 : y < d.s.bk) {f : Nat} {cap : Array Value} : HCalls Tryz.prog 192 #[.pointer (some ⟨db, 0, none⟩), .int .i64 who, .int .i64 x, .int .i64 y, .func (.func f) #[] cap] h (fun v h' => (∃ p, v = .pointer (some ⟨p, 0, none⟩)) ∧ Ext h h') := by
  refine xcalls env0 Tryz.func192 rfl (by kernel_rfl) rfl (by kernel_rfl) ?_
  refine (dThere_spec H x0 x1 y0 y1).mono ?_
  rintro v h1 ⟨rfl, rfl⟩
  refine (dWhere_spec H x y).mono ?_
  rintro v h2 ⟨z, rfl, x2⟩
  intro b h3 n3
  refine ⟨rfl, rfl, canset_blk n3.this rfl, fun h4 s4 => ?_⟩
  have hb4 : h4[b]? = some (.cells (encAt z).toArray 213 (0, 0)) := s4.put n3.this
  have x4 := (x2.trans n3.ext).stored s4 (n3.ge x2)
  repeat (first | refine ⟨_, cell_blk (hb4) rfl, ?_⟩)
  intro kb h5 n5
  have hb5 := n5.ext.blk hb4
  refine ⟨encAt z, rfl, reads_all hb5, ?_⟩
  intro bb h6 n6
  refine (dChanges_spec hw).mono ?_
  rintro v h7 ⟨⟨p, rfl⟩, x7⟩
  exact ⟨⟨p, rfl⟩, ((x4.trans n5.ext).trans n6.ext).trans x7⟩
theorem dKeyed_spec (H : DbAt h db d) (o : d.s.Ok) (hw : 0 ≤ who) {vid mac : Int} (w : KeyWf vid mac) {f : Nat} {cap : Array Value} : HCalls Tryz.prog 166 #[.pointer (some ⟨db, 0, none⟩), .int .i64 who, .agg #[.int .i64 vid, .int .u64 mac], .func (.func f) #[] cap] h (fun v h' => (if keyOk vid mac = true then ∃ p, v = .pointer (some ⟨p, 0, none⟩) else v = .pointer none) ∧ Ext h h') := by
  refine xcalls env_dKeyed Tryz.func166 rfl (by kernel_rfl) rfl (by kernel_rfl) ?_
  intro kb h1 n1
  have hk : h1[kb]? = some (.cells [Value.int .i64 vid, .int .u64 mac].toArray _ (0, 0)) := n1.this
  have H1 := n1.ext.blk H
  refine ⟨_, rfl, reads_all hk, ?_⟩
  refine (keyRight_spec w _).mono ?_
  rintro v h2 ⟨rfl, x2⟩
  have H2 := x2.blk H1
  have hk2 := x2.blk hk
  refine xif_of (fun g => ?_) (fun g => ?_)
  · have g : keyOk vid mac = false := by simpa using g
    rw [g]
    exact ⟨rfl, n1.ext.trans x2⟩
  · have g : keyOk vid mac = true := by simpa using g
    rw [g]
    refine ⟨_, rfl, reads_all hk2, ?_⟩
    repeat (first | refine ⟨_, cell_blk (H2) rfl, ?_⟩)
    refine (kPlace_spec w o.sh1 o.sh2 o.bk1 o.bk2 _).mono ?_
    rintro v h3 ⟨rfl, x3⟩
    have hk3 := x3.blk hk2
    have H3 := x3.blk H2
    try (refine ⟨⟨reads_all hk3, trivial⟩, ?_⟩)
    obtain ⟨a1, a2, a3, a4⟩ := placeM_range (vid := vid) (mac := mac) o.sh1 o.bk1
    refine (dOne_spec H3 hw a1 a2 a3 a4).mono ?_
    rintro v h4 ⟨⟨p, rfl⟩, x4⟩
    exact ⟨⟨p, rfl⟩, ((n1.ext.trans x2).trans x3).trans x4⟩
theorem dOrder_spec (H : DbAt h db d) (o : d.s.Ok) (hw : 0 ≤ who) {vid mac port now : Int} (w : KeyWf vid mac) (p0 : 0 ≤ port) (p1 : port < 64) (hk : keyOk vid mac = true) : HCalls Tryz.prog 118 #[.pointer (some ⟨db, 0, none⟩), .int .i64 who, .agg #[.int .i64 vid, .int .u64 mac], .int .i64 port, .int .u32 now] h (fun v h' => (∃ p, v = .pointer (some ⟨p, 0, none⟩)) ∧ Ext h h') := by
  refine xcalls env0 Tryz.func118 rfl (by kernel_rfl) rfl (by kernel_rfl) ?_
  intro kb h1 n1 pb h2 n2 nb h3 n3
  have x3 := (n1.ext.trans n2.ext).trans n3.ext
  have hkb : h3[kb]? = some (.cells [Value.int .i64 vid, .int .u64 mac].toArray _ (0, 0)) := n3.ext.blk (n2.ext.blk n1.this)
  have hpb := n3.ext.blk n2.this
  repeat (first | refine ⟨_, cell_blk (hpb) rfl, ?_⟩)
  refine (dMay_spec port).mono ?_
  rintro v h4 ⟨rfl, rfl⟩
  refine xif_false (by rw [decide_eq_true p0, decide_eq_true p1]; rfl) ?_
  refine ⟨_, rfl, reads_all hkb, ?_⟩
  refine (dKeyed_spec (x3.blk H) o hw w).mono ?_
  rintro v h5 ⟨r, x5⟩
  rw [if_pos hk] at r
  obtain ⟨p, rfl⟩ := r
  exact ⟨⟨p, rfl⟩, x3.trans x5⟩
theorem dDrop_spec (H : DbAt h db d) (o : d.s.Ok) (hw : 0 ≤ who) {vid mac : Int} (w : KeyWf vid mac) : HCalls Tryz.prog 119 #[.pointer (some ⟨db, 0, none⟩), .int .i64 who, .agg #[.int .i64 vid, .int .u64 mac]] h (fun v h' => (if keyOk vid mac = true then ∃ p, v = .pointer (some ⟨p, 0, none⟩) else v = .pointer none) ∧ Ext h h') := by
  refine xcalls env0 Tryz.func119 rfl (by kernel_rfl) rfl (by kernel_rfl) ?_
  intro kb h1 n1
  have hk : h1[kb]? = some (.cells [Value.int .i64 vid, .int .u64 mac].toArray _ (0, 0)) := n1.this
  refine ⟨_, rfl, reads_all hk, ?_⟩
  refine (dKeyed_spec (n1.ext.blk H) o hw w).mono ?_
  rintro v h2 ⟨r, x2⟩
  exact ⟨r, n1.ext.trans x2⟩
theorem dFlush_spec (H : DbAt h db d) (o : d.s.Ok) (hw : 0 ≤ who) {port vid : Int} : HCalls Tryz.prog 120 #[.pointer (some ⟨db, 0, none⟩), .int .i64 who, .agg #[.int .i64 port, .int .i64 vid]] h (fun v h' => (∃ p, v = .pointer (some ⟨p, 0, none⟩)) ∧ Ext h h') := by
  refine xcalls env0 Tryz.func120 rfl (by kernel_rfl) rfl (by kernel_rfl) ?_
  intro fb h1 n1
  have H1 := n1.ext.blk H
  repeat (first | refine ⟨_, cell_blk (H1) rfl, ?_⟩)
  have s1 := o.sh1
  have s2 := o.sh2
  have b1 := o.bk1
  have b2 := o.bk2
  refine ⟨Nat × (Option Addr × Nat) × (Option Addr × Nat × Nat), fun z => [(0, .pointer (some ⟨db, 0, none⟩)), (1, .int .i64 who), (5, .pointer (some ⟨fb, 0, none⟩)), (7, .slice z.2.1.1 z.1 z.2.1.2), (8, .slice z.2.2.1 z.2.2.2.1 z.2.2.2.2), (17, .int .i64 d.s.sh), (18, .int .i64 (z.1 : Int))],
    fun z h' => (z.1 : Int) ≤ d.s.sh ∧ z.2.2.2.1 ≤ 16 * z.1 ∧ (∃ xs, xs.length = z.1 ∧ OwnA encI 1 3 h.size h' z.2.1.1 z.2.1.2 xs) ∧ (∃ ys, ys.length = z.2.2.2.1 ∧ OwnA encAt 2 213 h.size h' z.2.2.1 z.2.2.2.2 ys) ∧ Ext h h', fun z => 8 - z.1, (0, (none, 0), (none, 0, 0)), ⟨rfl, rfl, rfl, rfl, rfl, rfl, rfl, trivial⟩, ⟨by show (0 : Int) ≤ d.s.sh; omega, Nat.zero_le _, ⟨[], rfl, .inl ⟨rfl, rfl, rfl⟩⟩, ⟨[], rfl, .inl ⟨rfl, rfl, rfl⟩⟩, n1.ext⟩, ?_⟩
  rintro ⟨k, ⟨A, c⟩, ⟨A2, m, c2⟩⟩ h2 ⟨hk, hm, ⟨xs, hxs, ox⟩, ⟨ys, hys, oy⟩, x2⟩
  simp only at hk hm hxs ox hys oy
  have H2 := x2.blk H
  refine xif_of (fun g => ?_) (fun g => ?_)
  · have g : (k : Int) < d.s.sh := of_decide_eq_true g
    repeat (first | refine ⟨_, cell_blk (H2) rfl, ?_⟩)
    intro nb h3 n3
    have n3' : New h2 h3 nb (.cells (encI (IntKind.i64.wrap (d.lock + k))).toArray 3) := n3
    refine xappend_one' inInfo inZero rfl (by decide) encI_len encI_one ox n3' hxs (by show (k + 1) * 8 ≤ 140737488355328; omega) x2.size fun A' c' h4 o4 K4 _ => ?_
    have oy4 := oy.keepO K4 ox (.inl (by decide))
    have x4 : Ext h h4 := K4.ext x2 ox.ge
    have H4 := x4.blk H
    repeat (first | refine ⟨_, cell_blk (H4) rfl, ?_⟩)
    refine ⟨Nat × (Option Addr × Nat × Nat), fun z => [(0, .pointer (some ⟨db, 0, none⟩)), (1, .int .i64 who), (5, .pointer (some ⟨fb, 0, none⟩)), (7, .slice A' (k + 1) c'), (8, .slice z.2.1 z.2.2.1 z.2.2.2), (9, .int .i64 (k : Int)), (17, .int .i64 d.s.sh), (18, .int .i64 (k : Int)), (34, .int .i64 d.s.bk), (35, .int .i64 (z.1 : Int))],
      fun z h' => (z.1 : Int) ≤ d.s.bk ∧ z.2.2.1 ≤ 16 * k + z.1 ∧ (∃ xs, xs.length = k + 1 ∧ OwnA encI 1 3 h.size h' A' c' xs) ∧ (∃ ys, ys.length = z.2.2.1 ∧ OwnA encAt 2 213 h.size h' z.2.1 z.2.2.2 ys) ∧ Ext h h', fun z => 16 - z.1, (0, A2, m, c2), ⟨rfl, rfl, rfl, rfl, rfl, rfl, rfl, rfl, rfl, rfl, trivial⟩, ⟨by show (0 : Int) ≤ d.s.bk; omega, hm, ⟨_, by rw [List.length_append, hxs]; rfl, o4⟩, ⟨ys, hys, oy4⟩, x4⟩, ?_⟩
    rintro ⟨j, A3, m3, c3⟩ h5 ⟨hj, hm3, ⟨xs5, hxs5, ox5⟩, ⟨ys5, hys5, oy5⟩, x5⟩
    simp only at hj hm3 hys5 oy5
    have H5 := x5.blk H
    refine xif_of (fun g2 => ?_) (fun g2 => ?_)
    · have g2 : (j : Int) < d.s.bk := of_decide_eq_true g2
      refine (dWhere_spec H5 (k : Int) (j : Int)).mono ?_
      rintro v h6 ⟨z, rfl, x6⟩
      intro nb7 h7 n7
      have n7' : New h6 h7 nb7 (.cells (encAt z).toArray 213) := n7
      refine xappend_one' atInfo atZero rfl (by decide) encAt_len encAt_one (oy5.ext x6) n7' hys5 (by show (m3 + 1) * 16 ≤ 140737488355328; omega) (x5.trans x6).size fun A8 c8 h8 o8 K8 _ => ?_
      have ox8 := (ox5.ext x6).keepO K8 (oy5.ext x6) (.inl (by decide))
      have x8 : Ext h h8 := K8.ext (x5.trans x6) (oy5.ext x6).ge
      refine ⟨(j + 1, A8, m3 + 1, c8), ⟨rfl, rfl, rfl, rfl, rfl, rfl, rfl, rfl, rfl, slot_inc (by omega), trivial⟩, ⟨by show ((j + 1 : Nat) : Int) ≤ d.s.bk; omega, by show m3 + 1 ≤ 16 * k + (j + 1); omega, ⟨xs5, hxs5, ox8⟩, ⟨_, by rw [List.length_append, hys5]; rfl, o8⟩, x8⟩, by show 16 - (j + 1) < 16 - j; omega⟩
    · have g2 : ¬ (j : Int) < d.s.bk := of_decide_eq_false g2
      refine ⟨(k + 1, (A', c'), (A3, m3, c3)), ⟨rfl, rfl, rfl, rfl, rfl, rfl, slot_inc (by omega), trivial⟩, ⟨by show ((k + 1 : Nat) : Int) ≤ d.s.sh; omega, by show m3 ≤ 16 * (k + 1); omega, ⟨xs5, hxs5, ox5⟩, ⟨ys5, hys5, oy5⟩, x5⟩, by show 8 - (k + 1) < 8 - k; omega⟩
  · refine (dChanges_spec hw).mono ?_
    rintro v h3 ⟨⟨p, rfl⟩, x3⟩
    exact ⟨⟨p, rfl⟩, x2.trans x3⟩
/-- An order that changes entries. -/
def mayE (F : Fb) (o : Op17) : Bool := if o.kind = 4 then (decide (0 ≤ o.port) && decide (o.port < F.P)) && keyOk o.kvid o.mac else if o.kind = 5 then keyOk o.kvid o.mac else decide (o.kind = 7)
theorem cEntry_spec {F : Fb} {o : Op17} (H : FabAt h F) (D : DbAt h F.db d) (ok : d.s.Ok) (hw : 0 ≤ who) (w : KeyWf o.kvid o.mac) : HCalls Tryz.prog 71 #[.pointer (some ⟨F.fb, 0, none⟩), .int .i64 who, .agg (encO17 o).toArray] h (fun v h' => (if mayE F o = true then ∃ p, v = .pointer (some ⟨p, 0, none⟩) else v = .pointer none) ∧ Ext h h') := by
  have p2 := H.p2
  refine xcalls env_cEntry Tryz.func71 rfl (by kernel_rfl) rfl (by kernel_rfl) ?_
  intro ob h1 n1
  have hob : h1[ob]? = some (.cells (encO17 o).toArray 68 (0, 0)) := n1.this
  have H1 := H.ext n1.ext
  have D1 := n1.ext.blk D
  obtain ⟨RA, rc, hb', hr⟩ := H1.blk
  repeat (first | refine ⟨_, cell_blk (hob) rfl, ?_⟩)
  refine xif_of (fun g => ?_) (fun g => ?_)
  · have g : o.kind = 4 := by simpa using g
    repeat (first | refine ⟨_, cell_blk (hob) rfl, ?_⟩)
    refine (cHas_spec H1 o.port).mono ?_
    rintro v h2 ⟨rfl, rfl⟩
    unfold mayE
    rw [if_pos g]
    refine xif_of (fun g2 => ?_) (fun g2 => ?_)
    · have g2 : (decide (0 ≤ o.port) && decide (o.port < F.P)) = true := g2
      rw [g2, Bool.true_and]
      have gp : 0 ≤ o.port ∧ o.port < F.P := by simpa using g2
      refine ⟨[.int .i64 o.kvid, .int .u64 o.mac], rfl, reads_at hob rfl, ?_⟩
      refine (keyRight_spec w _).mono ?_
      rintro v h3 ⟨rfl, x3⟩
      have hob3 := x3.blk hob
      have hb3 := x3.blk hb'
      refine xif_of (fun g3 => ?_) (fun g3 => ?_)
      · have g3 : keyOk o.kvid o.mac = true := g3
        rw [g3]
        repeat (first | refine ⟨_, cell_blk (hb3) rfl, ?_⟩)
        refine ⟨[.int .i64 o.kvid, .int .u64 o.mac], rfl, reads_at hob3 rfl, ?_⟩
        repeat (first | refine ⟨_, cell_blk (hob3) rfl, ?_⟩)
        refine (dOrder_spec (x3.blk D1) ok hw w gp.1 (by omega) g3).mono ?_
        rintro v h4 ⟨⟨p, rfl⟩, x4⟩
        exact ⟨⟨p, rfl⟩, (n1.ext.trans x3).trans x4⟩
      · have g3 : keyOk o.kvid o.mac = false := g3
        rw [g3]
        exact ⟨rfl, n1.ext.trans x3⟩
    · have g2 : (decide (0 ≤ o.port) && decide (o.port < F.P)) = false := g2
      rw [g2, Bool.false_and]
      exact ⟨rfl, n1.ext⟩
  have g4 : o.kind ≠ 4 := by simpa using g
  unfold mayE
  rw [if_neg g4]
  refine xif_of (fun g => ?_) (fun g => ?_)
  · have g : o.kind = 5 := by simpa using g
    rw [if_pos g]
    repeat (first | refine ⟨_, cell_blk (hb') rfl, ?_⟩)
    refine ⟨[.int .i64 o.kvid, .int .u64 o.mac], rfl, reads_at hob rfl, ?_⟩
    refine (dDrop_spec D1 ok hw w).mono ?_
    rintro v h4 ⟨r, x4⟩
    exact ⟨r, n1.ext.trans x4⟩
  have g5 : o.kind ≠ 5 := by simpa using g
  rw [if_neg g5]
  refine xif_of (fun g => ?_) (fun g => ?_)
  · have g : o.kind = 7 := by simpa using g
    rw [decide_eq_true g]
    repeat (first | refine ⟨_, cell_blk (hb') rfl, ?_⟩ | refine ⟨_, cell_blk (hob) rfl, ?_⟩)
    refine (dFlush_spec D1 ok hw).mono ?_
    rintro v h4 ⟨⟨p, rfl⟩, x4⟩
    exact ⟨⟨p, rfl⟩, n1.ext.trans x4⟩
  · have g7 : o.kind ≠ 7 := by simpa using g
    rw [decide_eq_false g7]
    exact ⟨rfl, n1.ext⟩
end
end Go.Proofs.YthoikbogkhpciaaGreatE
