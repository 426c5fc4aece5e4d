/- What the law's own look of layer 20 answers. Conditions: none. -/
import Derived.Test.YtjjempefncgfhaaGreatDoorXI1
set_option linter.unusedVariables false
set_option linter.unusedSimpArgs false
set_option maxRecDepth 100000
namespace Go.Proofs.YtjjempefncgfhaaGreatDoorE
open Go Go.Proofs
def env_iStep2 : Nat → Ann
  | 4 => ⟨.op 0 [] <| .op 1 [] <| .op 2 [] <| .op 3 [] <| .op 4 [] <| .op 5 [] <| .op 6 [] <| .op 7 [] <| .op 8 [] <| .op 9 [4] <| .op 10 [] <| .op 11 [] <| .op 12 [] <| .op 13 [] <| .nil, [0, 0, 2, 6, 14, 0, 32, 96, 224, 480, 1022, 2047, 4095, 8191], false⟩
  | _ => ⟨.nil, [], false⟩
def env_iDone2 : Nat → Ann
  | 7 => ⟨.op 0 [] <| .op 1 [] <| .op 2 [] <| .op 3 [] <| .op 4 [] <| .op 5 [] <| .op 6 [] <| .op 7 [] <| .op 8 [] <| .op 10 [] <| .op 11 [] <| .op 12 [] <| .op 13 [] <| .op 14 [] <| .op 9 [14] <| .op 15 [] <| .op 16 [] <| .op 17 [] <| .op 18 [] <| .op 19 [] <| .op 20 [] <| .op 21 [] <| .nil, [0, 0, 0, 0, 0, 0, 48, 112, 240, 496, 0, 0, 3072, 7168, 15360, 32752, 65523, 131059, 262131, 524287, 1048575, 2097151], false⟩
  | _ => ⟨.nil, [], false⟩
def env_iBound2 : Nat → Ann
  | 4 => ⟨.op 0 [] <| .op 1 [] <| .op 2 [] <| .op 3 [] <| .op 7 [] <| .op 8 [] <| .op 9 [] <| .op 4 [8] <| .op 5 [] <| .op 6 [] <| .op 10 [] <| .op 11 [] <| .nil, [0, 1, 0, 4, 15, 31, 63, 0, 128, 384, 1023, 2047], false⟩
  | _ => ⟨.nil, [], false⟩
def env_lINews : Nat → Ann
  | 8 => ⟨.op 0 [] <| .op 1 [] <| .op 2 [] <| .op 3 [] <| .op 4 [] <| .op 5 [] <| .op 6 [] <| .op 7 [] <| .op 8 [] <| .op 9 [] <| .op 10 [] <| .op 11 [] <| .op 12 [] <| .op 13 [] <| .op 14 [] <| .op 15 [] <| .op 16 [] <| .op 17 [] <| .op 18 [] <| .op 19 [] <| .op 20 [] <| .op 21 [] <| .op 22 [] <| .op 23 [] <| .op 24 [] <| .op 25 [] <| .op 26 [] <| .op 27 [] <| .op 28 [] <| .op 29 [] <| .op 30 [] <| .op 31 [] <| .op 32 [] <| .op 33 [] <| .op 34 [] <| .op 35 [] <| .op 36 [] <| .op 37 [] <| .op 39 [] <| .op 38 [39] <| .op 40 [] <| .op 41 [] <| .op 42 [] <| .nil, [0, 1, 3, 7, 15, 31, 63, 127, 255, 511, 1023, 2047, 4095, 8191, 16383, 32767, 65535, 131071, 262143, 524287, 1048575, 2097151, 4194303, 8388607, 16777215, 33554431, 67108863, 134217727, 268435455, 536870911, 1073741823, 2147483647, 4294967295, 8589934591, 17179869183, 34359738367, 68719476735, 137438953471, 274877906943, 137438953471, 1099511627775, 2199023255551, 4398046511103], false⟩
  | _ => ⟨.nil, [], false⟩
def env_iDone : Nat → Ann
  | 7 => ⟨.op 0 [] <| .op 1 [] <| .op 2 [] <| .op 3 [] <| .op 4 [] <| .op 5 [] <| .op 6 [] <| .op 7 [] <| .op 8 [] <| .op 10 [] <| .op 11 [] <| .op 12 [] <| .op 13 [] <| .op 14 [] <| .op 9 [14] <| .op 15 [] <| .op 16 [] <| .op 17 [] <| .op 18 [] <| .op 19 [] <| .op 20 [] <| .op 21 [] <| .nil, [0, 0, 0, 0, 0, 0, 48, 112, 240, 496, 0, 0, 3072, 7168, 15360, 32752, 65523, 131059, 262131, 524287, 1048575, 2097151], false⟩
  | _ => ⟨.nil, [], false⟩
def env_lBound20 : Nat → Ann
  | 1 => ⟨.op 0 [] <| .op 1 [] <| .op 2 [] <| .op 3 [] <| .op 7 [] <| .op 8 [] <| .op 9 [] <| .op 4 [8] <| .op 5 [] <| .op 6 [] <| .op 10 [] <| .op 11 [] <| .nil, [0, 1, 0, 4, 15, 31, 63, 0, 128, 384, 1023, 2047], false⟩
  | _ => ⟨.nil, [], false⟩
def bndM (s : Sz) (tries : Int) : Int := 16 + tries * (4 + 4 * s.sl) + s.sh * (4 + s.bk * (8 + 8 * s.sl))
theorem bndM_range {s : Sz} (o : s.Ok) {tries : Int} (t1 : 1 ≤ tries) (t2 : tries ≤ 8) : 1 ≤ bndM s tries ∧ bndM s tries ≤ 20000 := by
  obtain ⟨a, b, c, d, e, f⟩ := o
  obtain ⟨p1, p2⟩ := mul_bd (a := tries) (b := 4 + 4 * s.sl) (m := 8) (n := 36) (by omega) t2 (by omega) (by omega)
  obtain ⟨q1, q2⟩ := mul_bd (a := s.bk) (b := 8 + 8 * s.sl) (m := 16) (n := 72) (by omega) (by omega) (by omega) (by omega)
  obtain ⟨r1, r2⟩ := mul_bd (a := s.sh) (b := 4 + s.bk * (8 + 8 * s.sl)) (m := 8) (n := 4 + 16 * 72) (by omega) (by omega) (by omega) (by omega)
  unfold bndM
  omega
theorem bndM_wrap {s : Sz} (o : s.Ok) {tries : Int} (t1 : 1 ≤ tries) (t2 : tries ≤ 8) : IntKind.i64.wrap (IntKind.i64.wrap (16 + IntKind.i64.wrap (tries * IntKind.i64.wrap (4 + IntKind.i64.wrap (4 * s.sl)))) + IntKind.i64.wrap (s.sh * IntKind.i64.wrap (4 + IntKind.i64.wrap (s.bk * IntKind.i64.wrap (8 + IntKind.i64.wrap (8 * s.sl)))))) = bndM s tries := by
  obtain ⟨a, b, c, d, e, f⟩ := o
  obtain ⟨p1, p2⟩ := mul_bd (a := tries) (b := 4 + 4 * s.sl) (m := 8) (n := 36) (by omega) t2 (by omega) (by omega)
  obtain ⟨q1, q2⟩ := mul_bd (a := s.bk) (b := 8 + 8 * s.sl) (m := 16) (n := 72) (by omega) (by omega) (by omega) (by omega)
  obtain ⟨r1, r2⟩ := mul_bd (a := s.sh) (b := 4 + s.bk * (8 + 8 * s.sl)) (m := 8) (n := 4 + 16 * 72) (by omega) (by omega) (by omega) (by omega)
  rw [wrap_i64 (x := 4 * s.sl) (by omega) (by omega), wrap_i64 (x := 4 + 4 * s.sl) (by omega) (by omega), wrap_i64 (x := tries * (4 + 4 * s.sl)) (by omega) (by omega), wrap_i64 (x := 16 + tries * (4 + 4 * s.sl)) (by omega) (by omega), wrap_i64 (x := 8 * s.sl) (by omega) (by omega), wrap_i64 (x := 8 + 8 * s.sl) (by omega) (by omega), wrap_i64 (x := s.bk * (8 + 8 * s.sl)) (by omega) (by omega), wrap_i64 (x := 4 + s.bk * (8 + 8 * s.sl)) (by omega) (by omega), wrap_i64 (x := s.sh * (4 + s.bk * (8 + 8 * s.sl))) (by omega) (by omega), wrap_i64 (by omega) (by omega)]
  rfl
section
variable {h h' : Heap} {F : Fb} {x : IgV} {xb : Nat}
theorem r12Bound_exact {s : Sz} (o : s.Ok) {tries : Int} (t1 : 1 ≤ tries) (t2 : tries ≤ 8) : HCalls Tryz.prog 55 #[.agg #[.int .i64 s.sh, .int .i64 s.bk, .int .i64 s.sl], .int .i64 tries] h (fun v h' => v = .int .i64 (bndM s tries) ∧ Ext h h') := by
  refine xcalls env0 Tryz.func55 rfl (by kernel_rfl) rfl (by kernel_rfl) ?_
  intro zb h1 n1
  refine ⟨_, rfl, reads_all n1.this, ?_⟩
  refine (rbRight_spec s).mono ?_
  rintro v h2 ⟨rfl, x2⟩
  refine xif_false (by rw [o.right]; rfl) ?_
  refine xif_false (decide_eq_false ?_) ?_
  · show ¬ tries < 1
    omega
  refine xif_false (decide_eq_false ?_) ?_
  · show ¬ tries > 8
    omega
  have hz := x2.blk n1.this
  repeat (first | refine ⟨_, cell_blk (hz) rfl, ?_⟩)
  exact ⟨congrArg (Value.int .i64) (bndM_wrap o t1 t2), n1.ext.trans x2⟩
theorem dBound_exact {s : Sz} (o : s.Ok) {tries : Int} (t1 : 1 ≤ tries) (t2 : tries ≤ 8) : HCalls Tryz.prog 54 #[.agg #[.int .i64 s.sh, .int .i64 s.bk, .int .i64 s.sl], .int .i64 tries] h (fun v h' => v = .int .i64 (bndM s tries) ∧ Ext h h') := by
  refine xcalls env0 Tryz.func54 rfl (by kernel_rfl) rfl (by kernel_rfl) ?_
  intro zb h1 n1
  refine ⟨_, rfl, reads_all n1.this, ?_⟩
  refine (kRight_spec s _).mono ?_
  rintro v h2 ⟨rfl, x2⟩
  refine xif_false (by rw [o.right]; rfl) ?_
  refine xif_false (decide_eq_false ?_) ?_
  · show ¬ tries < 1
    omega
  refine xif_false (decide_eq_false ?_) ?_
  · show ¬ tries > 8
    omega
  have hz := x2.blk n1.this
  repeat (first | refine ⟨_, cell_blk (hz) rfl, ?_⟩)
  exact ⟨congrArg (Value.int .i64) (bndM_wrap o t1 t2), n1.ext.trans x2⟩
theorem iClone_nil : HCalls Tryz.prog 52 #[.slice none 0 0] h (fun v h' => v = .slice none 0 0 ∧ h' = h) := by
  refine xcalls env0 Tryz.func52 rfl (by kernel_rfl) rfl (by kernel_rfl) ?_
  exact ⟨rfl, rfl⟩
theorem dnClone_spec {base : Nat} {b c : Nat} {l : List DnV} (own : OwnA encDn 7 66 base h (some ⟨b, 0, none⟩) c l) (hn : l.length = 1) : HCalls Tryz.prog 51 #[.slice (some ⟨b, 0, none⟩) 1 c] h (fun v h' => ∃ b' c', v = .slice (some ⟨b', 0, none⟩) 1 c' ∧ OwnA encDn 7 66 h.size h' (some ⟨b', 0, none⟩) c' l ∧ Ext h h') := by
  refine xcalls env0 Tryz.func51 rfl (by kernel_rfl) rfl (by kernel_rfl) ?_
  intro b1 h1 n1
  have own1 : OwnA encDn 7 66 h.size h1 (some ⟨b1, 0, none⟩) 0 ([] : List DnV) := .inr ⟨b1, [], rfl, n1.ge (Ext.refl _), n1.this, rfl, Nat.le_refl _⟩
  refine xappend_many (xs := []) (ys := l) dnInfo dnZero rfl (by decide) encDn_len encDn_one own1 rfl hn ((own.ext n1.ext).reads) (by decide) n1.ext.size fun A' c' h' o k => ?_
  have x := k.ext n1.ext (fun b' e => by cases e; exact n1.ge (Ext.refl _))
  rcases o with ⟨_, e, _⟩ | ⟨b', rest, rfl, r⟩
  · rw [List.nil_append] at e; rw [e] at hn; cases hn
  · exact ⟨b', c', rfl, .inr ⟨b', rest, rfl, r⟩, x⟩
theorem iDone_one (H : IgAt h xb x) {db dc base : Nat} {y : DnV} (hd : x.dA = some ⟨db, 0, none⟩ ∧ x.dn = 1 ∧ x.dc = dc) (own : OwnA encDn 7 66 base h (some ⟨db, 0, none⟩) dc [y]) : HCalls Tryz.prog 14 #[.pointer (some ⟨xb, 0, none⟩)] h (fun v h' => ∃ b' c', v = .slice (some ⟨b', 0, none⟩) 1 c' ∧ OwnA encDn 7 66 h.size h' (some ⟨b', 0, none⟩) c' [y] ∧ Ext h h') := by
  obtain ⟨f', P, rA, rn, rc, vA, vn, vc, s, tries, ring, normal, short, pt, who, g1, g2, g3, g4, next, dA, dn, dc', lA, ln, lc, id', why, vid, learned, found, bA, bn, bc⟩ := x
  simp only at hd
  obtain ⟨rfl, rfl, rfl⟩ := hd
  refine xcalls env_iDone Tryz.func14 rfl (by kernel_rfl) rfl (by kernel_rfl) ?_
  repeat (first | refine ⟨_, cell_blk (H) rfl, ?_⟩)
  refine (dnClone_spec own rfl).mono ?_
  rintro v h1 ⟨b1, c1, rfl, o1, x1⟩
  refine ⟨Nat, fun i => [(3, .slice (some ⟨b1, 0, none⟩) 1 c1), (13, .int .i64 1), (14, .int .i64 (i : Int))], fun i h' => i ≤ 1 ∧ OwnA encDn 7 66 h.size h' (some ⟨b1, 0, none⟩) c1 [y] ∧ Ext h h', fun i => 1 - i, 0, ⟨rfl, rfl, rfl, trivial⟩, ⟨by decide, o1, x1⟩, ?_⟩
  rintro i h2 ⟨hi, o2, x2⟩
  refine xif_of (fun g => ?_) (fun g => ?_)
  · have g : (i : Int) < 1 := of_decide_eq_true g
    have hi0 : i = 0 := by omega
    subst hi0
    obtain ⟨a, ha, hrd⟩ := o2.row encDn_len 0 y rfl
    cases ha
    have ea : ∀ f : Nat, (((⟨b1, 0, none⟩ : Addr).add (((0 : Nat) : Int).toNat * 7)).add f) = ⟨b1, 0 * 7 + f, none⟩ := fun f => by rw [add_lit, add_lit]; simp
    have r5 : cell h2 (((⟨b1, 0, none⟩ : Addr).add (((0 : Nat) : Int).toNat * 7)).add 5) = some (.slice none 0 0) := hrd.get 5 rfl
    have r6 : cell h2 (((⟨b1, 0, none⟩ : Addr).add (((0 : Nat) : Int).toNat * 7)).add 6) = some (.slice none 0 0) := hrd.get 6 rfl
    refine ⟨_, rfl, by decide, by decide, _, r5, ?_⟩
    refine ⟨_, rfl, by decide, by decide, _, r6, ?_⟩
    refine iClone_nil.mono ?_
    rintro v h3 ⟨rfl, rfl⟩
    try (refine ⟨⟨r6, trivial⟩, ?_⟩)
    refine iClone_nil.mono ?_
    rintro v h3 ⟨rfl, rfl⟩
    have gb := o2.ge b1 rfl
    have cs : ∀ (g : Heap), OwnA encDn 7 66 h.size g (some ⟨b1, 0, none⟩) c1 [y] → ∀ f, f + 1 ≤ 7 → CanSet g (((⟨b1, 0, none⟩ : Addr).add (((0 : Nat) : Int).toNat * 7)).add f) 1 := fun g og f hf => by
      obtain ⟨b, e, _, cs⟩ := og.canset encDn_len (i := 0) (j := f) (n := 1) (Nat.zero_lt_one) hf
      cases e
      rw [ea]; exact cs
    refine ⟨_, rfl, by decide, by decide, rfl, rfl, cs _ o2 5 (by decide), fun h4 s4 => ?_⟩
    have s4' : Stored h3 (((⟨b1, 0, none⟩ : Addr).add (((0 : Nat) : Int).toNat * 7)).add 5) [.slice none 0 0] h4 := s4
    rw [ea] at s4'
    have o4 : OwnA encDn 7 66 h.size h4 (some ⟨b1, 0, none⟩) c1 [y] := o2.put encDn_len (x' := y) rfl s4' (show [y][0]? = some y from rfl) (by show 5 + 1 ≤ 7; decide) rfl
    have x4 : Ext h h4 := x2.stored s4' gb
    refine ⟨_, rfl, by decide, by decide, rfl, rfl, cs _ o4 6 (by decide), fun h5 s5 => ?_⟩
    have s5' : Stored h4 (((⟨b1, 0, none⟩ : Addr).add (((0 : Nat) : Int).toNat * 7)).add 6) [.slice none 0 0] h5 := s5
    rw [ea] at s5'
    have o5 : OwnA encDn 7 66 h.size h5 (some ⟨b1, 0, none⟩) c1 [y] := o4.put encDn_len (x' := y) rfl s5' (show [y][0]? = some y from rfl) (by show 6 + 1 ≤ 7; decide) rfl
    exact ⟨1, ⟨rfl, rfl, slot_inc (by decide), trivial⟩, ⟨by decide, o5, x4.stored s5' gb⟩, by decide⟩
  · exact ⟨b1, c1, rfl, o2, x2⟩
theorem lBound20_spec {A B : Option Addr} {na ca nb cb : Nat} {s : Sz} (o : s.Ok) {P tries ring normal short : Int} (t1 : 1 ≤ tries) (t2 : tries ≤ 8) (p1 : 0 ≤ P) (p2 : P ≤ 64) : HCalls Tryz.prog 17 #[.agg (planV P (.slice A na ca) (.slice B nb cb) s tries ring normal short).toArray] h (fun v h' => v = .int .i64 (16 + 2 * bndM s tries + 8 * P) ∧ Ext h h') := by
  refine xcalls env_lBound20 Tryz.func17 rfl (by kernel_rfl) rfl (by kernel_rfl) ?_
  intro zb h1 n1
  have hz : h1[zb]? = some (.cells (planV P (.slice A na ca) (.slice B nb cb) s tries ring normal short).toArray 28 (0, 0)) := n1.this
  refine ⟨[.int .i64 s.sh, .int .i64 s.bk, .int .i64 s.sl], rfl, reads_at hz rfl, ?_⟩
  repeat (first | refine ⟨_, cell_blk (hz) rfl, ?_⟩)
  refine (r12Bound_exact o t1 t2).mono ?_
  rintro v h2 ⟨rfl, x2⟩
  have hz2 := x2.blk hz
  try (refine ⟨by ((repeat (first | refine ⟨cell_blk (hz2) rfl, ?_⟩)); exact trivial), ?_⟩)
  repeat (first | refine ⟨_, cell_blk (hz2) rfl, ?_⟩)
  have hb := bndM_range o t1 t2
  refine ⟨congrArg (Value.int .i64) ?_, n1.ext.trans x2⟩
  rw [wrap_i64 (x := 2 * bndM s tries) (by omega) (by omega), wrap_i64 (x := 16 + 2 * bndM s tries) (by omega) (by omega), wrap_i64 (x := 8 * P) (by omega) (by omega), wrap_i64 (by omega) (by omega)]
end
theorem told20_spec {h : Heap} : HCalls Tryz.prog 9 #[] h (fun v h' => v = .bool true ∧ Ext h h') := by
  refine xcalls env0 Tryz.func9 rfl (by kernel_rfl) rfl (by kernel_rfl) ?_
  refine (rPFix_spec (A := none) (B := none) (ca := 0) (cb := 0) (P := 0) (tries := 0) (ring := 0) (normal := 0) (short := 0) (s := ⟨0, 0, 0⟩) (rules := []) (vls := []) Row.nil rfl Row.nil rfl (by simp)).mono ?_
  rintro v h1 ⟨A1, c1, B1, d1, rfl, oR, oV, x1⟩
  have oR : OwnA encRu 2 _ h.size h1 A1 c1 (fixRules 0 []) := oR
  have oV : OwnA encVl 3 _ h.size h1 B1 d1 (fixVlans 0 []) := oV
  intro ib h2 n2
  refine ⟨rfl, rfl, canset_blk n2.this rfl, fun h3 s3 => ?_⟩
  have hib : h3[ib]? = some (.cells (planV (fixPorts 0) (.slice A1 (fixPorts 0).toNat c1) (.slice B1 (fixVlans 0 []).length d1) (fixSz ⟨0, 0, 0⟩) (fixTries 0) (fixRing 0) 0 0).toArray 28 (0, 0)) := n2.fill rfl s3
  have x13 : Ext h1 h3 := n2.ext.stored s3 (n2.ge (Ext.refl _))
  refine ⟨_, rfl, reads_all hib, ?_⟩
  refine (lMake_fixR ((oR.ext x13).row encRu_len) ((oV.ext x13).row encVl_len) (by simp)).mono ?_
  rintro v h4 ⟨F, M, rfl, eP, eS, p8, Fr0, eV, eR, _⟩
  have Fr := Fr0.mono (x1.trans x13)
  have x34 := Fr0.ext
  have p1 := Fr.fab.p1
  refine gNew_spec.mono ?_
  rintro v h5 ⟨rfl, x5⟩
  refine (iNew_spec (Fr.of_ext x5).fab (p := 0) (who := 0) (by decide) (by omega) (by decide)).mono ?_
  rintro v h6 ⟨xb, x, rfl, gxb, H6, oRx, xrn, oVx, xvn, xf, xP, xp, xw, xn, xd1, xd2, xd3, x6⟩
  refine (iIdle_nil H6 xn).mono ?_
  rintro v h7 ⟨rfl, rfl⟩
  refine ⟨by decide, by decide, by decide, by decide, ?_⟩
  intro zb h8 n8
  have hzb : h8[zb]? = some (.cells ((List.replicate 60 (0 : Int)).flatMap encU8).toArray 5 (0, 0)) := n8.this
  have H8 := n8.ext.blk H6
  have oz : OwnA encU8 1 5 0 h8 (some ⟨zb, 0, none⟩) 60 (List.replicate 60 (0 : Int)) := .inr ⟨zb, [], rfl, Nat.zero_le _, by rw [List.append_nil]; exact hzb, rfl, by rw [List.length_replicate]; exact Nat.le_refl _⟩
  refine (iBegin_spec H8 xn (id := 4) (by decide) (by decide) (oz.row encU8_len) (fun e => by cases e) (List.length_replicate ..) (by rw [List.length_replicate]; decide)).mono ?_
  rintro v h9 ⟨rfl, A9, c9, o9, H9, h9a, x9, c9a⟩
  have g9 : 60 ≤ c9 := by
    rcases o9 with ⟨_, e, _⟩ | ⟨_, _, _, _, _, _, e⟩
    · rw [List.replicate_succ] at e; cases e
    · rw [List.length_replicate] at e; exact e
  have hib6 := x6.blk (x5.blk (x34.blk hib))
  have hib9 := c9a.blk (x9.blk (n8.ext.blk hib6)) (by simp)
  have oR9 := (((oRx.ext n8.ext).ext x9).chg c9a (fun b _ => by simp))
  have oV9 := (((oVx.ext n8.ext).ext x9).chg c9a (fun b _ => by simp))
  rw [eR] at oR9 xrn
  rw [eV] at oV9 xvn
  refine ⟨Unit, fun _ => [(1, .pointer (some ⟨ib, 0, none⟩)), (3, .pointer (some ⟨xb, 0, none⟩)), (5, .int .i64 0)], fun _ h' => h' = h9, fun _ => 0, (), ⟨rfl, rfl, rfl, trivial⟩, rfl, ?_⟩
  rintro _ h10 rfl
  refine ⟨_, rfl, reads_all hib9, ?_⟩
  refine (lBound20_spec (fixSz_ok _) (fixTries_range 0).1 (fixTries_range 0).2 (by omega) (by omega)).mono ?_
  rintro v h11 ⟨hv, x11⟩
  have hbn := bndM_range (fixSz_ok ⟨0, 0, 0⟩) (fixTries_range 0).1 (fixTries_range 0).2
  obtain ⟨bn, hbn2⟩ : ∃ bn, 16 + 2 * bndM (fixSz ⟨0, 0, 0⟩) (fixTries 0) + 8 * fixPorts 0 = bn := ⟨_, rfl⟩
  rw [hbn2] at hv
  subst hv
  refine xif_true (decide_eq_true (show (0 : Int) < bn by omega)) ?_
  have H11 := x11.blk H9
  have hP2 : fixPorts 0 = 2 := by decide
  have hr0 : (fixRules 0 [])[0]? = some (fixRu [] 0) := by
    unfold fixRules
    rw [List.getElem?_map, hP2]
    rfl
  refine (iStep_last H11 rfl ⟨xd1, xd2, xd3⟩ (x' := { x with id := 4, why := 7, vid := (fixRu [] 0).pvid, learned := -1, found := -2, bA := A9, bn := 60, bc := c9, next := .func (.func 50) #[] #[] }) ⟨xd1, xd2, xd3⟩ ((iClass_zero (x := { x with id := 4, why := 0, vid := 0, learned := -1, found := -2, bA := A9, bn := 60, bc := c9, next := .func (.func 50) #[] #[] }) H11 ((o9.ext x11).row encU8_len) (List.length_replicate ..) rfl g9 (fun y hy => (List.mem_replicate.1 hy).2) ((oR9.ext x11).row encRu_len) xrn.symm (p := 0) xp hr0 (by decide) (oV9.ext x11) xvn.symm (by show x.vn ≤ 1000; rw [xvn]; decide) (by decide)).mono ?_) (blk_lt H11)).mono ?_
  · rintro v h12 ⟨rfl, H12, r12⟩
    exact ⟨rfl, H12, r12⟩
  rintro v h12 ⟨rfl, db, dc, H12, o12, h12a, x12, c12⟩
  refine (iDone_one H12 ⟨rfl, rfl, rfl⟩ o12).mono ?_
  rintro v h13 ⟨b13, c13, rfl, o13, x13'⟩
  have H13 := x13'.blk H12
  refine (iIdle_nil H13 rfl).mono ?_
  rintro v h14 ⟨rfl, rfl⟩
  obtain ⟨a, ha, hrd⟩ := o13.row encDn_len 0 _ rfl
  cases ha
  have q0 : cell h14 (((⟨b13, 0, none⟩ : Addr).add (0 * 7)).add 0) = some (.int .i64 4) := hrd.get 0 rfl
  have q1 : cell h14 (((⟨b13, 0, none⟩ : Addr).add (0 * 7)).add 1) = some (.int .i64 7) := hrd.get 1 rfl
  have q4 : cell h14 (((⟨b13, 0, none⟩ : Addr).add (0 * 7)).add 4) = some (.int .i64 (-2)) := hrd.get 4 rfl
  refine ⟨_, rfl, by decide, by decide, _, q0, ?_⟩
  refine ⟨_, rfl, by decide, by decide, _, q1, ?_⟩
  refine ⟨_, rfl, by decide, by decide, _, q4, ?_⟩
  refine (iTicket_spec 5 7).mono ?_
  rintro v h15 ⟨rfl, rfl⟩
  rw [show (if (5 : Int) < 0 ∨ 1099511627776 < (5 : Int) ∨ (7 : Int) < 0 ∨ 4095 < (7 : Int) then (0 : Int) else 5 * 4096 + 7) = 20487 by decide]
  refine (iId_spec (t := 20487) (by decide)).mono ?_
  rintro v h15 ⟨rfl, rfl⟩
  rw [show max (20487 : Int) 0 / 4096 = 5 by decide]
  refine (iVid_spec 20487).mono ?_
  rintro v h15 ⟨rfl, rfl⟩
  rw [show max (20487 : Int) 0 % 4096 = 7 by decide]
  refine ⟨rfl, ?_⟩
  have z1 := (((x1.trans x13).trans x34).trans x5).trans x6
  have z2 := (z1.trans n8.ext).trans x9
  have z3 := c9a.ext z2 (fun p hp => by simp at hp; subst hp; exact Nat.le_trans (((x1.trans x13).trans x34).trans x5).size gxb)
  have z4 := c12.ext ((z3.trans x11).trans x12) (fun p hp => by simp at hp; subst hp; exact Nat.le_trans (((x1.trans x13).trans x34).trans x5).size gxb)
  exact z4.trans x13'
end Go.Proofs.YtjjempefncgfhaaGreatDoorE
/- IngressNews: of ports and whos that there aren't there is none, and of one that isn't there nothing is told. Conditions: the arguments are of their types. -/
set_option linter.unusedVariables false
set_option linter.unusedSimpArgs false
set_option maxRecDepth 100000
namespace Go.Proofs.YtjjempefncgfhaaGreatDoorE
open Go Go.Proofs
section
variable {h h' : Heap} {F : Fb} {M : MemS} {x : IgV} {xb : Nat}
theorem cPlan2_none : HCalls Tryz.prog 48 #[.pointer none] h (fun v h' => v = .agg (planV 0 (.slice none 0 0) (.slice none 0 0) ⟨0, 0, 0⟩ 0 0 0 0).toArray ∧ Ext h h') := by
  refine xcalls env0 Tryz.func48 rfl (by kernel_rfl) rfl (by kernel_rfl) ?_
  intro b0 h1 n1
  refine ⟨rfl, rfl, canset_blk n1.this rfl, fun h2 s2 => ?_⟩
  have hb2 : h2[b0]? = some (.cells (planV 0 (.slice none 0 0) (.slice none 0 0) ⟨0, 0, 0⟩ 0 0 0 0).toArray _ (0, 0)) := s2.put n1.this
  exact ⟨planV 0 (.slice none 0 0) (.slice none 0 0) ⟨0, 0, 0⟩ 0 0 0 0, rfl, reads_all hb2, rfl, n1.ext.stored s2 (n1.ge (Ext.refl _))⟩
theorem iIdle_none : HCalls Tryz.prog 13 #[.pointer none] h (fun v h' => v = .bool true ∧ h' = h) := by
  refine xcalls env0 Tryz.func13 rfl (by kernel_rfl) rfl (by kernel_rfl) ?_
  exact ⟨rfl, rfl⟩
theorem iStep_none : HCalls Tryz.prog 12 #[.pointer none] h (fun v h' => v = .bool true ∧ h' = h) := by
  refine xcalls env_iStep2 Tryz.func12 rfl (by kernel_rfl) rfl (by kernel_rfl) ?_
  refine iIdle_none.mono ?_
  rintro v h1 ⟨rfl, rfl⟩
  refine iIdle_none.mono ?_
  rintro v h1 ⟨rfl, rfl⟩
  exact ⟨rfl, rfl⟩
theorem iStep_idle (H : IgAt h xb x) (hn : x.next = .nilFunc) : HCalls Tryz.prog 12 #[.pointer (some ⟨xb, 0, none⟩)] h (fun v h' => v = .bool true ∧ h' = h) := by
  refine xcalls env_iStep2 Tryz.func12 rfl (by kernel_rfl) rfl (by kernel_rfl) ?_
  refine (iIdle_nil H hn).mono ?_
  rintro v h1 ⟨rfl, rfl⟩
  refine (iIdle_nil H hn).mono ?_
  rintro v h1 ⟨rfl, rfl⟩
  exact ⟨rfl, rfl⟩
theorem iBegin_none {a b c : Value} : HCalls Tryz.prog 11 #[.pointer none, .int .i64 1, .slice none 0 0, .int .u32 0] h (fun v h' => v = .bool false ∧ h' = h) := by
  refine xcalls env0 Tryz.func11 rfl (by kernel_rfl) rfl (by kernel_rfl) ?_
  exact ⟨rfl, rfl⟩
theorem iBegin_neg (H : IgAt h xb x) (hn : x.next = .nilFunc) : HCalls Tryz.prog 11 #[.pointer (some ⟨xb, 0, none⟩), .int .i64 (-1), .slice none 0 0, .int .u32 0] h (fun v h' => v = .bool false ∧ h' = h) := by
  obtain ⟨f, P, rA, rn, rc, vA, vn, vc, s, tries, ring, normal, short, p, who, g1, g2, g3, g4, next, dA, dn, dc, lA, ln, lc, id', why, vid, learned, found, bA, bn, bc⟩ := x
  simp only at hn
  subst hn
  refine xcalls env0 Tryz.func11 rfl (by kernel_rfl) rfl (by kernel_rfl) ?_
  repeat (first | refine ⟨_, cell_blk (H) rfl, ?_⟩)
  exact ⟨rfl, rfl⟩
theorem iDone_none : HCalls Tryz.prog 14 #[.pointer none] h (fun v h' => v = .slice none 0 0 ∧ h' = h) := by
  refine xcalls env_iDone2 Tryz.func14 rfl (by kernel_rfl) rfl (by kernel_rfl) ?_
  exact ⟨rfl, rfl⟩
theorem iLog_none : HCalls Tryz.prog 15 #[.pointer none] h (fun v h' => v = .slice none 0 0 ∧ h' = h) := by
  refine xcalls env0 Tryz.func15 rfl (by kernel_rfl) rfl (by kernel_rfl) ?_
  exact ⟨rfl, rfl⟩
theorem iBound_none : HCalls Tryz.prog 16 #[.pointer none] h (fun v h' => v = .int .i64 0 ∧ h' = h) := by
  refine xcalls env_iBound2 Tryz.func16 rfl (by kernel_rfl) rfl (by kernel_rfl) ?_
  exact ⟨rfl, rfl⟩
theorem iBound_fab (H : FabAt h F) (ok : F.s.Ok) (t1 : 1 ≤ F.tries) (t2 : F.tries ≤ 8) : HCalls Tryz.prog 16 #[.pointer (some ⟨F.fb, 0, none⟩)] h (fun v h' => v = .int .i64 (16 + 2 * bndM F.s F.tries + 8 * F.P) ∧ Ext h h') := by
  have p2 := H.p2
  refine xcalls env_iBound2 Tryz.func16 rfl (by kernel_rfl) rfl (by kernel_rfl) ?_
  refine (cPlan_spec H).mono ?_
  rintro v h1 ⟨A', c', B', d', rfl, oR, oV, x1⟩
  intro pb h2 n2
  refine ⟨rfl, rfl, canset_blk n2.this rfl, fun h3 s3 => ?_⟩
  have hpb : h3[pb]? = some (.cells (planV F.P (.slice A' F.rules.length c') (.slice B' F.vls.length d') F.s F.tries F.S F.normal F.short).toArray 128 (0, 0)) := s3.put n2.this
  have x3 := (x1.trans n2.ext).stored s3 (n2.ge x1)
  refine ⟨[.int .i64 F.s.sh, .int .i64 F.s.bk, .int .i64 F.s.sl], rfl, reads_at hpb rfl, ?_⟩
  repeat (first | refine ⟨_, cell_blk (hpb) rfl, ?_⟩)
  refine (dBound_exact ok t1 t2).mono ?_
  rintro v h4 ⟨rfl, x4⟩
  have hpb4 := x4.blk hpb
  try (refine ⟨by ((repeat (first | refine ⟨cell_blk (hpb4) rfl, ?_⟩)); exact trivial), ?_⟩)
  repeat (first | refine ⟨_, cell_blk (hpb4) rfl, ?_⟩)
  have hb := bndM_range ok t1 t2
  refine ⟨congrArg (Value.int .i64) ?_, x3.trans x4⟩
  rw [wrap_i64 (x := 2 * bndM F.s F.tries) (by omega) (by omega), wrap_i64 (x := 16 + 2 * bndM F.s F.tries) (by omega) (by omega), wrap_i64 (x := 8 * (F.P : Int)) (by omega) (by omega), wrap_i64 (by omega) (by omega)]
theorem iNew_none {g1 g2 g3 : Value} {g4 : Int} : HCalls Tryz.prog 10 #[.pointer none, .int .i64 0, .int .i64 0, .agg #[g1, g2, g3, .int .u32 g4]] h (fun v h' => v = .tuple #[.pointer none, .int .i64 1] ∧ Ext h h') := by
  refine xcalls env0 Tryz.func10 rfl (by kernel_rfl) rfl (by kernel_rfl) ?_
  intro gb h1 n1
  refine cPlan2_none.mono ?_
  rintro v h2 ⟨rfl, x2⟩
  intro pb h3 n3
  refine ⟨rfl, rfl, canset_blk n3.this rfl, fun h4 s4 => ?_⟩
  have x12 := n1.ext.trans x2
  exact ⟨rfl, (x12.trans n3.ext).stored s4 (n3.ge x12)⟩
theorem iNew_bad (H : FabAt h F) {p who : Int} (hb : who < 0 ∨ p < 0 ∨ F.P ≤ p) {g1 g2 g3 : Value} {g4 : Int} : HCalls Tryz.prog 10 #[.pointer (some ⟨F.fb, 0, none⟩), .int .i64 p, .int .i64 who, .agg #[g1, g2, g3, .int .u32 g4]] h (fun v h' => v = .tuple #[.pointer none, .int .i64 (if who < 0 then 1 else 5)] ∧ Ext h h') := by
  refine xcalls env0 Tryz.func10 rfl (by kernel_rfl) rfl (by kernel_rfl) ?_
  intro gb h1 n1
  refine (cPlan_spec (H.ext n1.ext)).mono ?_
  rintro v h2 ⟨A', c', B', d', rfl, oR, oV, x2⟩
  intro pb h3 n3
  refine ⟨rfl, rfl, canset_blk n3.this rfl, fun h4 s4 => ?_⟩
  have hpb : h4[pb]? = some (.cells (planV F.P (.slice A' F.rules.length c') (.slice B' F.vls.length d') F.s F.tries F.S F.normal F.short).toArray 128 (0, 0)) := s4.put n3.this
  have x12 := n1.ext.trans x2
  have x4 := (x12.trans n3.ext).stored s4 (n3.ge x12)
  refine xif_of (fun g => ?_) (fun g => ?_)
  · have g : who < 0 := of_decide_eq_true g
    exact ⟨by rw [if_pos g]; rfl, x4⟩
  have g : ¬ who < 0 := of_decide_eq_false g
  rw [if_neg g]
  refine xif_of (fun g2 => ?_) (fun g2 => ?_)
  · exact ⟨rfl, x4⟩
  have g2 : ¬ p < 0 := of_decide_eq_false g2
  repeat (first | refine ⟨_, cell_blk (hpb) rfl, ?_⟩)
  refine xif_true (decide_eq_true (show p ≥ (F.P : Int) by omega)) ?_
  exact ⟨rfl, x4⟩
end
theorem lINews_spec {h : Heap} {A B : Option Addr} {na ca nb cb : Nat} {rules : List Ru} {vls : List Vl} {P tries ring normal short port who : Int} {s : Sz}
    (hra : Row encRu 2 h A rules) (hla : rules.length = na) (hrb : Row encVl 3 h B vls) (hlb : vls.length = nb) (wf : ∀ v ∈ vls, SetWf v.mem ∧ SetWf v.unt) :
    HCalls Tryz.prog 3 #[.agg (planV P (.slice A na ca) (.slice B nb cb) s tries ring normal short).toArray, .int .i64 port, .int .i64 who] h (fun v h' => v = .bool true ∧ Ext h h') := by
  refine xcalls env_lINews Tryz.func3 rfl (by kernel_rfl) rfl (by kernel_rfl) ?_
  intro ib h1 n1
  refine ⟨_, rfl, reads_all n1.this, ?_⟩
  refine (rPFix_spec (n1.ext.row hra) hla (n1.ext.row hrb) hlb wf).mono ?_
  rintro v h2 ⟨A1, c1, B1, d1, rfl, oR, oV, x2⟩
  have oR : OwnA encRu 2 _ h1.size h2 A1 c1 (fixRules P rules) := oR
  have oV : OwnA encVl 3 _ h1.size h2 B1 d1 (fixVlans P vls) := oV
  have hib2 := x2.blk n1.this
  refine ⟨rfl, rfl, canset_blk hib2 rfl, fun h3 s3 => ?_⟩
  have hib : h3[ib]? = some (.cells (planV (fixPorts P) (.slice A1 (fixPorts P).toNat c1) (.slice B1 (fixVlans P vls).length d1) (fixSz s) (fixTries tries) (fixRing ring) normal short).toArray 28 (0, 0)) := s3.put hib2
  have x3 : Ext h h3 := (n1.ext.trans x2).stored s3 (n1.ge (Ext.refl _))
  have c3 : Chg [(ib, 28)] h2 h3 := s3.chg hib2 (.head _)
  have oR3 := oR.chg c3 (fun b _ => by simp)
  have oV3 := oV.chg c3 (fun b _ => by simp)
  refine ⟨_, rfl, reads_all hib, ?_⟩
  refine (lMake_fixR (oR3.row encRu_len) (oV3.row encVl_len) wf).mono ?_
  rintro v h4 ⟨F, M, rfl, eP, eS, p8, Fr0, eV, eR, eZ, eT⟩
  have Fr := Fr0.mono x3
  have p1 := Fr.fab.p1
  refine told20_spec.mono ?_
  rintro v h5 ⟨rfl, x5⟩
  have Fr5 := Fr.of_ext x5
  have hib5 := (Fr0.ext.trans x5).blk hib
  rw [eP] at hib5
  have tr : 1 ≤ F.tries ∧ F.tries ≤ 8 := by
    rw [eT]
    exact fixTries_range tries
  by_cases hb : who < 0 ∨ port < 0 ∨ F.P ≤ port
  · refine (iNew_bad Fr5.fab hb).mono ?_
    rintro v h6 ⟨rfl, x6⟩
    refine iNew_none.mono ?_
    rintro v h7 ⟨rfl, x7⟩
    refine (iBegin_none (a := .nilFunc) (b := .nilFunc) (c := .nilFunc)).mono ?_
    rintro v h8 ⟨rfl, rfl⟩
    refine iStep_none.mono ?_
    rintro v h8 ⟨rfl, rfl⟩
    refine iIdle_none.mono ?_
    rintro v h8 ⟨rfl, rfl⟩
    refine iDone_none.mono ?_
    rintro v h8 ⟨rfl, rfl⟩
    refine iLog_none.mono ?_
    rintro v h8 ⟨rfl, rfl⟩
    refine iBound_none.mono ?_
    rintro v h8 ⟨rfl, rfl⟩
    have Fr8 := Fr5.of_ext (x6.trans x7)
    have hib8 := (x6.trans x7).blk hib5
    first | refine ⟨_, rfl, reads_all hib8, ?_⟩ | skip
    refine (iBound_fab Fr8.fab Fr8.sok tr.1 tr.2).mono ?_
    rintro v h9 ⟨rfl, x9⟩
    have hib9 := x9.blk hib8
    refine ⟨⟨reads_all hib9, trivial⟩, ?_⟩
    refine (lBound20_spec (fixSz_ok _) (fixTries_range _).1 (fixTries_range _).2 (by omega) (by omega)).mono ?_
    rintro v h10 ⟨rfl, x10⟩
    have hib10 := x10.blk hib9
    refine xif_false (by rw [eZ, eT]; simp) ?_
    have x10a : Ext h h10 := (((Fr5.ext.trans (x6.trans x7)).trans x9)).trans x10
    refine xif_of (fun g => ?_) (fun g => ?_)
    · have g : who < 0 := of_decide_eq_true g
      rw [if_pos g]
      exact ⟨rfl, x10a⟩
    have g : ¬ who < 0 := of_decide_eq_false g
    rw [if_neg g]
    refine xif_of (fun g2 => ?_) (fun g2 => ?_)
    · exact ⟨rfl, x10a⟩
    have g2 : ¬ port < 0 := of_decide_eq_false g2
    repeat (first | refine ⟨_, cell_blk (hib10) rfl, ?_⟩)
    refine xif_true (decide_eq_true (show port ≥ (F.P : Int) by omega)) ?_
    exact ⟨rfl, x10a⟩
  · refine (iNew_spec Fr5.fab (p := port) (who := who) (by omega) (by omega) (by omega)).mono ?_
    rintro v h6 ⟨xb, x, rfl, gxb, H6, oRx, xrn, oVx, xvn, xf, xP, xp, xw, xn, xd1, xd2, xd3, x6⟩
    refine iNew_none.mono ?_
    rintro v h7 ⟨rfl, x7⟩
    refine (iBegin_none (a := .nilFunc) (b := .nilFunc) (c := .nilFunc)).mono ?_
    rintro v h8 ⟨rfl, rfl⟩
    refine iStep_none.mono ?_
    rintro v h8 ⟨rfl, rfl⟩
    refine iIdle_none.mono ?_
    rintro v h8 ⟨rfl, rfl⟩
    refine iDone_none.mono ?_
    rintro v h8 ⟨rfl, rfl⟩
    refine iLog_none.mono ?_
    rintro v h8 ⟨rfl, rfl⟩
    refine iBound_none.mono ?_
    rintro v h8 ⟨rfl, rfl⟩
    have Fr8 := Fr5.of_ext (x6.trans x7)
    have hib8 := (x6.trans x7).blk hib5
    first | refine ⟨_, rfl, reads_all hib8, ?_⟩ | skip
    refine (iBound_fab Fr8.fab Fr8.sok tr.1 tr.2).mono ?_
    rintro v h9 ⟨rfl, x9⟩
    have hib9 := x9.blk hib8
    refine ⟨⟨reads_all hib9, trivial⟩, ?_⟩
    refine (lBound20_spec (fixSz_ok _) (fixTries_range _).1 (fixTries_range _).2 (by omega) (by omega)).mono ?_
    rintro v h10 ⟨rfl, x10⟩
    have hib10 := x10.blk hib9
    refine xif_false (by rw [eZ, eT]; simp) ?_
    have x10a : Ext h h10 := (((Fr5.ext.trans (x6.trans x7)).trans x9)).trans x10
    refine xif_false (decide_eq_false (show ¬ who < 0 by omega)) ?_
    refine xif_false (decide_eq_false (show ¬ port < 0 by omega)) ?_
    repeat (first | refine ⟨_, cell_blk (hib10) rfl, ?_⟩)
    refine xif_false (decide_eq_false (show ¬ port ≥ (F.P : Int) by omega)) ?_
    have H10 := ((x7.trans x9).trans x10).blk H6
    refine (iIdle_nil H10 xn).mono ?_
    rintro v h11 ⟨rfl, rfl⟩
    refine (iStep_idle H10 xn).mono ?_
    rintro v h11 ⟨rfl, rfl⟩
    refine (iBegin_neg H10 xn).mono ?_
    rintro v h11 ⟨rfl, rfl⟩
    refine (iBegin_spec H10 xn (id := 1099511627776) (by decide) (by decide) (A := none) (n := 0) (c := 0) (bs := []) (fun i x hx => by simp at hx) (fun _ => rfl) rfl (by decide)).mono ?_
    rintro v h12 ⟨rfl, _, _, _, _, h12a, x12, c12⟩
    exact ⟨rfl, c12.ext (x10a.trans x12) (fun p hp => by simp at hp; subst hp; exact Nat.le_trans Fr5.ext.size gxb)⟩
end Go.Proofs.YtjjempefncgfhaaGreatDoorE
