/- A frame that comes in: of which VLAN it is. Conditions: the bytes are zeros. -/
import Derived.Test.YtjjempefncgfhaaGreatDoorXIF
import Derived.Test.YtjjempefncgfhaaGreatDoorXFM
set_option linter.unusedVariables false
set_option linter.unusedSimpArgs false
set_option maxRecDepth 100000
namespace Go.Proofs.YtjjempefncgfhaaGreatDoorE
open Go Go.Proofs
def env_iStep : Nat → Ann
  | 4 => ⟨.op 0 [] <| .op 1 [] <| .op 2 [] <| .op 3 [] <| .op 4 [] <| .op 5 [] <| .op 6 [] <| .op 7 [] <| .op 8 [] <| .op 9 [4] <| .op 10 [] <| .op 11 [] <| .op 12 [] <| .op 13 [] <| .nil, [0, 0, 2, 6, 14, 0, 32, 96, 224, 480, 1022, 2047, 4095, 8191], false⟩
  | _ => ⟨.nil, [], false⟩
def env_iClass : Nat → Ann
  | 1 => ⟨.op 0 [] <| .op 1 [] <| .op 2 [] <| .op 3 [] <| .op 4 [] <| .op 5 [] <| .op 6 [] <| .op 7 [] <| .op 8 [] <| .op 9 [] <| .op 10 [] <| .op 11 [] <| .op 12 [] <| .op 13 [] <| .op 14 [] <| .op 15 [] <| .op 16 [] <| .op 17 [] <| .op 18 [] <| .op 19 [] <| .op 20 [] <| .nil, [0, 1, 3, 7, 0, 16, 48, 112, 240, 0, 512, 1536, 3584, 8176, 16368, 32767, 65535, 131071, 131071, 262143, 1048575], false⟩
  | _ => ⟨.nil, [], false⟩
section
variable {h h' : Heap}
theorem fVid_spec {d s ty : Int} {A : Option Addr} {n c : Nat} : HCalls Tryz.prog 159 #[.agg (frmV d s false 0 ty A n c).toArray] h (fun v h' => v = .int .i64 0 ∧ Ext h h') := by
  refine xcalls env0 Tryz.func159 rfl (by kernel_rfl) rfl (by kernel_rfl) ?_
  intro b h1 n1
  exact ⟨_, cell_blk n1.this rfl, by kernel_rfl, n1.ext⟩
theorem macKind_zero : HCalls Tryz.prog 160 #[.int .u64 0] h (fun v h' => v = .int .i64 0 ∧ h' = h) := (macKind_spec (m := 0) (by decide) (by decide) h).mono fun v h' H => H
theorem iTicket_spec (id vid : Int) : HCalls Tryz.prog 45 #[.int .i64 id, .int .i64 vid] h (fun v h' => v = .int .i64 (if id < 0 ∨ 1099511627776 < id ∨ vid < 0 ∨ 4095 < vid then 0 else id * 4096 + vid) ∧ h' = h) := by
  refine xcalls env0 Tryz.func45 rfl (by kernel_rfl) rfl (by kernel_rfl) ?_
  refine xif_of (fun g => ?_) (fun g => ?_)
  · have g : id < 0 := of_decide_eq_true g
    exact ⟨by rw [if_pos (by omega)]; rfl, rfl⟩
  have g : ¬ id < 0 := of_decide_eq_false g
  refine xif_of (fun g2 => ?_) (fun g2 => ?_)
  · have g2 : id > 1099511627776 := of_decide_eq_true g2
    exact ⟨by rw [if_pos (by omega)]; rfl, rfl⟩
  have g2 : ¬ id > 1099511627776 := of_decide_eq_false g2
  refine xif_of (fun g3 => ?_) (fun g3 => ?_)
  · have g3 : vid < 0 := of_decide_eq_true g3
    exact ⟨by rw [if_pos (by omega)]; rfl, rfl⟩
  have g3 : ¬ vid < 0 := of_decide_eq_false g3
  refine xif_of (fun g4 => ?_) (fun g4 => ?_)
  · have g4 : vid ≥ 4096 := of_decide_eq_true g4
    exact ⟨by rw [if_pos (by omega)]; rfl, rfl⟩
  have g4 : ¬ vid ≥ 4096 := of_decide_eq_false g4
  refine ⟨by rw [if_neg (by omega)]; show Value.int .i64 _ = _; rw [wrap_i64 (x := id * 4096) (by omega) (by omega), wrap_i64 (by omega) (by omega)], rfl⟩
theorem rTicket_spec (id vid : Int) : HCalls Tryz.prog 78 #[.int .i64 id, .int .i64 vid] h (fun v h' => v = .int .i64 (if id < 0 ∨ 1099511627776 < id ∨ vid < 0 ∨ 4095 < vid then 0 else id * 4096 + vid) ∧ h' = h) := by
  refine xcalls env0 Tryz.func78 rfl (by kernel_rfl) rfl (by kernel_rfl) ?_
  refine xif_of (fun g => ?_) (fun g => ?_)
  · have g : id < 0 := of_decide_eq_true g
    exact ⟨by rw [if_pos (by omega)]; rfl, rfl⟩
  have g : ¬ id < 0 := of_decide_eq_false g
  refine xif_of (fun g2 => ?_) (fun g2 => ?_)
  · have g2 : id > 1099511627776 := of_decide_eq_true g2
    exact ⟨by rw [if_pos (by omega)]; rfl, rfl⟩
  have g2 : ¬ id > 1099511627776 := of_decide_eq_false g2
  refine xif_of (fun g3 => ?_) (fun g3 => ?_)
  · have g3 : vid < 0 := of_decide_eq_true g3
    exact ⟨by rw [if_pos (by omega)]; rfl, rfl⟩
  have g3 : ¬ vid < 0 := of_decide_eq_false g3
  refine xif_of (fun g4 => ?_) (fun g4 => ?_)
  · have g4 : vid > 4095 := of_decide_eq_true g4
    exact ⟨by rw [if_pos (by omega)]; rfl, rfl⟩
  have g4 : ¬ vid > 4095 := of_decide_eq_false g4
  refine ⟨by rw [if_neg (by omega)]; show Value.int .i64 _ = _; rw [wrap_i64 (x := 4096 * id) (by omega) (by omega), wrap_i64 (by omega) (by omega), Int.mul_comm], rfl⟩
theorem iId_spec {t : Int} (ht : t ≤ 9223372036854775807) : HCalls Tryz.prog 46 #[.int .i64 t] h (fun v h' => v = .int .i64 ((max t 0) / 4096) ∧ h' = h) := by
  refine xcalls env0 Tryz.func46 rfl (by kernel_rfl) rfl (by kernel_rfl) ?_
  refine ⟨by decide, congrArg (Value.int .i64) ?_, rfl⟩
  have e : (if t < 0 then 0 else t) = max t 0 := by split <;> omega
  rw [e, Int.tdiv_eq_ediv_of_nonneg (by omega), wrap_i64 (by omega) (by omega)]
theorem iVid_spec (t : Int) : HCalls Tryz.prog 47 #[.int .i64 t] h (fun v h' => v = .int .i64 ((max t 0) % 4096) ∧ h' = h) := by
  refine xcalls env0 Tryz.func47 rfl (by kernel_rfl) rfl (by kernel_rfl) ?_
  refine ⟨by decide, congrArg (Value.int .i64) ?_, rfl⟩
  have e : (if t < 0 then 0 else t) = max t 0 := by split <;> omega
  rw [e, Int.tmod_eq_emod_of_nonneg (by omega)]
end
/-- What became of a frame, that went nowhere. -/
structure DnV where
  id : Int
  why : Int
  vid : Int
  learned : Int
  found : Int
def encDn (x : DnV) : List Value := [.int .i64 x.id, .int .i64 x.why, .int .i64 x.vid, .int .i64 x.learned, .int .i64 x.found, .slice none 0 0, .slice none 0 0]
theorem encDn_len (x : DnV) : (encDn x).length = 7 := rfl
theorem encDn_one (x : DnV) : (encDn x).all Value.oneCell' = true := rfl
theorem dnInfo : (Tryz.prog.info? 66).map (fun i => (i.size, i.bytes)) = some (7, 88) := by kernel_rfl
theorem dnZero : xzero Tryz.prog 66 = some (encDn ⟨0, 0, 0, 0, 0⟩) := by kernel_rfl
/-- What does the frames that come in at a port. -/
structure IgV where
  f : Nat
  P : Int
  rA : Option Addr
  rn : Nat
  rc : Nat
  vA : Option Addr
  vn : Nat
  vc : Nat
  s : Sz
  tries : Int
  ring : Int
  normal : Int
  short : Int
  p : Int
  who : Int
  g1 : Value
  g2 : Value
  g3 : Value
  g4 : Int
  next : Value
  dA : Option Addr
  dn : Nat
  dc : Nat
  lA : Option Addr
  ln : Nat
  lc : Nat
  id : Int
  why : Int
  vid : Int
  learned : Int
  found : Int
  bA : Option Addr
  bn : Nat
  bc : Nat
def encIg (x : IgV) : List Value := [.pointer (some ⟨x.f, 0, none⟩), .int .i64 x.P, .slice x.rA x.rn x.rc, .slice x.vA x.vn x.vc, .int .i64 x.s.sh, .int .i64 x.s.bk, .int .i64 x.s.sl, .int .i64 x.tries, .int .i64 x.ring, .int .u32 x.normal, .int .u32 x.short, .int .i64 x.p, .int .i64 x.who, x.g1, x.g2, x.g3, .int .u32 x.g4, x.next, .slice x.dA x.dn x.dc, .slice x.lA x.ln x.lc,
  .int .i64 x.id, .int .i64 x.why, .int .i64 x.vid, .int .i64 x.learned, .int .i64 x.found, .slice none 0 0, .slice none 0 0, .slice x.bA x.bn x.bc, .int .u64 0, .int .u64 0, .bool false, .int .u16 0, .int .u16 0, .slice none 0 0, .int .u32 0, .int .u64 0, .int .i64 0, .pointer none, .slice none 0 0, .pointer none]
def IgAt (h : Heap) (xb : Nat) (x : IgV) : Prop := h[xb]? = some (.cells (encIg x).toArray 144 (0, 0))
section
variable {h h' : Heap} {F : Fb} {M : MemS} {x : IgV} {xb : Nat}
theorem gNew_spec : HCalls Tryz.prog 44 #[.float .f64 4607182418800017408, .float .f64 4607182418800017408, .int .u32 0] h (fun v h' => v = .agg #[.float .f64 4607182418800017408, .float .f64 4607182418800017408, .float .f64 4607182418800017408, .int .u32 0] ∧ Ext h h') := by
  refine xcalls env0 Tryz.func44 rfl (by kernel_rfl) rfl (by kernel_rfl) ?_
  intro b h1 n1
  refine ⟨rfl, rfl, canset_blk n1.this rfl, fun h2 s2 => ?_⟩
  have hb2 : h2[b]? = some (.cells [Value.float .f64 4607182418800017408, .float .f64 4607182418800017408, .float .f64 4607182418800017408, .int .u32 0].toArray _ (0, 0)) := s2.put n1.this
  exact ⟨[Value.float .f64 4607182418800017408, .float .f64 4607182418800017408, .float .f64 4607182418800017408, .int .u32 0], rfl, reads_all hb2, rfl, n1.ext.stored s2 (n1.ge (Ext.refl _))⟩
theorem iIdle_nil (H : IgAt h xb x) (hn : x.next = .nilFunc) : HCalls Tryz.prog 13 #[.pointer (some ⟨xb, 0, none⟩)] h (fun v h' => v = .bool true ∧ h' = h) := by
  obtain ⟨f, P, rA, rn, rc, vA, vn, vc, s, tries, ring, normal, short, p, who, g1, g2, g3, g4, next, dA, dn, dc, lA, ln, lc, id, why, vid, learned, found, bA, bn, bc⟩ := x
  simp only at hn
  subst hn
  refine xcalls env0 Tryz.func13 rfl (by kernel_rfl) rfl (by kernel_rfl) ?_
  repeat (first | refine ⟨_, cell_blk (H) rfl, ?_⟩)
  exact ⟨rfl, rfl⟩
theorem iIdle_fn (H : IgAt h xb x) {f : Nat} {cap : Array Value} (hn : x.next = .func (.func f) #[] cap) : HCalls Tryz.prog 13 #[.pointer (some ⟨xb, 0, none⟩)] h (fun v h' => v = .bool false ∧ h' = h) := by
  obtain ⟨f, P, rA, rn, rc, vA, vn, vc, s, tries, ring, normal, short, p, who, g1, g2, g3, g4, next, dA, dn, dc, lA, ln, lc, id, why, vid, learned, found, bA, bn, bc⟩ := x
  simp only at hn
  subst hn
  refine xcalls env0 Tryz.func13 rfl (by kernel_rfl) rfl (by kernel_rfl) ?_
  repeat (first | refine ⟨_, cell_blk (H) rfl, ?_⟩)
  exact ⟨rfl, rfl⟩
theorem iNew_spec (H : FabAt h F) {p who : Int} (p0 : 0 ≤ p) (p1 : p < F.P) (hw : 0 ≤ who) {g1 g2 g3 : Value} {g4 : Int} : HCalls Tryz.prog 10 #[.pointer (some ⟨F.fb, 0, none⟩), .int .i64 p, .int .i64 who, .agg #[g1, g2, g3, .int .u32 g4]] h (fun v h' => ∃ xb x, v = .tuple #[.pointer (some ⟨xb, 0, none⟩), .int .i64 0] ∧ h.size ≤ xb ∧ IgAt h' xb x ∧ OwnA encRu 2 221 h.size h' x.rA x.rc F.rules ∧ x.rn = F.rules.length ∧ OwnA encVl 3 165 h.size h' x.vA x.vc F.vls ∧ x.vn = F.vls.length ∧ x.f = F.fb ∧ x.P = F.P ∧ x.p = p ∧ x.who = who ∧ x.next = .nilFunc ∧ x.dA = none ∧ x.dn = 0 ∧ x.dc = 0 ∧ Ext h h') := by
  refine xcalls env0 Tryz.func10 rfl (by kernel_rfl) rfl (by kernel_rfl) ?_
  intro gb h1 n1
  have hg : h1[gb]? = some (.cells [g1, g2, g3, .int .u32 g4].toArray _ (0, 0)) := n1.this
  refine (cPlan_spec (H.ext n1.ext)).mono ?_
  rintro v h2 ⟨A', c', B', d', rfl, oR, oV, x2⟩
  intro pb h3 n3
  refine ⟨rfl, rfl, canset_blk n3.this rfl, fun h4 s4 => ?_⟩
  have hpb : h4[pb]? = some (.cells (planV F.P (.slice A' F.rules.length c') (.slice B' F.vls.length d') F.s F.tries F.S F.normal F.short).toArray _ (0, 0)) := s4.put n3.this
  have x12 := n1.ext.trans x2
  have gpb : h.size ≤ pb := n3.ge x12
  have x4 : Ext h h4 := (x12.trans n3.ext).stored s4 gpb
  have c4 := s4.chg (l := [(pb, 128)]) n3.this (.head _)
  have hg4 : h4[gb]? = _ := c4.blk (n3.ext.blk (x2.blk hg)) (by simp)
  refine xif_false (decide_eq_false (show ¬ who < 0 by omega)) ?_
  refine xif_false (decide_eq_false (show ¬ p < 0 by omega)) ?_
  repeat (first | refine ⟨_, cell_blk (hpb) rfl, ?_⟩)
  refine xif_false (decide_eq_false (show ¬ p ≥ (F.P : Int) by omega)) ?_
  refine ⟨_, rfl, reads_all hpb, _, rfl, reads_all hg4, ?_⟩
  intro xb h5 n5
  have f4 : Ext h4 h5 := n5.ext
  have oR4 := (((oR.ext n3.ext).chg c4 (fun b _ => by simp)).ext f4).mono n1.ext.size
  have oV4 := (((oV.ext n3.ext).chg c4 (fun b _ => by simp)).ext f4).mono n1.ext.size
  exact ⟨xb, ⟨F.fb, F.P, A', F.rules.length, c', B', F.vls.length, d', F.s, F.tries, F.S, F.normal, F.short, p, who, g1, g2, g3, g4, .nilFunc, none, 0, 0, none, 0, 0, 0, 0, 0, 0, 0, none, 0, 0⟩, rfl, n5.ge x4, n5.this, oR4, rfl, oV4, rfl, rfl, rfl, rfl, rfl, rfl, rfl, rfl, rfl, x4.trans f4⟩
theorem iBegin_spec (H : IgAt h xb x) (hn : x.next = .nilFunc) {id : Int} (i0 : 0 ≤ id) (i1 : id ≤ 1099511627776) {A : Option Addr} {n c : Nat} {bs : List Int} (hr : Row encU8 1 h A bs) (hA : A = none → bs = []) (hl : bs.length = n) (hln : bs.length ≤ 100000) : HCalls Tryz.prog 11 #[.pointer (some ⟨xb, 0, none⟩), .int .i64 id, .slice A n c, .int .u32 0] h (fun v h' => v = .bool true ∧ ∃ A' c', OwnA encU8 1 5 h.size h' A' c' bs ∧ IgAt h' xb { x with id := id, why := 0, vid := 0, learned := -1, found := -2, bA := A', bn := n, bc := c', next := .func (.func 50) #[] #[] } ∧ ∃ h1, Ext h h1 ∧ Chg [(xb, 144)] h1 h') := by
  obtain ⟨f, P, rA, rn, rc, vA, vn, vc, s, tries, ring, normal, short, p, who, g1, g2, g3, g4, next, dA, dn, dc, lA, ln, lc, id', why, vid, learned, found, bA, bn, bc⟩ := x
  simp only at hn
  subst hn
  refine xcalls env0 Tryz.func11 rfl (by kernel_rfl) rfl (by kernel_rfl) ?_
  repeat (first | refine ⟨_, cell_blk (H) rfl, ?_⟩)
  refine xif_false (decide_eq_false (show ¬ id < 0 by omega)) ?_
  refine xif_false (decide_eq_false (show ¬ id > 1099511627776 by omega)) ?_
  refine (bClone_spec hr hA hl hln).mono ?_
  rintro v h1 ⟨A', c', rfl, oA, x1⟩
  have H1 := x1.blk H
  refine ⟨rfl, rfl, canset_blk H1 rfl, fun h2 s2 => ?_⟩
  have H2 : IgAt h2 xb ⟨f, P, rA, rn, rc, vA, vn, vc, s, tries, ring, normal, short, p, who, g1, g2, g3, g4, .nilFunc, dA, dn, dc, lA, ln, lc, id, 0, 0, -1, -2, bA, bn, bc⟩ := s2.put H1
  refine ⟨rfl, rfl, canset_blk H2 rfl, fun h3 s3 => ?_⟩
  have H3 : IgAt h3 xb ⟨f, P, rA, rn, rc, vA, vn, vc, s, tries, ring, normal, short, p, who, g1, g2, g3, g4, .nilFunc, dA, dn, dc, lA, ln, lc, id, 0, 0, -1, -2, A', n, c'⟩ := s3.put H2
  refine ⟨rfl, rfl, canset_blk H3 rfl, fun h4 s4 => ?_⟩
  have H4 : IgAt h4 xb ⟨f, P, rA, rn, rc, vA, vn, vc, s, tries, ring, normal, short, p, who, g1, g2, g3, g4, .nilFunc, dA, dn, dc, lA, ln, lc, id, 0, 0, -1, -2, A', n, c'⟩ := s4.put H3
  refine ⟨rfl, rfl, canset_blk H4 rfl, fun h5 s5 => ?_⟩
  have H5 : IgAt h5 xb ⟨f, P, rA, rn, rc, vA, vn, vc, s, tries, ring, normal, short, p, who, g1, g2, g3, g4, .func (.func 50) #[] #[], dA, dn, dc, lA, ln, lc, id, 0, 0, -1, -2, A', n, c'⟩ := s5.put H4
  have c25 : Chg [(xb, 144)] h1 h5 := (((s2.chg H1 (.head _)).trans (s3.chg H2 (.head _))).trans (s4.chg H3 (.head _))).trans (s5.chg H4 (.head _))
  exact ⟨rfl, A', c', oA.chg c25 (fun b _ => by simp), H5, h1, x1, c25⟩
theorem iRefused_spec (H : IgAt h xb x) (w : Int) : HCalls Tryz.prog 103 #[.pointer (some ⟨xb, 0, none⟩), .int .i64 w] h (fun v h' => v = .nilFunc ∧ IgAt h' xb { x with why := w } ∧ Chg [(xb, 144)] h h') := by
  obtain ⟨f, P, rA, rn, rc, vA, vn, vc, s, tries, ring, normal, short, p, who, g1, g2, g3, g4, next, dA, dn, dc, lA, ln, lc, id', why, vid, learned, found, bA, bn, bc⟩ := x
  refine xcalls env0 Tryz.func103 rfl (by kernel_rfl) rfl (by kernel_rfl) ?_
  refine ⟨rfl, rfl, canset_blk H rfl, fun h1 s1 => ?_⟩
  exact ⟨rfl, s1.put H, s1.chg H (.head _)⟩
theorem zeros_get {bs : List Int} (hz : ∀ y ∈ bs, y = 0) (i : Nat) : bs.getD i 0 = 0 := by
  rw [List.getD_eq_getElem?_getD]
  cases hg : bs[i]? with
  | none => rfl
  | some y => exact hz y (List.mem_of_getElem? hg)
theorem zeros_two {bs : List Int} (hz : ∀ y ∈ bs, y = 0) (i : Nat) : two bs i = 0 := by
  unfold two
  rw [zeros_get hz, zeros_get hz]
  rfl
theorem zeros_tag {bs : List Int} (hz : ∀ y ∈ bs, y = 0) : tagged bs = false := by
  unfold tagged
  rw [zeros_two hz]
  rfl
theorem zeros_parse {bs : List Int} (hz : ∀ y ∈ bs, y = 0) (h60 : bs.length = 60) : parseE bs = 0 := by
  unfold parseE
  rw [if_neg (by omega)]
  have e : formM (two bs (behindN bs)) ((bs.length : Int) - (behindN bs + 2 : Nat)) = true := by
    rw [zeros_two hz, h60]
    have : behindN bs = 12 := by unfold behindN; rw [zeros_tag hz]; rfl
    rw [this]
    decide
  rw [e]
  rfl
theorem vClass_zero {A : Option Addr} {n c : Nat} {bs : List Int} (hr : Row encU8 1 h A bs) (hl : bs.length = n) (h60 : n = 60) (hc : n ≤ c) (hz : ∀ y ∈ bs, y = 0) {pv ac : Int} (hac : ac ≠ 1) : HCalls Tryz.prog 102 #[.slice A n c, .agg #[.int .i64 pv, .int .i64 ac]] h (fun v h' => v = .tuple #[.int .i64 pv, .int .i64 0] ∧ Ext h h') := by
  refine xcalls env0 Tryz.func102 rfl (by kernel_rfl) rfl (by kernel_rfl) ?_
  intro rb h1 n1
  have hrb : h1[rb]? = some (.cells [Value.int .i64 pv, .int .i64 ac].toArray _ (0, 0)) := n1.this
  refine (fParse_spec (n1.ext.row hr) hl (by omega) hc (fun y hy => by rw [hz y hy]; decide)).mono ?_
  rintro v h2 ⟨d, s, t, tc, ty, A', n', c', rfl, hp, x2⟩
  have he := zeros_parse hz (hl.trans h60)
  obtain ⟨e1, e2, e3⟩ := hp he
  obtain ⟨rfl, rfl⟩ := e3 hz
  rw [zeros_tag hz] at e1
  have e4 : tciM bs = 0 := by unfold tciM; rw [zeros_tag hz]; rfl
  rw [e4] at e2
  subst e1 e2
  rw [he]
  intro fb h3 n3
  refine ⟨rfl, rfl, canset_blk n3.this rfl, fun h4 s4 => ?_⟩
  have hfb : h4[fb]? = some (.cells (frmV 0 0 false 0 ty A' n' c').toArray 140 (0, 0)) := s4.put n3.this
  have x12 := n1.ext.trans x2
  have x4 : Ext h h4 := (x12.trans n3.ext).stored s4 (n3.ge x12)
  have c4 : Chg [(fb, 140)] h3 h4 := s4.chg n3.this (.head _)
  have hrb4 := c4.blk (n3.ext.blk (x2.blk hrb)) (by simp)
  refine ⟨frmV 0 0 false 0 ty A' n' c', rfl, reads_all hfb, ?_⟩
  refine fVid_spec.mono ?_
  rintro v h5 ⟨rfl, x5⟩
  have hfb5 := x5.blk hfb
  have hrb5 := x5.blk hrb4
  repeat (first | refine ⟨_, cell_blk (hfb5) rfl, ?_⟩)
  refine macKind_zero.mono ?_
  rintro v h6 ⟨rfl, rfl⟩
  repeat (first | refine ⟨_, cell_blk (hfb5) rfl, ?_⟩)
  refine macKind_zero.mono ?_
  rintro v h6 ⟨rfl, rfl⟩
  repeat (first | refine ⟨_, cell_blk (hrb5) rfl, ?_⟩)
  refine xif_false (beq_eq_false_iff_ne.2 hac) ?_
  repeat (first | refine ⟨_, cell_blk (hrb5) rfl, ?_⟩)
  refine xif_of (fun g => ?_) (fun g => ?_)
  · repeat (first | refine ⟨_, cell_blk (hrb5) rfl, ?_⟩)
    exact ⟨rfl, x4.trans x5⟩
  · repeat (first | refine ⟨_, cell_blk (hrb5) rfl, ?_⟩)
    exact ⟨rfl, x4.trans x5⟩
theorem iClass_zero (H : IgAt h xb x) {bs : List Int} (hr : Row encU8 1 h x.bA bs) (hl : bs.length = x.bn) (h60 : x.bn = 60) (hc : x.bn ≤ x.bc) (hz : ∀ y ∈ bs, y = 0) {rules : List Ru} (hrr : Row encRu 2 h x.rA rules) (hrl : rules.length = x.rn) {p : Nat} (hp : x.p = (p : Int)) {r : Ru} (hrp : rules[p]? = some r) (hac : r.acc ≠ 1) {vls : List Vl} {base : Nat} (hvr : OwnA encVl 3 165 base h x.vA x.vc vls) (hvl : vls.length = x.vn) (hvn : x.vn ≤ 1000) (hf : findV r.pvid vls 0 < 0) :
    HCalls Tryz.prog 50 #[.pointer (some ⟨xb, 0, none⟩)] h (fun v h' => v = .nilFunc ∧ IgAt h' xb { x with vid := r.pvid, why := 7 } ∧ ∃ h1, Ext h h1 ∧ Chg [(xb, 144)] h1 h') := by
  obtain ⟨f, P, rA, rn, rc, vA, vn, vc, s, tries, ring, normal, short, pt, who, g1, g2, g3, g4, next, dA, dn, dc, lA, ln, lc, id', why, vid, learned, found, bA, bn, bc⟩ := x
  simp only at hr hl h60 hc hrr hrl hp hvr hvl hvn
  subst hp
  have hpl := (List.getElem?_eq_some_iff.1 hrp).1
  obtain ⟨a, ha, hrd⟩ := hrr p r hrp
  refine xcalls env_iClass Tryz.func50 rfl (by kernel_rfl) rfl (by kernel_rfl) ?_
  repeat (first | refine ⟨_, cell_blk (H) rfl, ?_⟩)
  refine ⟨a, ha, Int.natCast_nonneg p, by show (p : Int) < (rn : Int); omega, encRu r, rfl, hrd, ?_⟩
  refine (vClass_zero hr hl h60 hc hz hac).mono ?_
  rintro v h1 ⟨rfl, x1⟩
  have H1 := x1.blk H
  refine ⟨rfl, rfl, canset_blk H1 rfl, fun h2 s2 => ?_⟩
  have H2 : IgAt h2 xb ⟨f, P, rA, rn, rc, vA, vn, vc, s, tries, ring, normal, short, (p : Int), who, g1, g2, g3, g4, next, dA, dn, dc, lA, ln, lc, id', why, r.pvid, learned, found, bA, bn, bc⟩ := s2.put H1
  have c2 : Chg [(xb, 144)] h1 h2 := s2.chg H1 (.head _)
  repeat (first | refine ⟨_, cell_blk (H2) rfl, ?_⟩)
  have hv2 := ((hvr.ext x1).chg c2 (fun b _ => by simp)).row encVl_len
  subst hvl
  refine (vFind_spec hv2 (by omega)).mono ?_
  rintro v h3 ⟨rfl, x3⟩
  refine xif_true (decide_eq_true hf) ?_
  refine (iRefused_spec (x3.blk H2) 7).mono ?_
  rintro v h4 ⟨rfl, H4, c4⟩
  exact ⟨rfl, H4, h1, x1, (c2.trans (x3.chg _)).trans c4⟩
theorem iStep_last (H : IgAt h xb x) {f : Nat} (hn : x.next = .func (.func f) #[] #[]) (hd : x.dA = none ∧ x.dn = 0 ∧ x.dc = 0) {x' : IgV} (hd' : x'.dA = none ∧ x'.dn = 0 ∧ x'.dc = 0)
    (hf : HCalls Tryz.prog f #[.pointer (some ⟨xb, 0, none⟩)] h (fun v h' => v = .nilFunc ∧ IgAt h' xb x' ∧ ∃ h1, Ext h h1 ∧ Chg [(xb, 144)] h1 h')) (hs : xb < h.size) :
    HCalls Tryz.prog 12 #[.pointer (some ⟨xb, 0, none⟩)] h (fun v h' => v = .bool true ∧ ∃ db dc, IgAt h' xb { x' with next := .nilFunc, dA := some ⟨db, 0, none⟩, dn := 1, dc := dc } ∧ OwnA encDn 7 66 h.size h' (some ⟨db, 0, none⟩) dc [⟨x'.id, x'.why, x'.vid, x'.learned, x'.found⟩] ∧ ∃ h1, Ext h h1 ∧ Chg [(xb, 144)] h1 h') := by
  have hov := iIdle_fn H hn
  obtain ⟨f', P, rA, rn, rc, vA, vn, vc, s, tries, ring, normal, short, pt, who, g1, g2, g3, g4, next, dA, dn, dc, lA, ln, lc, id', why, vid, learned, found, bA, bn, bc⟩ := x
  simp only at hn hd
  subst hn
  refine xcalls env_iStep Tryz.func12 rfl (by kernel_rfl) rfl (by kernel_rfl) ?_
  refine hov.mono ?_
  rintro v h1 ⟨rfl, rfl⟩
  repeat (first | refine ⟨_, cell_blk (H) rfl, ?_⟩)
  refine hf.mono ?_
  rintro v h2 ⟨rfl, H2, h3, x3, c3⟩
  obtain ⟨f', P, rA, rn, rc, vA, vn, vc, s, tries, ring, normal, short, pt, who, g1, g2, g3, g4, next, dA, dn, dc, lA, ln, lc, id', why, vid, learned, found, bA, bn, bc⟩ := x'
  simp only at hd'
  obtain ⟨rfl, rfl, rfl⟩ := hd'
  refine ⟨rfl, rfl, canset_blk H2 rfl, fun h4 s4 => ?_⟩
  have H4 : IgAt h4 xb ⟨f', P, rA, rn, rc, vA, vn, vc, s, tries, ring, normal, short, pt, who, g1, g2, g3, g4, .nilFunc, none, 0, 0, lA, ln, lc, id', why, vid, learned, found, bA, bn, bc⟩ := s4.put H2
  have c4 : Chg [(xb, 144)] h2 h4 := s4.chg H2 (.head _)
  repeat (first | refine ⟨_, cell_blk (H4) rfl, ?_⟩)
  refine ⟨encDn ⟨id', why, vid, learned, found⟩, rfl, reads_at H4 rfl, ?_⟩
  intro nb h5 n5
  have n5' : New h4 h5 nb (.cells (encDn ⟨id', why, vid, learned, found⟩).toArray 66) := n5
  have H5 := n5.ext.blk H4
  have x04 : h1.size ≤ h4.size := Nat.le_trans x3.size (Nat.le_trans c3.size c4.size)
  have own0 : OwnA encDn 7 66 h1.size h4 none 0 ([] : List DnV) := .inl ⟨rfl, rfl, rfl⟩
  refine ⟨⟨cell_blk H5 rfl, trivial⟩, ?_⟩
  refine xappend_one' dnInfo dnZero rfl (by decide) encDn_len encDn_one own0 n5' rfl (by show (0 + 1) * 88 ≤ 140737488355328; decide) x04 fun A' c' h6 o6 K6 fr6 => ?_
  have e64 : Ext h4 h6 := by
    refine ⟨K6.size, fun k hk => K6.old k hk (by simp)⟩
  have H6 := e64.blk H4
  obtain ⟨db, hdb⟩ : ∃ db, A' = some ⟨db, 0, none⟩ := by
    rcases fr6 with e | ⟨b, e, _⟩
    · rw [e] at o6
      rcases o6 with ⟨_, e2, _⟩ | ⟨_, _, e2, _⟩
      · simp at e2
      · cases e2
    · exact ⟨b, e⟩
  subst hdb
  refine ⟨rfl, rfl, canset_blk H6 rfl, fun h7 s7 => ?_⟩
  have H7 : IgAt h7 xb ⟨f', P, rA, rn, rc, vA, vn, vc, s, tries, ring, normal, short, pt, who, g1, g2, g3, g4, .nilFunc, some ⟨db, 0, none⟩, 1, c', lA, ln, lc, id', why, vid, learned, found, bA, bn, bc⟩ := s7.put H6
  have c7 : Chg [(xb, 144)] h6 h7 := s7.chg H6 (.head _)
  refine (iIdle_nil H7 rfl).mono ?_
  rintro v h8 ⟨rfl, rfl⟩
  exact ⟨rfl, db, c', H7, o6.chg c7 (fun b _ => by simp), h3, x3, ((c3.trans c4).trans (e64.chg _)).trans c7⟩
end
end Go.Proofs.YtjjempefncgfhaaGreatDoorE
