/- What does the frames that come in at a port: all that it holds, and how it goes a step on. Conditions: none. -/
import Derived.Test.YtjjempefncgfhaaGreatDoorXI2
import Derived.Test.YtjjempefncgfhaaGreatDoorXGB
set_option linter.unusedVariables false
set_option linter.unusedSimpArgs false
set_option maxRecDepth 100000
namespace Go.Proofs.YtjjempefncgfhaaGreatDoorE
open Go Go.Proofs
def env_fParseG : Nat → Ann
  | 6 => ⟨.op 0 [] <| .op 1 [] <| .op 2 [] <| .op 3 [] <| .op 4 [] <| .op 6 [] <| .op 7 [] <| .op 8 [] <| .op 9 [] <| .alt (.op 5 [] <| .alt (.op 10 [] <| .op 11 [] <| .op 12 [] <| .op 13 [] <| .nil) (.op 12 [] <| .op 10 [] <| .op 11 [] <| .op 13 [] <| .nil)) (.op 12 [] <| .op 5 [] <| .op 10 [] <| .op 11 [] <| .op 13 [] <| .nil), [0, 0, 0, 0, 12, 28, 0, 0, 128, 448, 1020, 2047, 0, 8191], false⟩
  | 7 => ⟨.nil, [], true⟩
  | _ => ⟨.nil, [], false⟩
def env_iStepQ : Nat → Ann
  | 4 => ⟨.op 0 [] <| .op 1 [] <| .op 2 [] <| .op 3 [] <| .op 4 [] <| .op 5 [] <| .op 6 [] <| .op 7 [] <| .op 8 [] <| .op 9 [4] <| .op 10 [] <| .op 11 [] <| .op 12 [] <| .op 13 [] <| .nil, [0, 0, 2, 6, 14, 0, 32, 96, 224, 480, 1022, 2047, 4095, 8191], false⟩
  | _ => ⟨.nil, [], false⟩
def env_iBeginOp : Nat → Ann
  | 1 => ⟨.op 0 [] <| .op 1 [] <| .op 2 [] <| .op 3 [] <| .op 4 [] <| .op 5 [] <| .op 6 [] <| .op 7 [] <| .op 8 [] <| .op 9 [] <| .op 10 [] <| .op 11 [] <| .op 12 [] <| .op 15 [] <| .op 13 [4, 8, 15] <| .op 14 [4, 8, 15] <| .op 16 [] <| .op 17 [4] <| .op 18 [] <| .op 19 [] <| .op 20 [] <| .op 21 [] <| .nil, [0, 0, 2, 6, 14, 0, 32, 96, 224, 0, 512, 1536, 3584, 7680, 15872, 0, 65504, 131040, 262142, 524287, 1048575, 2097151], false⟩
  | _ => ⟨.nil, [], false⟩
def env_iEndOp : Nat → Ann
  | 0 => ⟨.op 0 [] <| .op 1 [] <| .op 2 [] <| .op 3 [] <| .op 4 [] <| .op 5 [] <| .op 6 [] <| .op 7 [] <| .op 8 [] <| .op 9 [] <| .op 10 [] <| .op 11 [] <| .nil, [0, 1, 3, 7, 0, 16, 48, 112, 240, 496, 1023, 2047], false⟩
  | _ => ⟨.nil, [], false⟩
/-- What never changes of it. -/
structure IgC where
  P : Int
  rA : Option Addr
  rc : Nat
  vA : Option Addr
  vc : Nat
  s : Sz
  tries : Int
  ring : Int
  normal : Int
  short : Int
  p : Nat
  who : Int
/-- What changes. -/
structure IgD where
  g1 : Nat
  g2 : Nat
  g3 : Nat
  g4 : Int
  dA : Option Addr
  dc : Nat
  lA : Option Addr
  lc : Nat
  id : Int
  why : Int
  vid : Int
  learned : Int
  found : Int
  toA : Option Addr
  toN : Nat
  toC : Nat
  fuA : Option Addr
  fuN : Nat
  fuC : Nat
  bA : Option Addr
  bn : Nat
  bc : Nat
  dst : Int
  src : Int
  tg : Bool
  tc : Int
  ty : Int
  ldA : Option Addr
  ldN : Nat
  ldC : Nat
  tick : Int
  mem : Int
  state : Int
  act : Value
  qA : Option Addr
  qN : Nat
  qC : Nat
  push : Value
def encG (F : Fb) (c : IgC) (nx : Value) (d : IgD) (n m : Nat) : List Value := [.pointer (some ⟨F.fb, 0, none⟩), .int .i64 c.P, .slice c.rA F.rules.length c.rc, .slice c.vA F.vls.length c.vc, .int .i64 c.s.sh, .int .i64 c.s.bk, .int .i64 c.s.sl, .int .i64 c.tries, .int .i64 c.ring, .int .u32 c.normal, .int .u32 c.short, .int .i64 (c.p : Int), .int .i64 c.who, .float .f64 d.g1, .float .f64 d.g2, .float .f64 d.g3, .int .u32 d.g4, nx, .slice d.dA n d.dc, .slice d.lA m d.lc,
  .int .i64 d.id, .int .i64 d.why, .int .i64 d.vid, .int .i64 d.learned, .int .i64 d.found, .slice d.toA d.toN d.toC, .slice d.fuA d.fuN d.fuC, .slice d.bA d.bn d.bc, .int .u64 d.dst, .int .u64 d.src, .bool d.tg, .int .u16 d.tc, .int .u16 d.ty, .slice d.ldA d.ldN d.ldC, .int .u32 d.tick, .int .u64 d.mem, .int .i64 d.state, d.act, .slice d.qA d.qN d.qC, d.push]
def RawG (h : Heap) (F : Fb) (xb : Nat) (c : IgC) (nx : Value) (d : IgD) (n m : Nat) : Prop := h[xb]? = some (.cells (encG F c nx d n m).toArray 144 (0, 0))
/-- What became of a frame: it went nowhere so far. -/
def IgD.nowhere (d : IgD) : Prop := (d.toA = none ∧ d.toN = 0 ∧ d.toC = 0) ∧ (d.fuA = none ∧ d.fuN = 0 ∧ d.fuC = 0)
def IgD.dn_ (d : IgD) : DnV := ⟨d.id, d.why, d.vid, d.learned, d.found⟩
structure IgOk (base : Nat) (h : Heap) (F : Fb) (xb : Nat) (c : IgC) (nx : Value) (d : IgD) (ds : List DnV) (es : List He) : Prop where
  raw : RawG h F xb c nx d ds.length es.length
  ge : base ≤ xb
  hB : base ≤ h.size
  pP : c.p < F.P
  rules : OwnA encRu 2 221 base h c.rA c.rc F.rules
  vls : OwnA encVl 3 165 base h c.vA c.vc F.vls
  dl : OwnA encDn 7 66 base h d.dA d.dc ds
  lg : OwnA encHe 19 150 base h d.lA d.lc es
  lim : ds.length ≤ 10000 ∧ es.length ≤ 10000
  nw : d.nowhere
/-- What it changes. -/
def TyI : List TypeId := [144, 66, 150, 205]
theorem Ext.ci {base : Nat} {h h' : Heap} (x : Ext h h') (hb : base ≤ h.size) : ChgT base TyI h h' := x.chgT hb
section
variable {h h' : Heap} {F : Fb} {M : MemS} {base xb n m : Nat} {c : IgC} {nx : Value} {d : IgD} {ds : List DnV} {es es0 : List He} {E : He}
theorem FabAt.ci (H : FabAt h F) (x : ChgT base TyI h h') : FabAt h' F := H.chgT x (by decide) (by decide) (by decide) (by decide) (by decide)
theorem MemAt.ci (H : MemAt h F.mb F.cb F.lb M) {l : List TypeId} (x : ChgT base l h h') (n1 : 205 ∉ l) (n2 : 51 ∉ l) (n3 : 3 ∉ l) : MemAt h' F.mb F.cb F.lb M :=
  ⟨x.typ _ _ _ _ H.mem n1, H.cells.chgT x n2, H.locks.chgT x n3⟩
theorem IgOk.ext (S : IgOk base h F xb c nx d ds es) (x : Ext h h') : IgOk base h' F xb c nx d ds es :=
  ⟨x.blk S.raw, S.ge, Nat.le_trans S.hB x.size, S.pP, S.rules.ext x, S.vls.ext x, S.dl.ext x, S.lg.ext x, S.lim, S.nw⟩
/-- Other things change. -/
theorem IgOk.chg (S : IgOk base h F xb c nx d ds es) {l : List (Nat × TypeId)} (x : Chg l h h') (n1 : (xb, 144) ∉ l) (n2 : ∀ k, (k, 221) ∉ l) (n3 : ∀ k, (k, 165) ∉ l) (n4 : ∀ k, (k, 66) ∉ l) (n5 : ∀ k, (k, 150) ∉ l) : IgOk base h' F xb c nx d ds es :=
  ⟨x.blk S.raw n1, S.ge, Nat.le_trans S.hB x.size, S.pP, S.rules.chg x (fun b _ => n2 b), S.vls.chg x (fun b _ => n3 b), S.dl.chg x (fun b _ => n4 b), S.lg.chg x (fun b _ => n5 b), S.lim, S.nw⟩
/-- A field of its own changes. -/
theorem IgOk.field (S : IgOk base h F xb c nx d ds es) {nx' : Value} {d' : IgD} (r : RawG h' F xb c nx' d' ds.length es.length) (x : Chg [(xb, 144)] h h') (nw : d'.nowhere) (e1 : d'.dA = d.dA := by rfl) (e2 : d'.dc = d.dc := by rfl) (e4 : d'.lA = d.lA := by rfl) (e5 : d'.lc = d.lc := by rfl) : IgOk base h' F xb c nx' d' ds es :=
  ⟨r, S.ge, Nat.le_trans S.hB x.size, S.pP, S.rules.chg x (fun b _ => by simp), S.vls.chg x (fun b _ => by simp), by rw [e1, e2]; exact S.dl.chg x (fun b _ => by simp), by rw [e4, e5]; exact S.lg.chg x (fun b _ => by simp), S.lim, nw⟩
theorem IgOk.ci (S : IgOk base h F xb c nx d ds es) (x : Chg [(xb, 144)] h h') : ChgT base TyI h h' := x.chgT S.hB fun q hq => by simp at hq; subst hq; exact ⟨S.ge, by simp [TyI]⟩
theorem iIdleQ_nil (H : RawG h F xb c .nilFunc d n m) : HCalls Tryz.prog 13 #[.pointer (some ⟨xb, 0, none⟩)] h (fun v h' => v = .bool true ∧ h' = h) := by
  refine xcalls env0 Tryz.func13 rfl (by kernel_rfl) rfl (by kernel_rfl) ?_
  repeat (first | refine ⟨_, cell_blk (H) rfl, ?_⟩)
  exact ⟨rfl, rfl⟩
theorem iIdleQ_fn {f : Nat} {cap : Array Value} (H : RawG h F xb c (.func (.func f) #[] cap) d n m) : HCalls Tryz.prog 13 #[.pointer (some ⟨xb, 0, none⟩)] h (fun v h' => v = .bool false ∧ h' = h) := by
  refine xcalls env0 Tryz.func13 rfl (by kernel_rfl) rfl (by kernel_rfl) ?_
  repeat (first | refine ⟨_, cell_blk (H) rfl, ?_⟩)
  exact ⟨rfl, rfl⟩
theorem iRefusedQ_spec (S : IgOk base h F xb c nx d ds es) (w : Int) : HCalls Tryz.prog 103 #[.pointer (some ⟨xb, 0, none⟩), .int .i64 w] h (fun v h' => v = .nilFunc ∧ IgOk base h' F xb c nx { d with why := w } ds es ∧ Chg [(xb, 144)] h h') := by
  have H := S.raw
  refine xcalls env0 Tryz.func103 rfl (by kernel_rfl) rfl (by kernel_rfl) ?_
  refine ⟨rfl, rfl, canset_blk H rfl, fun h1 s1 => ?_⟩
  exact ⟨rfl, S.field (s1.put H) (s1.chg H (.head _)) S.nw, s1.chg H (.head _)⟩
/-- Something is noted that is being done. -/
theorem iBeginOp_spec (S : IgOk base h F xb c nx d ds es) (HF : FabAt h F) (HM : MemAt h F.mb F.cb F.lb M) (hl : es.length < 10000) (o : Op17) :
    HCalls Tryz.prog 167 #[.pointer (some ⟨xb, 0, none⟩), .agg (encO17 o).toArray] h (fun v h' => v = .tuple #[] ∧ (∃ A c', IgOk base h' F xb c nx { d with lA := A, lc := c' } ds (es ++ [⟨c.who, (M.t : Int), 0, 0, o, 0⟩])) ∧ MemAt h' F.mb F.cb F.lb M ∧ ChgT base TyI h h') := by
  refine xcalls env_iBeginOp Tryz.func167 rfl (by kernel_rfl) rfl (by kernel_rfl) ?_
  intro ob h1 n1
  have hob : h1[ob]? = some (.cells (encO17 o).toArray 107 (0, 0)) := n1.this
  have S1 := S.ext n1.ext
  have H1 := S1.raw
  have F1 := HF.ext n1.ext
  have M1 := HM.ext n1.ext
  repeat (first | refine ⟨_, cell_blk (H1) rfl, ?_⟩)
  refine ⟨encO17 o, rfl, reads_all hob, ?_⟩
  refine (cMem_spec F1).mono ?_
  rintro v h2 ⟨rfl, rfl⟩
  try (refine ⟨by ((repeat (first | refine ⟨cell_blk (H1) rfl, ?_⟩ | refine ⟨reads_all (hob), ?_⟩)); exact trivial), ?_⟩)
  refine (mTime_spec M1).mono ?_
  rintro v h2 ⟨rfl, rfl⟩
  try (refine ⟨by ((repeat (first | refine ⟨cell_blk (H1) rfl, ?_⟩ | refine ⟨reads_all (hob), ?_⟩)); exact trivial), ?_⟩)
  intro gb h4 n4
  have n4' : New _ h4 gb (.cells (encHe ⟨c.who, (M.t : Int), 0, 0, o, 0⟩).toArray 150) := n4
  have S4 := S1.ext n4.ext
  have H4 := S4.raw
  try (refine ⟨by ((repeat (first | refine ⟨cell_blk (H4) rfl, ?_⟩)); exact trivial), ?_⟩)
  refine xappend_one' hsInfo hsZero rfl (by decide) encHe_len encHe_one S1.lg n4' rfl (by show (es.length + 1) * 144 ≤ 140737488355328; omega) S1.hB fun A' c' h5 o5 K5 hA5 => ?_
  obtain ⟨l5, c5, hl5⟩ := K5.toChg S1.lg
  have nin : ∀ k T', T' ≠ 150 → (k, T') ∉ l5 := fun k T' ne hm => ne (hl5 _ hm).1
  have H5 := c5.blk S1.raw (nin _ _ (by decide))
  refine ⟨rfl, rfl, canset_blk H5 rfl, fun h6 s6 => ?_⟩
  have H6 : RawG h6 F xb c nx { d with lA := A', lc := c' } ds.length (es ++ [(⟨c.who, (M.t : Int), 0, 0, o, 0⟩ : He)]).length := by
    rw [List.length_append]
    exact s6.put H5
  have c6 : Chg [(xb, 144)] h5 h6 := s6.chg H5 (.head _)
  have t5 : ChgT base TyI _ h5 := c5.chgT S1.hB fun p hp => ⟨(hl5 _ hp).2, by rw [(hl5 _ hp).1]; simp [TyI]⟩
  have t6 : ChgT base TyI h5 h6 := c6.chgT (Nat.le_trans S1.hB c5.size) fun q hq => by simp at hq; subst hq; exact ⟨S.ge, by simp [TyI]⟩
  have S6 : IgOk base h6 F xb c nx { d with lA := A', lc := c' } ds (es ++ [⟨c.who, (M.t : Int), 0, 0, o, 0⟩]) :=
    ⟨H6, S.ge, Nat.le_trans S1.hB (Nat.le_trans c5.size c6.size), S.pP, (S1.rules.chg c5 (fun b _ => nin _ _ (by decide))).chg c6 (fun b _ => by simp), (S1.vls.chg c5 (fun b _ => nin _ _ (by decide))).chg c6 (fun b _ => by simp),
      (S1.dl.chg c5 (fun b _ => nin _ _ (by decide))).chg c6 (fun b _ => by simp), o5.chg c6 (fun b _ => by simp), ⟨S.lim.1, by rw [List.length_append]; exact hl⟩, S.nw⟩
  exact ⟨rfl, ⟨A', c', S6⟩, (M1.chg c5 (nin _ _ (by decide)) (nin _ _ (by decide)) (nin _ _ (by decide))).chg c6 (by simp) (by simp) (by simp), ((n1.ext.chgT S.hB).trans t5).trans t6⟩
theorem iEndOp_spec (S : IgOk base h F xb c nx d ds (es0 ++ [E])) (HF : FabAt h F) (HM : MemAt h F.mb F.cb F.lb M) (mk ans : Int) :
    HCalls Tryz.prog 169 #[.pointer (some ⟨xb, 0, none⟩), .int .i64 mk, .int .i64 ans] h (fun v h' => v = .tuple #[] ∧ IgOk base h' F xb c nx d ds (es0 ++ [{ E with mark := mk, fin := (M.t : Int), ans := ans }]) ∧ MemAt h' F.mb F.cb F.lb M ∧ ChgT base TyI h h') := by
  have H := S.raw
  refine xcalls env_iEndOp Tryz.func169 rfl (by kernel_rfl) rfl (by kernel_rfl) ?_
  repeat (first | refine ⟨_, cell_blk (H) rfl, ?_⟩)
  have hlen : (es0 ++ [E]).length = es0.length + 1 := by rw [List.length_append]; rfl
  have hlim := S.lim.2
  have ew : IntKind.i64.wrap (((es0 ++ [E]).length : Int) - 1) = (es0.length : Int) := by rw [hlen, wrap_i64 (by omega) (by omega)]; omega
  have hE : (es0 ++ [E])[es0.length]? = some E := by rw [List.getElem?_append_right (Nat.le_refl _), Nat.sub_self]; rfl
  obtain ⟨lb, hg⟩ : ∃ lb, d.lA = some ⟨lb, 0, none⟩ := by
    rcases S.lg with ⟨_, e, _⟩ | ⟨b, _, e, _⟩
    · simp at e
    · exact ⟨b, e⟩
  have lg := S.lg
  rw [hg] at lg
  refine ⟨⟨lb, 0, none⟩, hg, by rw [ew]; omega, by rw [ew]; omega, ?_⟩
  rw [ew]
  repeat (first | refine ⟨_, cell_blk (H) rfl, ?_⟩)
  refine (cMem_spec HF).mono ?_
  rintro v h2 ⟨rfl, rfl⟩
  refine (mTime_spec HM).mono ?_
  rintro v h2 ⟨rfl, rfl⟩
  have ea : (⟨lb, 0, none⟩ : Addr).add (((es0.length : Int)).toNat * 19) = ⟨lb, es0.length * 19, none⟩ := by rw [add_lit, Int.toNat_natCast, Nat.zero_add]
  have eaf : ∀ f : Nat, ((⟨lb, 0, none⟩ : Addr).add (((es0.length : Int)).toNat * 19)).add f = ⟨lb, es0.length * 19 + f, none⟩ := fun f => by rw [add_lit, add_lit, Int.toNat_natCast, Nat.zero_add]
  have setl : ∀ A B : He, (es0 ++ [A]).set es0.length B = es0 ++ [B] := fun A B => by rw [List.set_append_right _ _ (Nat.le_refl _), Nat.sub_self]; rfl
  have getl : ∀ A : He, (es0 ++ [A])[es0.length]? = some A := fun A => by rw [List.getElem?_append_right (Nat.le_refl _), Nat.sub_self]; rfl
  have cs : ∀ (g : Heap) (A : He), OwnA encHe 19 150 base g (some ⟨lb, 0, none⟩) d.lc (es0 ++ [A]) → ∀ f, f + 1 ≤ 19 → CanSet g (((⟨lb, 0, none⟩ : Addr).add (((es0.length : Int)).toNat * 19)).add f) 1 := fun g A og f hf => by
    obtain ⟨b, e, _, cs⟩ := og.canset encHe_len (i := es0.length) (j := f) (n := 1) (by rw [List.length_append]; exact Nat.lt_succ_self _) hf
    cases e
    rw [eaf]; exact cs
  refine ⟨rfl, rfl, cs _ _ lg 2 (by decide), fun h3 s3 => ?_⟩
  have s3' : Stored h2 ⟨lb, es0.length * 19 + 2, none⟩ [.int .i64 mk] h3 := by rw [← eaf]; exact s3
  obtain ⟨cs0, hcs0⟩ := lg.block
  have c3 : Chg [(lb, 150)] h2 h3 := s3'.chg hcs0 (.head _)
  have o3 := lg.put encHe_len (x' := { E with mark := mk }) rfl s3' (getl E) (by show 2 + 1 ≤ 19; decide) rfl
  rw [setl] at o3
  refine ⟨rfl, rfl, cs _ _ o3 3 (by decide), fun h4 s4 => ?_⟩
  have s4' : Stored h3 ⟨lb, es0.length * 19 + 3, none⟩ [.int .i64 (M.t : Int)] h4 := by rw [← eaf]; exact s4
  obtain ⟨cs1, hcs1⟩ := o3.block
  have c4 : Chg [(lb, 150)] h3 h4 := s4'.chg hcs1 (.head _)
  have o4 := o3.put encHe_len (x' := { E with mark := mk, fin := (M.t : Int) }) rfl s4' (getl _) (by show 3 + 1 ≤ 19; decide) rfl
  rw [setl] at o4
  refine ⟨rfl, rfl, cs _ _ o4 18 (by decide), fun h5 s5 => ?_⟩
  have s5' : Stored h4 ⟨lb, es0.length * 19 + 18, none⟩ [.int .i64 ans] h5 := by rw [← eaf]; exact s5
  obtain ⟨cs2, hcs2⟩ := o4.block
  have c5 : Chg [(lb, 150)] h4 h5 := s5'.chg hcs2 (.head _)
  have o5 := o4.put encHe_len (x' := { E with mark := mk, fin := (M.t : Int), ans := ans }) rfl s5' (getl _) (by show 18 + 1 ≤ 19; decide) rfl
  rw [setl] at o5
  have cc := (c3.trans c4).trans c5
  have hlb : base ≤ lb := S.lg.ge _ hg
  refine ⟨rfl, ⟨?_, S.ge, Nat.le_trans S.hB cc.size, S.pP, S.rules.chg cc (fun b _ => by simp), S.vls.chg cc (fun b _ => by simp), S.dl.chg cc (fun b _ => by simp), by rw [hg]; exact o5, ⟨S.lim.1, by rw [List.length_append]; exact (by rw [hlen] at hlim; exact hlim)⟩, S.nw⟩, HM.chg cc (by simp) (by simp) (by simp), cc.chgT S.hB fun q hq => by simp at hq; subst hq; exact ⟨hlb, by simp [TyI]⟩⟩
  have r := cc.blk S.raw (by simp)
  rw [hlen] at r
  show RawG h5 F xb c nx d ds.length _
  rw [List.length_append]
  exact r
/-- A step: what is done next does it; a frame that is over is noted. -/
theorem iStepQ_spec {g : Nat} {Q : Value → IgD → List He → Heap → Prop} (S : IgOk base h F xb c (.func (.func g) #[] #[]) d ds es) (hl : ds.length < 10000)
    (hf : HCalls Tryz.prog g #[.pointer (some ⟨xb, 0, none⟩)] h (fun v h' => (v = .nilFunc ∨ ∃ k, v = .func (.func k) #[] #[]) ∧ ∃ d' es', IgOk base h' F xb c (.func (.func g) #[] #[]) d' ds es' ∧ Q v d' es' h')) :
    HCalls Tryz.prog 12 #[.pointer (some ⟨xb, 0, none⟩)] h (fun r h' => ∃ v d' es' h1, Q v d' es' h1 ∧ ChgT base [144, 66] h1 h' ∧
      ((v = .nilFunc ∧ r = .bool true ∧ ∃ A c', IgOk base h' F xb c .nilFunc { d' with dA := A, dc := c' } (ds ++ [d'.dn_]) es') ∨
       (∃ k, v = .func (.func k) #[] #[] ∧ r = .bool false ∧ IgOk base h' F xb c v d' ds es'))) := by
  have hov := iIdleQ_fn S.raw
  have H := S.raw
  refine xcalls env_iStepQ Tryz.func12 rfl (by kernel_rfl) rfl (by kernel_rfl) ?_
  refine hov.mono ?_
  rintro v h1 ⟨rfl, rfl⟩
  repeat (first | refine ⟨_, cell_blk (H) rfl, ?_⟩)
  refine hf.mono ?_
  rintro v h2 ⟨hv, d', es', S2, q2⟩
  have H2 := S2.raw
  rcases hv with rfl | ⟨k, rfl⟩
  · refine ⟨rfl, rfl, canset_blk H2 rfl, fun h4 s4 => ?_⟩
    have H4 : RawG h4 F xb c .nilFunc d' ds.length es'.length := s4.put H2
    have c4 : Chg [(xb, 144)] h2 h4 := s4.chg H2 (.head _)
    have S4 := S2.field H4 c4 S2.nw
    obtain ⟨⟨a1, a2, a3⟩, b1, b2, b3⟩ := S2.nw
    repeat (first | refine ⟨_, cell_blk (H4) rfl, ?_⟩)
    refine ⟨[.int .i64 d'.id, .int .i64 d'.why, .int .i64 d'.vid, .int .i64 d'.learned, .int .i64 d'.found, .slice d'.toA d'.toN d'.toC, .slice d'.fuA d'.fuN d'.fuC], rfl, reads_at H4 rfl, ?_⟩
    intro nb h5 n5
    have e : [Value.int .i64 d'.id, .int .i64 d'.why, .int .i64 d'.vid, .int .i64 d'.learned, .int .i64 d'.found, .slice d'.toA d'.toN d'.toC, .slice d'.fuA d'.fuN d'.fuC] = encDn d'.dn_ := by rw [a1, a2, a3, b1, b2, b3]; rfl
    have n5' : New h4 h5 nb (.cells (encDn d'.dn_).toArray 66) := by rw [← e]; exact n5
    have H5 := n5.ext.blk H4
    try (refine ⟨by ((repeat (first | refine ⟨cell_blk (H5) rfl, ?_⟩)); exact trivial), ?_⟩)
    refine xappend_one' dnInfo dnZero rfl (by decide) encDn_len encDn_one S4.dl n5' rfl (by show (ds.length + 1) * 88 ≤ 140737488355328; omega) S4.hB fun A' c' h6 o6 K6 hA6 => ?_
    obtain ⟨l6, c6, hl6⟩ := K6.toChg S4.dl
    have nin : ∀ k T', T' ≠ 66 → (k, T') ∉ l6 := fun k T' ne hm => ne (hl6 _ hm).1
    have H6 := c6.blk H4 (nin _ _ (by decide))
    refine ⟨rfl, rfl, canset_blk H6 rfl, fun h7 s7 => ?_⟩
    have H7 : RawG h7 F xb c .nilFunc { d' with dA := A', dc := c' } (ds ++ [d'.dn_]).length es'.length := by
      rw [List.length_append]
      exact s7.put H6
    have c7 : Chg [(xb, 144)] h6 h7 := s7.chg H6 (.head _)
    refine (iIdleQ_nil H7).mono ?_
    rintro v h8 ⟨rfl, rfl⟩
    have S7 : IgOk base h8 F xb c .nilFunc { d' with dA := A', dc := c' } (ds ++ [d'.dn_]) es' :=
      ⟨H7, S.ge, Nat.le_trans S4.hB (Nat.le_trans c6.size c7.size), S.pP, (S4.rules.chg c6 (fun b _ => nin _ _ (by decide))).chg c7 (fun b _ => by simp), (S4.vls.chg c6 (fun b _ => nin _ _ (by decide))).chg c7 (fun b _ => by simp),
        o6.chg c7 (fun b _ => by simp), (S4.lg.chg c6 (fun b _ => nin _ _ (by decide))).chg c7 (fun b _ => by simp), ⟨by rw [List.length_append]; exact hl, S4.lim.2⟩, S2.nw⟩
    refine ⟨_, _, _, _, q2, ?_, .inl ⟨rfl, rfl, A', c', S7⟩⟩
    exact ((c4.chgT S2.hB fun q hq => by simp at hq; subst hq; exact ⟨S2.ge, by simp⟩).trans (c6.chgT S4.hB fun q hq => ⟨(hl6 _ hq).2, by rw [(hl6 _ hq).1]; simp⟩)).trans (c7.chgT (Nat.le_trans S4.hB c6.size) fun q hq => by simp at hq; subst hq; exact ⟨S2.ge, by simp⟩)
  · refine ⟨rfl, rfl, canset_blk H2 rfl, fun h4 s4 => ?_⟩
    have H4 : RawG h4 F xb c (.func (.func k) #[] #[]) d' ds.length es'.length := s4.put H2
    have c4 : Chg [(xb, 144)] h2 h4 := s4.chg H2 (.head _)
    have S4 := S2.field H4 c4 S2.nw
    repeat (first | refine ⟨_, cell_blk (H4) rfl, ?_⟩)
    refine (iIdleQ_fn H4).mono ?_
    rintro v h5 ⟨rfl, rfl⟩
    exact ⟨_, _, _, _, q2, c4.chgT S2.hB fun q hq => by simp at hq; subst hq; exact ⟨S2.ge, by simp⟩, .inr ⟨k, rfl, rfl, S4⟩⟩
theorem iBeginQ_spec (S : IgOk base h F xb c .nilFunc d ds es) {id now : Int} (i0 : 0 ≤ id) (i1 : id ≤ 1099511627776) {A : Option Addr} {n cc : Nat} {bs : List Int} (hr : Row encU8 1 h A bs) (hA : A = none → bs = []) (hl : bs.length = n) (hln : bs.length ≤ 100000) :
    HCalls Tryz.prog 11 #[.pointer (some ⟨xb, 0, none⟩), .int .i64 id, .slice A n cc, .int .u32 now] h (fun v h' => v = .bool true ∧ ∃ A' c', OwnA encU8 1 5 base h' A' c' bs ∧
      IgOk base h' F xb c (.func (.func 50) #[] #[]) { d with id := id, why := 0, vid := 0, learned := -1, found := -2, toA := none, toN := 0, toC := 0, fuA := none, fuN := 0, fuC := 0, bA := A', bn := n, bc := c', tick := now } ds es ∧ ChgT base TyI h h' ∧ ∃ h1, Ext h h1 ∧ Chg [(xb, 144)] h1 h') := by
  have H := S.raw
  refine xcalls env0 Tryz.func11 rfl (by kernel_rfl) rfl (by kernel_rfl) ?_
  repeat (first | refine ⟨_, cell_blk (H) rfl, ?_⟩)
  refine xif_false (decide_eq_false (show ¬ id < 0 by omega)) ?_
  refine xif_false (decide_eq_false (show ¬ id > 1099511627776 by omega)) ?_
  refine (bClone_spec hr hA hl hln).mono ?_
  rintro v h1 ⟨A', c', rfl, oA, x1⟩
  have S1 := S.ext x1
  have H1 := S1.raw
  refine ⟨rfl, rfl, canset_blk H1 rfl, fun h2 s2 => ?_⟩
  have S2 : IgOk base h2 F xb c .nilFunc { d with id := id, why := 0, vid := 0, learned := -1, found := -2, toA := none, toN := 0, toC := 0, fuA := none, fuN := 0, fuC := 0 } ds es := S1.field (s2.put H1) (s2.chg H1 (.head _)) ⟨⟨rfl, rfl, rfl⟩, rfl, rfl, rfl⟩
  have H2 := S2.raw
  refine ⟨rfl, rfl, canset_blk H2 rfl, fun h3 s3 => ?_⟩
  have S3 : IgOk base h3 F xb c .nilFunc { d with id := id, why := 0, vid := 0, learned := -1, found := -2, toA := none, toN := 0, toC := 0, fuA := none, fuN := 0, fuC := 0, bA := A', bn := n, bc := c' } ds es := S2.field (s3.put H2) (s3.chg H2 (.head _)) ⟨⟨rfl, rfl, rfl⟩, rfl, rfl, rfl⟩
  have H3 := S3.raw
  refine ⟨rfl, rfl, canset_blk H3 rfl, fun h4 s4 => ?_⟩
  have S4 : IgOk base h4 F xb c .nilFunc { d with id := id, why := 0, vid := 0, learned := -1, found := -2, toA := none, toN := 0, toC := 0, fuA := none, fuN := 0, fuC := 0, bA := A', bn := n, bc := c', tick := now } ds es := S3.field (s4.put H3) (s4.chg H3 (.head _)) ⟨⟨rfl, rfl, rfl⟩, rfl, rfl, rfl⟩
  have H4 := S4.raw
  refine ⟨rfl, rfl, canset_blk H4 rfl, fun h5 s5 => ?_⟩
  have S5 : IgOk base h5 F xb c (.func (.func 50) #[] #[]) { d with id := id, why := 0, vid := 0, learned := -1, found := -2, toA := none, toN := 0, toC := 0, fuA := none, fuN := 0, fuC := 0, bA := A', bn := n, bc := c', tick := now } ds es := S4.field (s5.put H4) (s5.chg H4 (.head _)) ⟨⟨rfl, rfl, rfl⟩, rfl, rfl, rfl⟩
  have c25 : Chg [(xb, 144)] h1 h5 := (((s2.chg H1 (.head _)).trans (s3.chg H2 (.head _))).trans (s4.chg H3 (.head _))).trans (s5.chg H4 (.head _))
  exact ⟨rfl, A', c', (oA.mono S.hB).chg c25 (fun b _ => by simp), S5, (x1.chgT S.hB).trans (S1.ci c25), h1, x1, c25⟩
def igd0 (g1 g2 g3 : Nat) (g4 : Int) : IgD := ⟨g1, g2, g3, g4, none, 0, none, 0, 0, 0, 0, 0, 0, none, 0, 0, none, 0, 0, none, 0, 0, 0, 0, false, 0, 0, none, 0, 0, 0, 0, 0, .pointer none, none, 0, 0, .pointer none⟩
theorem iNewQ_spec (H : FabAt h F) (hB : base ≤ h.size) {p : Nat} {who : Int} (p1 : p < F.P) (hw : 0 ≤ who) {g1 g2 g3 : Nat} {g4 : Int} : HCalls Tryz.prog 10 #[.pointer (some ⟨F.fb, 0, none⟩), .int .i64 (p : Int), .int .i64 who, .agg #[.float .f64 g1, .float .f64 g2, .float .f64 g3, .int .u32 g4]] h
    (fun v h' => ∃ xb c, v = .tuple #[.pointer (some ⟨xb, 0, none⟩), .int .i64 0] ∧ h.size ≤ xb ∧ c.p = p ∧ c.who = who ∧ IgOk base h' F xb c .nilFunc (igd0 g1 g2 g3 g4) [] [] ∧ Ext h h') := by
  refine xcalls env0 Tryz.func10 rfl (by kernel_rfl) rfl (by kernel_rfl) ?_
  intro gb h1 n1
  have hg : h1[gb]? = some (.cells [.float .f64 g1, .float .f64 g2, .float .f64 g3, .int .u32 g4].toArray _ (0, 0)) := n1.this
  refine (cPlan_spec (H.ext n1.ext)).mono ?_
  rintro v h2 ⟨A', c', B', d', rfl, oR, oV, x2⟩
  intro pb h3 n3
  refine ⟨rfl, rfl, canset_blk n3.this rfl, fun h4 s4 => ?_⟩
  have hpb : h4[pb]? = some (.cells (planV F.P (.slice A' F.rules.length c') (.slice B' F.vls.length d') F.s F.tries F.S F.normal F.short).toArray _ (0, 0)) := s4.put n3.this
  have x12 := n1.ext.trans x2
  have gpb : h.size ≤ pb := n3.ge x12
  have x4 : Ext h h4 := (x12.trans n3.ext).stored s4 gpb
  have c4 := s4.chg (l := [(pb, 128)]) n3.this (.head _)
  have hg4 : h4[gb]? = _ := c4.blk (n3.ext.blk (x2.blk hg)) (by simp)
  refine xif_false (decide_eq_false (show ¬ who < 0 by omega)) ?_
  repeat (first | refine ⟨_, cell_blk (hpb) rfl, ?_⟩)
  refine xif_false (decide_eq_false (show ¬ (p : Int) ≥ (F.P : Int) by omega)) ?_
  refine ⟨_, rfl, reads_all hpb, _, rfl, reads_all hg4, ?_⟩
  intro xb h5 n5
  have f4 : Ext h4 h5 := n5.ext
  have oR4 := (((oR.ext n3.ext).chg c4 (fun b _ => by simp)).ext f4).mono (Nat.le_trans hB n1.ext.size)
  have oV4 := (((oV.ext n3.ext).chg c4 (fun b _ => by simp)).ext f4).mono (Nat.le_trans hB n1.ext.size)
  exact ⟨xb, ⟨F.P, A', c', B', d', F.s, F.tries, F.S, F.normal, F.short, p, who⟩, rfl, n5.ge x4, rfl, rfl, ⟨n5.this, Nat.le_trans hB (n5.ge x4), Nat.le_trans hB (x4.trans f4).size, p1, oR4, oV4, .inl ⟨rfl, rfl, rfl⟩, .inl ⟨rfl, rfl, rfl⟩, ⟨Nat.zero_le _, Nat.zero_le _⟩, ⟨rfl, rfl, rfl⟩, rfl, rfl, rfl⟩, x4.trans f4⟩
end
end Go.Proofs.YtjjempefncgfhaaGreatDoorE
/- A frame's bytes are read whole; of which VLAN it is, by a port's rule. Conditions: the bytes are bytes, and not very many. -/
set_option linter.unusedVariables false
set_option linter.unusedSimpArgs false
set_option maxRecDepth 100000
namespace Go.Proofs.YtjjempefncgfhaaGreatDoorE
open Go Go.Proofs
/-- Bytes as a number. -/
def macF (l : List Int) : Int := l.foldl (fun m y => m * 256 + y) 0
def macN (bs : List Int) : Int := macF (bs.take 6)
theorem macF_snoc (l : List Int) (y : Int) : macF (l ++ [y]) = macF l * 256 + y := by unfold macF; rw [List.foldl_append]; rfl
theorem take_getD {bs : List Int} {i : Nat} (h : i < bs.length) : bs.take (i + 1) = bs.take i ++ [bs.getD i 0] := by
  rw [List.take_succ_eq_append_getElem h, List.getD_eq_getElem?_getD, List.getElem?_eq_getElem h]; rfl
theorem macF_range {bs : List Int} (hb : IsB bs) : ∀ i : Nat, 0 ≤ macF (bs.take i) ∧ macF (bs.take i) < 256 ^ i
  | 0 => ⟨by simp [macF], by simp [macF]⟩
  | i + 1 => by
    obtain ⟨r1, r2⟩ := macF_range hb i
    have g := isB_get hb i
    by_cases h : i < bs.length
    · rw [take_getD h, macF_snoc, Int.pow_succ]
      constructor <;> omega
    · rw [List.take_of_length_le (show bs.length ≤ i + 1 by omega), Int.pow_succ]
      rw [List.take_of_length_le (show bs.length ≤ i by omega)] at r1 r2
      have : (0 : Int) < 256 ^ i := by omega
      constructor <;> omega
theorem macN_range {bs : List Int} (hb : IsB bs) : 0 ≤ macN bs ∧ macN bs < 281474976710656 := by
  have := macF_range hb 6
  have e : (256 : Int) ^ 6 = 281474976710656 := by decide
  rw [e] at this
  exact this
/-- What reading tells: nothing wrong, too short, too long, of no form. -/
def parseL (bs : List Int) : Int := if bs.length < 60 then 2 else if behindN bs + 1502 < bs.length then 3 else if formM (two bs (behindN bs)) ((bs.length : Int) - (behindN bs + 2 : Nat)) = true then 0 else 4
section
variable {h h' : Heap}
theorem macOfG_spec {A : Option Addr} {n c : Nat} {bs : List Int} (hr : Row encU8 1 h A bs) (hl : bs.length = n) (h2 : 6 ≤ n) (hc : n ≤ c) (hb : IsB bs) : HCalls Tryz.prog 166 #[.slice A n c] h (fun v h' => v = .tuple #[.int .u64 (macN bs), .int .i64 0] ∧ h' = h) := by
  refine xcalls env0 Tryz.func166 rfl (by kernel_rfl) rfl (by kernel_rfl) ?_
  refine xif_of (fun q => absurd (show (n : Int) < 6 from of_decide_eq_true q) (by omega)) (fun _ => ?_)
  refine ⟨by decide, by decide, by decide, by omega, by omega, ?_⟩
  have t6 : Int.toNat 6 = 6 := rfl
  have t0 : Int.toNat 0 = 0 := rfl
  have hr6 := row_first hr 6 (q := (c : Int).toNat = Int.toNat 0) (inst := inferInstance) (f := fun x => x.add (Int.toNat 0 * 1)) (fun a => add_zero' a)
  have hl6 : (bs.take 6).length = 6 := by rw [List.length_take]; omega
  obtain ⟨A6, hA6⟩ : ∃ A6, (if (c : Int).toNat = Int.toNat 0 then A else Option.map (fun x => x.add (Int.toNat 0 * 1)) A) = A6 := ⟨_, rfl⟩
  rw [hA6] at hr6
  refine ⟨Nat, fun z => [(4, .int .u64 (macF (bs.take z))), (11, .slice A6 6 ((c : Int).toNat - Int.toNat 0)), (12, .int .i64 6), (13, .int .i64 z)], fun z h' => z ≤ 6 ∧ h' = h, fun z => 6 - z, 0, ⟨rfl, congrArg (fun a => some (Value.slice a 6 ((c : Int).toNat - Int.toNat 0))) hA6, rfl, rfl, trivial⟩, ⟨by decide, rfl⟩, ?_⟩
  rintro i h3 ⟨hi, rfl⟩
  refine xif_of (fun hlt => ?_) (fun hge => ?_)
  · have hlt : (i : Int) < 6 := of_decide_eq_true hlt
    obtain ⟨a, hA, c0⟩ := u8_at hr6 (i := i) (by omega)
    refine ⟨a, hA, by omega, hlt, _, c0, ?_⟩
    refine ⟨by decide, ?_⟩
    refine ⟨i + 1, ⟨?_, rfl, rfl, slot_inc (by omega), trivial⟩, ⟨by omega, rfl⟩, by show 6 - (i + 1) < 6 - i; omega⟩
    have eg : (bs.take 6).getD i 0 = bs.getD i 0 := by rw [List.getD_eq_getElem?_getD, List.getElem?_take, if_pos (by omega), List.getD_eq_getElem?_getD]
    rw [eg]
    refine congrArg (fun z => some (Value.int .u64 z)) ?_
    rw [take_getD (by omega), macF_snoc]
    obtain ⟨r1, r2⟩ := macF_range hb i
    have g := isB_get hb i
    have r3 : macF (bs.take i) < 1099511627776 := by
      have pw : (256 : Int) ^ i ≤ 1099511627776 := by
        rcases (show i = 0 ∨ i = 1 ∨ i = 2 ∨ i = 3 ∨ i = 4 ∨ i = 5 by omega) with rfl | rfl | rfl | rfl | rfl | rfl <;> decide
      omega
    obtain ⟨x, hx⟩ : ∃ x : Nat, macF (bs.take i) = x := ⟨_, (Int.toNat_of_nonneg r1).symm⟩
    obtain ⟨y, hy⟩ : ∃ y : Nat, bs.getD i 0 = y := ⟨_, (Int.toNat_of_nonneg g.1).symm⟩
    rw [hx] at r1 r3 ⊢
    rw [hy] at g ⊢
    have sh : x <<< 8 = x * 256 := by rw [Nat.shiftLeft_eq]
    have k1 : IntKind.u64.wrap ((x : Int) * 2 ^ min (Int.toNat 8) IntKind.u64.bits) = ((x <<< 8 : Nat) : Int) := by
      have e8 : min (Int.toNat 8) IntKind.u64.bits = 8 := by decide
      rw [e8, sh, show (x : Int) * 2 ^ 8 = ((x * 256 : Nat) : Int) by push_cast; rfl]
      exact wrap_u64 (by omega) (by omega)
    have k2 : IntKind.u64.wrap (y : Int) = (y : Int) := wrap_u64 (by omega) (by omega)
    refine (or_eq k1 k2 (by omega) (by omega)).trans ?_
    rw [← Nat.shiftLeft_add_eq_or_of_lt (show y < 2 ^ 8 by omega), sh]
    omega
  · have hge : ¬ (i : Int) < 6 := of_decide_eq_false hge
    obtain rfl : i = 6 := by omega
    exact ⟨rfl, rfl⟩
theorem fParseG_spec {A : Option Addr} {n c : Nat} {bs : List Int} (hr : Row encU8 1 h A bs) (hl : bs.length = n) (hn : n ≤ 100000) (hc : n ≤ c) (hb : IsB bs) :
    HCalls Tryz.prog 105 #[.slice A n c] h (fun v h' => ∃ d s t tc ty A' n' c', v = .tuple #[.agg (frmV d s t tc ty A' n' c').toArray, .int .i64 (parseL bs)] ∧ (parseL bs = 0 → d = macN bs ∧ s = macN (bs.drop 6) ∧ t = tagged bs ∧ tc = tciM bs) ∧ (parseL bs ≠ 0 → d = 0 ∧ s = 0 ∧ t = false ∧ tc = 0) ∧ Ext h h') := by
  refine xcalls env_fParseG Tryz.func105 rfl (by kernel_rfl) rfl (by kernel_rfl) ?_
  unfold parseL
  rw [hl]
  intro b h1 n1
  refine xif_of (fun q => ?_) (fun q => ?_)
  · have q : (n : Int) < 60 := of_decide_eq_true q
    refine ⟨rfl, rfl, canset_blk n1.this rfl, fun h2 s2 => ?_⟩
    have hb2 : h2[b]? = some (.cells (frmV 0 0 false 0 0 none 0 0).toArray 140 (0, 0)) := n1.fill rfl s2
    exact ⟨_, rfl, reads_all hb2, 0, 0, false, 0, 0, none, 0, 0, by rw [if_pos (by omega)]; rfl, by rw [if_pos (by omega)]; exact fun e => absurd e (by decide), fun _ => ⟨rfl, rfl, rfl, rfl⟩, n1.ext.stored s2 (n1.ge (Ext.refl _))⟩
  have q : ¬ (n : Int) < 60 := of_decide_eq_false q
  rw [if_neg (by omega)]
  refine (fBehind_spec (n1.ext.row hr) hl (by omega) hc hb).mono ?_
  rintro v h2 ⟨rfl, rfl⟩
  have bN : behindN bs = 16 ∨ behindN bs = 12 := by unfold behindN; split <;> simp
  have e1 : IntKind.i64.wrap ((behindN bs : Nat) + 2 : Int) = ((behindN bs + 2 : Nat) : Int) := by rw [wrap_i64 (by omega) (by omega)]; omega
  have e2 : IntKind.i64.wrap (IntKind.i64.wrap ((behindN bs : Nat) + 2 : Int) + 1500) = ((behindN bs + 1502 : Nat) : Int) := by rw [e1, wrap_i64 (by omega) (by omega)]; omega
  refine xif_of (fun q2 => ?_) (fun q2 => ?_)
  · have q2 : (n : Int) > IntKind.i64.wrap (IntKind.i64.wrap ((behindN bs : Nat) + 2 : Int) + 1500) := of_decide_eq_true q2
    rw [e2] at q2
    refine ⟨rfl, rfl, canset_blk n1.this rfl, fun h3 s3 => ?_⟩
    have hb3 : h3[b]? = some (.cells (frmV 0 0 false 0 0 none 0 0).toArray 140 (0, 0)) := n1.fill rfl s3
    exact ⟨_, rfl, reads_all hb3, 0, 0, false, 0, 0, none, 0, 0, by rw [if_pos (by omega)]; rfl, by rw [if_pos (by omega)]; exact fun e => absurd e (by decide), fun _ => ⟨rfl, rfl, rfl, rfl⟩, n1.ext.stored s3 (n1.ge (Ext.refl _))⟩
  have q2 : ¬ (n : Int) > IntKind.i64.wrap (IntKind.i64.wrap ((behindN bs : Nat) + 2 : Int) + 1500) := of_decide_eq_false q2
  rw [e2] at q2
  rw [if_neg (show ¬ behindN bs + 1502 < n by omega)]
  have hb2 : h2[b]? = some (.cells (frmV 0 0 false 0 0 none 0 0).toArray 140 (0, 0)) := n1.this
  have kt : (IntKind.i64.wrap (((behindN bs : Nat) : Int) + 2)).toNat = behindN bs + 2 := by rw [e1, Int.toNat_natCast]
  have r1 := fun (g : Heap) (x : Ext h2 g) => row_from ((n1.ext.trans x).row hr) ((behindN bs : Nat) : Int).toNat (q := (c : Int).toNat = ((behindN bs : Nat) : Int).toNat) (inst := inferInstance) (fun e => by omega)
  have r2 := fun (g : Heap) (x : Ext h2 g) => row_from ((n1.ext.trans x).row hr) (IntKind.i64.wrap (((behindN bs : Nat) : Int) + 2)).toNat (q := (c : Int).toNat = (IntKind.i64.wrap (((behindN bs : Nat) : Int) + 2)).toNat) (inst := inferInstance) (fun e => by omega)
  have hnone : ∀ k : Nat, n ≤ c → (if (c : Int).toNat = k then A else Option.map (fun a => a.add (k * 1)) A) = none → bs.drop k = [] := fun k _ e => by
    by_cases q : (c : Int).toNat = k
    · exact List.drop_eq_nil_of_le (by omega)
    · rw [if_neg q] at e
      cases A with
      | none => rw [row_none hr]; exact List.drop_nil
      | some a => cases e
  refine ⟨Nat × Option Addr × Nat, fun z => [(0, .slice A n c), (2, .pointer (some ⟨b, 0, none⟩)), (7, .pointer (some ⟨z.1, 0, none⟩))],
    fun z h' => h'[z.1]? = some (.cells (frmV 0 0 (tagged bs) (tciM bs) (two bs (behindN bs)) z.2.1 (n - (behindN bs + 2)) z.2.2).toArray 140 (0, 0)) ∧ h'[b]? = some (.cells (frmV 0 0 false 0 0 none 0 0).toArray 140 (0, 0)) ∧ Ext h h' ∧ b ≠ z.1 ∧ h.size ≤ z.1, ?_, ?_⟩
  · refine ⟨by decide, by omega, by omega, by omega, Int.le_refl _, by decide, by rw [e1]; omega, by rw [e1]; omega, by omega, Int.le_refl _, ?_, ?_⟩
    · refine (fTwo_spec (r1 _ (Ext.refl _)) (by rw [List.length_drop, hl]; rfl) (by have : ((behindN bs : Nat) : Int).toNat = behindN bs := Int.toNat_natCast _; omega) (fun y hy => hb y (List.mem_of_mem_drop hy))).mono ?_
      rintro v g3 ⟨rfl, rfl⟩
      refine ⟨?_, ?_⟩
      · refine (bClone_spec (r2 _ (Ext.refl _)) (hnone _ hc) (n := (n : Int).toNat - (IntKind.i64.wrap (((behindN bs : Nat) : Int) + 2)).toNat) (by rw [List.length_drop, hl]; rfl) (by rw [List.length_drop, hl]; omega)).mono ?_
        rintro v g4 ⟨A', c', rfl, oA, y4⟩
        have z4 := (Ext.refl _).trans y4
        intro fb g5 m
        have z5 := z4.trans m.ext
        have fbge := m.ge z4
        refine ⟨rfl, rfl, canset_blk (m.this) rfl, fun h5 s5 => ?_⟩
        have hfb : h5[fb]? = some (.cells (frmV 0 0 (tagged bs) (tciM bs) (two bs (behindN bs)) A' (n - (behindN bs + 2)) c').toArray 140 (0, 0)) := by
          have := s5.fill0 (m.this) rfl
          rw [two_drop, Int.toNat_natCast, Int.toNat_natCast, kt] at this
          exact this
        have lt := blk_lt hb2
        have ne : b ≠ fb := by omega
        exact ⟨(fb, A', c'), ⟨rfl, rfl, rfl, trivial⟩, hfb, s5.blk (z5.blk hb2) ne, (n1.ext.trans z5).stored s5 (Nat.le_trans n1.ext.size fbge), ne, Nat.le_trans n1.ext.size fbge⟩
      · intro fb g4 m
        have z4 := (Ext.refl _).trans m.ext
        have fbge := m.ge (Ext.refl _)
        refine (bClone_spec (r2 _ z4) (hnone _ hc) (n := (n : Int).toNat - (IntKind.i64.wrap (((behindN bs : Nat) : Int) + 2)).toNat) (by rw [List.length_drop, hl]; rfl) (by rw [List.length_drop, hl]; omega)).mono ?_
        rintro v g5 ⟨A', c', rfl, oA, y5⟩
        have z5 := z4.trans y5
        refine ⟨rfl, rfl, canset_blk (y5.blk m.this) rfl, fun h5 s5 => ?_⟩
        have hfb : h5[fb]? = some (.cells (frmV 0 0 (tagged bs) (tciM bs) (two bs (behindN bs)) A' (n - (behindN bs + 2)) c').toArray 140 (0, 0)) := by
          have := s5.fill0 (y5.blk m.this) rfl
          rw [two_drop, Int.toNat_natCast, Int.toNat_natCast, kt] at this
          exact this
        have lt := blk_lt hb2
        have ne : b ≠ fb := by omega
        exact ⟨(fb, A', c'), ⟨rfl, rfl, rfl, trivial⟩, hfb, s5.blk (z5.blk hb2) ne, (n1.ext.trans z5).stored s5 (Nat.le_trans n1.ext.size fbge), ne, Nat.le_trans n1.ext.size fbge⟩
    · intro fb g3 m
      have z3 := (Ext.refl _).trans m.ext
      have fbge := m.ge (Ext.refl _)
      refine (fTwo_spec (r1 _ z3) (by rw [List.length_drop, hl]; rfl) (by have : ((behindN bs : Nat) : Int).toNat = behindN bs := Int.toNat_natCast _; omega) (fun y hy => hb y (List.mem_of_mem_drop hy))).mono ?_
      rintro v g4 ⟨rfl, rfl⟩
      refine (bClone_spec (r2 _ z3) (hnone _ hc) (n := (n : Int).toNat - (IntKind.i64.wrap (((behindN bs : Nat) : Int) + 2)).toNat) (by rw [List.length_drop, hl]; rfl) (by rw [List.length_drop, hl]; omega)).mono ?_
      rintro v g5 ⟨A', c', rfl, oA, y5⟩
      have z5 := z3.trans y5
      refine ⟨rfl, rfl, canset_blk (y5.blk m.this) rfl, fun h5 s5 => ?_⟩
      have hfb : h5[fb]? = some (.cells (frmV 0 0 (tagged bs) (tciM bs) (two bs (behindN bs)) A' (n - (behindN bs + 2)) c').toArray 140 (0, 0)) := by
        have := s5.fill0 (y5.blk m.this) rfl
        rw [two_drop, Int.toNat_natCast, Int.toNat_natCast, kt] at this
        exact this
      have lt := blk_lt hb2
      have ne : b ≠ fb := by omega
      exact ⟨(fb, A', c'), ⟨rfl, rfl, rfl, trivial⟩, hfb, s5.blk (z5.blk hb2) ne, (n1.ext.trans z5).stored s5 (Nat.le_trans n1.ext.size fbge), ne, Nat.le_trans n1.ext.size fbge⟩
  rintro ⟨fb, A', c'⟩ h3 ⟨hfb, hbb, x3, ne, fge⟩
  simp only at hfb hbb ne fge
  have tr := two_range hb (behindN bs)
  refine ⟨_, cell_blk hfb rfl, _, cell_blk hfb rfl, ?_⟩
  refine (fForm_spec tr).mono ?_
  rintro v h4 ⟨rfl, rfl⟩
  have ef : (((n - (behindN bs + 2) : Nat)) : Int) = (n : Int) - (behindN bs + 2 : Nat) := by omega
  rw [ef]
  refine xif_of (fun q => ?_) (fun q => ?_)
  · have q : formM (two bs (behindN bs)) ((n : Int) - (behindN bs + 2 : Nat)) = false := by simpa using q
    refine ⟨rfl, rfl, canset_blk hbb rfl, fun h5 s5 => ?_⟩
    have hb5 := s5.fill0 hbb rfl
    exact ⟨_, rfl, reads_all hb5, 0, 0, false, 0, 0, none, 0, 0, by rw [q]; rfl, by rw [q]; exact fun e => absurd e (by decide), fun _ => ⟨rfl, rfl, rfl, rfl⟩, x3.stored s5 (n1.ge (Ext.refl _))⟩
  have q : formM (two bs (behindN bs)) ((n : Int) - (behindN bs + 2 : Nat)) = true := by simpa using q
  rw [q]
  refine (macOfG_spec (x3.row hr) hl (by omega) hc hb).mono ?_
  rintro v h5 ⟨rfl, rfl⟩
  generalize hm1 : macN bs = m1
  refine ⟨rfl, rfl, canset_blk hfb rfl, fun h6 s6 => ?_⟩
  have hfb6 : h6[fb]? = some (.cells (frmV m1 0 (tagged bs) (tciM bs) (two bs (behindN bs)) A' (n - (behindN bs + 2)) c').toArray 140 (0, 0)) := s6.put hfb
  have hbb6 := s6.blk hbb ne
  have x6 : Ext h h6 := x3.stored s6 fge
  have t6 : Int.toNat 6 = 6 := rfl
  refine ⟨by decide, by decide, by omega, by omega, Int.le_refl _, ?_⟩
  refine (macOfG_spec (n := (n : Int).toNat - Int.toNat 6) (row_from (x6.row hr) 6 (fun e => by omega)) (by rw [List.length_drop, hl]; rfl) (by omega) (by omega) (fun y hy => hb y (List.mem_of_mem_drop hy))).mono ?_
  rintro v h7 ⟨rfl, rfl⟩
  refine ⟨rfl, rfl, canset_blk hfb6 rfl, fun h8 s8 => ?_⟩
  have hfb8 : h8[fb]? = some (.cells (frmV m1 (macN (bs.drop 6)) (tagged bs) (tciM bs) (two bs (behindN bs)) A' (n - (behindN bs + 2)) c').toArray 140 (0, 0)) := s8.put hfb6
  have hbb8 := s8.blk hbb6 ne
  have x8 : Ext h h8 := x6.stored s8 fge
  refine ⟨_, rfl, reads_all hfb8, rfl, rfl, canset_blk hbb8 rfl, fun h9 s9 => ?_⟩
  have hbb9 := s9.fill0 hbb8 rfl
  exact ⟨_, rfl, reads_all hbb9, m1, macN (bs.drop 6), tagged bs, tciM bs, two bs (behindN bs), A', n - (behindN bs + 2), c', rfl, fun _ => ⟨rfl, rfl, rfl, rfl⟩, fun e => absurd rfl e, x8.stored s9 (n1.ge (Ext.refl _))⟩
/-- The number of a tag's VLAN. -/
theorem fVidG_spec {d s tc ty : Int} {t : Bool} {A : Option Addr} {n c : Nat} (h0 : 0 ≤ tc) (h1 : tc < 65536) : HCalls Tryz.prog 159 #[.agg (frmV d s t tc ty A n c).toArray] h (fun v h' => v = .int .i64 (tc % 4096) ∧ Ext h h') := by
  refine xcalls env0 Tryz.func159 rfl (by kernel_rfl) rfl (by kernel_rfl) ?_
  intro b h1 n1
  refine ⟨_, cell_blk n1.this rfl, congrArg (Value.int .i64) ?_, n1.ext⟩
  obtain ⟨x, rfl⟩ : ∃ x : Nat, tc = x := ⟨tc.toNat, by omega⟩
  have hb16 : IntKind.u16.bits = 16 := rfl
  rw [hb16, wrapU16, BitVec.toNat_and, BitVec.toNat_ofInt, BitVec.toNat_ofInt]
  have e1 : ((x : Int) % ((2 ^ 16 : Nat) : Int)).toNat = x := by
    have : ((2 ^ 16 : Nat) : Int) = 65536 := by decide
    rw [this]; omega
  have e2 : ((4095 : Int) % ((2 ^ 16 : Nat) : Int)).toNat = 2 ^ 12 - 1 := by decide
  rw [e1, e2, Nat.and_two_pow_sub_one_eq_mod]
  have e3 : (2 : Nat) ^ 12 = 4096 := by decide
  rw [e3, wrap_i64 (by omega) (by omega)]
  omega
def whyE (e : Int) : Int := if e = 2 then 1 else if e = 3 then 2 else if e = 4 then 3 else 0
theorem vWhyG_spec (e : Int) : HCalls Tryz.prog 158 #[.int .i64 e] h (fun v h' => v = .int .i64 (whyE e) ∧ h' = h) := by
  refine xcalls env0 Tryz.func158 rfl (by kernel_rfl) rfl (by kernel_rfl) ?_
  unfold whyE
  refine xif_of (fun g => ?_) (fun g => ?_)
  · exact ⟨by rw [if_pos (by simpa using g)]; rfl, rfl⟩
  have g : e ≠ 2 := by simpa using g
  rw [if_neg g]
  refine xif_of (fun g => ?_) (fun g => ?_)
  · exact ⟨by rw [if_pos (by simpa using g)]; rfl, rfl⟩
  have g : e ≠ 3 := by simpa using g
  rw [if_neg g]
  refine xif_of (fun g => ?_) (fun g => ?_)
  · exact ⟨by rw [if_pos (by simpa using g)]; rfl, rfl⟩
  have g : e ≠ 4 := by simpa using g
  rw [if_neg g]
  exact ⟨rfl, rfl⟩
/-- Of which VLAN a frame is, and why not. -/
def classM (bs : List Int) (r : Ru) : Int × Int :=
  if parseL bs ≠ 0 then (0, whyE (parseL bs))
  else if kindM (macN (bs.drop 6)) ≠ 0 then (0, 4)
  else if kindM (macN bs) = 3 then (0, 5)
  else if (r.acc = 1 ∧ tciM bs % 4096 = 0) ∨ (r.acc = 2 ∧ tciM bs % 4096 ≠ 0) then (0, 6)
  else if tciM bs % 4096 = 4095 then (0, 7)
  else if tciM bs % 4096 = 0 then (r.pvid, 0)
  else (tciM bs % 4096, 0)
theorem tciM_range {bs : List Int} (hb : IsB bs) : 0 ≤ tciM bs ∧ tciM bs < 65536 := by
  unfold tciM
  split
  · exact two_range hb 14
  · decide
theorem vClassG_spec {A : Option Addr} {n c : Nat} {bs : List Int} (hr : Row encU8 1 h A bs) (hl : bs.length = n) (hn : n ≤ 100000) (hc : n ≤ c) (hb : IsB bs) (r : Ru) : HCalls Tryz.prog 102 #[.slice A n c, .agg (encRu r).toArray] h (fun v h' => v = .tuple #[.int .i64 (classM bs r).1, .int .i64 (classM bs r).2] ∧ Ext h h') := by
  have hm6 : 0 ≤ macN (bs.drop 6) ∧ macN (bs.drop 6) < 281474976710656 := macN_range fun y hy => hb y (List.mem_of_mem_drop hy)
  have hm0 := macN_range hb
  have ht := tciM_range hb
  refine xcalls env0 Tryz.func102 rfl (by kernel_rfl) rfl (by kernel_rfl) ?_
  unfold classM
  intro rb h1 n1
  have hrb : h1[rb]? = some (.cells (encRu r).toArray _ (0, 0)) := n1.this
  refine (fParseG_spec (n1.ext.row hr) hl hn hc hb).mono ?_
  rintro v h2 ⟨d, s, t, tc, ty, A', n', c', rfl, hp, hp2, x2⟩
  intro fb h3 n3
  refine ⟨rfl, rfl, canset_blk n3.this rfl, fun h4 s4 => ?_⟩
  have hfb : h4[fb]? = some (.cells (frmV d s t tc ty A' n' c').toArray 140 (0, 0)) := s4.put n3.this
  have x12 := n1.ext.trans x2
  have x4 : Ext h h4 := (x12.trans n3.ext).stored s4 (n3.ge x12)
  have c4 : Chg [(fb, 140)] h3 h4 := s4.chg n3.this (.head _)
  have hrb4 := c4.blk (n3.ext.blk (x2.blk hrb)) (by simp)
  refine xif_of (fun g => ?_) (fun g => ?_)
  · have g : parseL bs ≠ 0 := by simpa using g
    refine (vWhyG_spec _).mono ?_
    rintro v h5 ⟨rfl, rfl⟩
    rw [if_pos g]
    exact ⟨rfl, x4⟩
  have g : parseL bs = 0 := by simpa using g
  obtain ⟨rfl, rfl, rfl, rfl⟩ := hp g
  rw [if_neg (by rw [g]; decide)]
  refine ⟨frmV (macN bs) (macN (bs.drop 6)) (tagged bs) (tciM bs) ty A' n' c', rfl, reads_all hfb, ?_⟩
  refine (fVidG_spec ht.1 ht.2).mono ?_
  rintro v h5 ⟨rfl, x5⟩
  have hfb5 := x5.blk hfb
  have hrb5 := x5.blk hrb4
  repeat (first | refine ⟨_, cell_blk (hfb5) rfl, ?_⟩)
  refine (macKind_spec hm6.1 (by omega) _).mono ?_
  rintro v h6 ⟨rfl, rfl⟩
  refine xif_of (fun g => ?_) (fun g => ?_)
  · have g : kindM (macN (bs.drop 6)) ≠ 0 := by simpa [kindM] using g
    rw [if_pos g]
    exact ⟨rfl, x4.trans x5⟩
  have g : ¬ kindM (macN (bs.drop 6)) ≠ 0 := by simpa [kindM] using g
  rw [if_neg g]
  repeat (first | refine ⟨_, cell_blk (hfb5) rfl, ?_⟩)
  refine (macKind_spec hm0.1 (by omega) _).mono ?_
  rintro v h6 ⟨rfl, rfl⟩
  refine xif_of (fun g => ?_) (fun g => ?_)
  · have g : kindM (macN bs) = 3 := by simpa [kindM] using g
    rw [if_pos g]
    exact ⟨rfl, x4.trans x5⟩
  have g : ¬ kindM (macN bs) = 3 := by simpa [kindM] using g
  rw [if_neg g]
  repeat (first | refine ⟨_, cell_blk (hrb5) rfl, ?_⟩)
  refine xif_of (fun ga => ?_) (fun ga => ?_)
  · have ga : r.acc = 1 := by simpa using ga
    refine xif_of (fun g => ?_) (fun g => ?_)
    · have g : tciM bs % 4096 = 0 := by simpa using g
      rw [if_pos (.inl ⟨ga, g⟩)]
      refine xif_true (beq_iff_eq.2 g) ?_
      exact ⟨rfl, x4.trans x5⟩
    have g : ¬ tciM bs % 4096 = 0 := by simpa using g
    repeat (first | refine ⟨_, cell_blk (hrb5) rfl, ?_⟩)
    refine xif_false (by rw [ga]; rfl) ?_
    rw [if_neg (by omega)]
    refine xif_of (fun g => ?_) (fun g => ?_)
    · have g : tciM bs % 4096 = 4095 := by simpa using g
      rw [if_pos g]
      exact ⟨rfl, x4.trans x5⟩
    have g : ¬ tciM bs % 4096 = 4095 := by simpa using g
    rw [if_neg g]
    refine xif_of (fun g => ?_) (fun g => ?_)
    · have g : tciM bs % 4096 = 0 := by simpa using g
      rw [if_pos g]
      repeat (first | refine ⟨_, cell_blk (hrb5) rfl, ?_⟩)
      exact ⟨rfl, x4.trans x5⟩
    have g : ¬ tciM bs % 4096 = 0 := by simpa using g
    rw [if_neg g]
    exact ⟨rfl, x4.trans x5⟩
  have ga : ¬ r.acc = 1 := by simpa using ga
  repeat (first | refine ⟨_, cell_blk (hrb5) rfl, ?_⟩)
  refine xif_of (fun gb => ?_) (fun gb => ?_)
  · have gb : r.acc = 2 := by simpa using gb
    refine xif_of (fun g => ?_) (fun g => ?_)
    · have g : tciM bs % 4096 ≠ 0 := by simpa using g
      rw [if_pos (.inr ⟨gb, g⟩)]
      exact ⟨rfl, x4.trans x5⟩
    have g : tciM bs % 4096 = 0 := by simpa using g
    rw [if_neg (by omega)]
    refine xif_of (fun g => ?_) (fun g => ?_)
    · have g : tciM bs % 4096 = 4095 := by simpa using g
      rw [if_pos g]
      exact ⟨rfl, x4.trans x5⟩
    have g : ¬ tciM bs % 4096 = 4095 := by simpa using g
    rw [if_neg g]
    refine xif_of (fun g => ?_) (fun g => ?_)
    · have g : tciM bs % 4096 = 0 := by simpa using g
      rw [if_pos g]
      repeat (first | refine ⟨_, cell_blk (hrb5) rfl, ?_⟩)
      exact ⟨rfl, x4.trans x5⟩
    have g : ¬ tciM bs % 4096 = 0 := by simpa using g
    rw [if_neg g]
    exact ⟨rfl, x4.trans x5⟩
  have gb : ¬ r.acc = 2 := by simpa using gb
  rw [if_neg (by omega)]
  refine xif_of (fun g => ?_) (fun g => ?_)
  · have g : tciM bs % 4096 = 4095 := by simpa using g
    rw [if_pos g]
    exact ⟨rfl, x4.trans x5⟩
  have g : ¬ tciM bs % 4096 = 4095 := by simpa using g
  rw [if_neg g]
  refine xif_of (fun g => ?_) (fun g => ?_)
  · have g : tciM bs % 4096 = 0 := by simpa using g
    rw [if_pos g]
    repeat (first | refine ⟨_, cell_blk (hrb5) rfl, ?_⟩)
    exact ⟨rfl, x4.trans x5⟩
  have g : ¬ tciM bs % 4096 = 0 := by simpa using g
  rw [if_neg g]
  exact ⟨rfl, x4.trans x5⟩
end
end Go.Proofs.YtjjempefncgfhaaGreatDoorE
