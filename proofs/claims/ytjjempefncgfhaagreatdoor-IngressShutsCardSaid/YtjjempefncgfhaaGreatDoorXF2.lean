/- A switch's memory: how a fabric lies in memory; what it answers of its parts. Conditions: the plan may be. -/
import Derived.Test.YtjjempefncgfhaaGreatDoorXF0
import Derived.Test.YtjjempefncgfhaaGreatDoorXN8
import Derived.Test.YtjjempefncgfhaaGreatDoorXM12
set_option linter.unusedVariables false
set_option linter.unusedSimpArgs false
set_option maxRecDepth 100000
namespace Go.Proofs.YtjjempefncgfhaaGreatDoorE
open Go Go.Proofs
def env_cCopied : Nat → Ann
  | 1 => ⟨.op 0 [] <| .op 1 [] <| .op 3 [] <| .op 4 [] <| .op 2 [4] <| .op 6 [] <| .op 5 [] <| .op 7 [] <| .op 8 [] <| .op 9 [] <| .nil, [0, 1, 3, 0, 8, 31, 31, 127, 255, 511], false⟩
  | _ => ⟨.nil, [], false⟩
/-- What changes: blocks from B on, of some types. -/
structure ChgT (B : Nat) (TY : List TypeId) (h h' : Heap) : Prop where
  size : h.size ≤ h'.size
  low : ∀ k : Nat, k < B → h'[k]? = h[k]?
  typ : ∀ (k : Nat) (cs : Array Value) (T : TypeId) (f : Nat × Nat), h[k]? = some (.cells cs T f) → T ∉ TY → h'[k]? = some (.cells cs T f)
section
variable {B : Nat} {TY : List TypeId} {h h' h'' h0 : Heap}
theorem ChgT.refl (h : Heap) : ChgT B TY h h := ⟨Nat.le_refl _, fun _ _ => rfl, fun _ _ _ _ H _ => H⟩
theorem ChgT.trans (x : ChgT B TY h h') (y : ChgT B TY h' h'') : ChgT B TY h h'' := ⟨Nat.le_trans x.size y.size, fun k hk => (y.low k hk).trans (x.low k hk), fun k cs T f H n => y.typ k cs T f (x.typ k cs T f H n) n⟩
theorem Chg.chgT {l : List (Nat × TypeId)} (x : Chg l h h') (hB : B ≤ h.size) (hl : ∀ p ∈ l, B ≤ p.1 ∧ p.2 ∈ TY) : ChgT B TY h h' :=
  ⟨x.size, fun k hk => x.old k (Nat.lt_of_lt_of_le hk hB) fun p hp e => by have := (hl p hp).1; omega, fun k cs T f H n => x.oldT k cs T f H fun m => n (hl _ m).2⟩
theorem Ext.chgT (x : Ext h h') (hB : B ≤ h.size) : ChgT B TY h h' := ⟨x.size, fun k hk => x.old k (Nat.lt_of_lt_of_le hk hB), fun k cs T f H _ => x.blk H⟩
theorem ChgT.ext (x : ChgT h0.size TY h h') (e : Ext h0 h) : Ext h0 h' := ⟨Nat.le_trans e.size x.size, fun k hk => (x.low k hk).trans (e.old k hk)⟩
theorem ChgT.mono {TY' : List TypeId} (x : ChgT B TY h h') (hl : ∀ T ∈ TY, T ∈ TY') : ChgT B TY' h h' := ⟨x.size, x.low, fun k cs T f H n => x.typ k cs T f H fun m => n (hl _ m)⟩
theorem OwnA.chgT {α : Type} {enc : α → List Value} {sz : Nat} {T : TypeId} {base : Nat} {A : Option Addr} {c : Nat} {xs : List α} (o : OwnA enc sz T base h A c xs) (x : ChgT B TY h h') (hn : T ∉ TY) : OwnA enc sz T base h' A c xs := by
  rcases o with ⟨a, b, d⟩ | ⟨b, rest, rfl, hg, hb, hr, hc⟩
  · exact .inl ⟨a, b, d⟩
  · exact .inr ⟨b, rest, rfl, hg, x.typ _ _ _ _ hb hn, hr, hc⟩
end
def encPtr (b : Nat) : List Value := [.pointer (some ⟨b, 0, none⟩)]
theorem encPtr_len (b : Nat) : (encPtr b).length = 1 := rfl
theorem encPtr_one (b : Nat) : (encPtr b).all Value.oneCell' = true := rfl
/-- A fabric: its blocks, its plan, its rings' blocks. -/
structure Fb where
  fb : Nat
  mb : Nat
  cb : Nat
  lb : Nat
  db : Nat
  rb : Nat → Nat → Nat
  P : Nat
  S : Nat
  b0 : Nat
  A : Option Addr
  ac : Nat
  rules : List Ru
  C : Option Addr
  cc : Nat
  vls : List Vl
  s : Sz
  tries : Int
  normal : Int
  short : Int
  prot : List (Nat × Array Value)
def Fb.pv (F : Fb) : List Value := planV F.P (.slice F.A F.rules.length F.ac) (.slice F.C F.vls.length F.cc) F.s F.tries F.S F.normal F.short
/-- Its rows of rings. -/
def RowsAt (h : Heap) (P : Nat) (rb : Nat → Nat → Nat) (A : Option Addr) (c : Nat) (n : Nat) : Prop :=
  ∃ rows : List Sl, OwnA encSl 1 179 0 h A c rows ∧ rows.length = n ∧ ∀ i row, rows[i]? = some row → row.n = P ∧ OwnA encPtr 1 180 0 h row.a row.c ((List.range P).map (rb i))
structure FabAt (h : Heap) (F : Fb) : Prop where
  blk : ∃ RA rc, h[F.fb]? = some (.cells (F.pv ++ [Value.pointer (some ⟨F.mb, 0, none⟩), Value.pointer (some ⟨F.db, 0, none⟩), Value.slice RA F.P rc]).toArray 176 (0, 0)) ∧ RowsAt h F.P F.rb RA rc F.P
  rules : OwnA encRu 2 221 0 h F.A F.ac F.rules
  vls : OwnA encVl 3 165 0 h F.C F.cc F.vls
  p1 : 2 ≤ F.P
  p2 : F.P ≤ 64
  s1 : 1 ≤ F.S
  s2 : F.S ≤ 64
  r1 : F.rules.length ≤ 1000
  v1 : F.vls.length ≤ 1000
theorem RowsAt.chgT {B : Nat} {TY : List TypeId} {h h' : Heap} {P : Nat} {rb : Nat → Nat → Nat} {A : Option Addr} {c n : Nat} (H : RowsAt h P rb A c n) (x : ChgT B TY h h') (n1 : 179 ∉ TY) (n2 : 180 ∉ TY) : RowsAt h' P rb A c n := by
  obtain ⟨rows, o, hl, hr⟩ := H
  exact ⟨rows, o.chgT x n1, hl, fun i row e => ⟨(hr i row e).1, (hr i row e).2.chgT x n2⟩⟩
theorem FabAt.chgT {B : Nat} {TY : List TypeId} {h h' : Heap} {F : Fb} (H : FabAt h F) (x : ChgT B TY h h') (n0 : 176 ∉ TY) (n1 : 179 ∉ TY) (n2 : 180 ∉ TY) (n3 : 221 ∉ TY) (n4 : 165 ∉ TY) : FabAt h' F := by
  obtain ⟨RA, rc, hb, hr⟩ := H.blk
  exact ⟨⟨RA, rc, x.typ _ _ _ _ hb n0, hr.chgT x n1 n2⟩, H.rules.chgT x n3, H.vls.chgT x n4, H.p1, H.p2, H.s1, H.s2, H.r1, H.v1⟩
theorem FabAt.ext {h h' : Heap} {F : Fb} (H : FabAt h F) (x : Ext h h') : FabAt h' F := H.chgT (TY := []) (x.chgT (B := 0) (Nat.zero_le _)) (by simp) (by simp) (by simp) (by simp) (by simp)
section
variable {h : Heap} {F : Fb} {M : MemS}
theorem cMem_spec (H : FabAt h F) : HCalls Tryz.prog 32 #[.pointer (some ⟨F.fb, 0, none⟩)] h (fun v h' => v = .pointer (some ⟨F.mb, 0, none⟩) ∧ h' = h) := by
  obtain ⟨RA, rc, hb, hr⟩ := H.blk
  refine xcalls env0 Tryz.func32 rfl (by kernel_rfl) rfl (by kernel_rfl) ?_
  repeat (first | refine ⟨_, cell_blk (hb) rfl, ?_⟩)
  exact ⟨rfl, rfl⟩
theorem cFdb_spec (H : FabAt h F) : HCalls Tryz.prog 43 #[.pointer (some ⟨F.fb, 0, none⟩)] h (fun v h' => v = .pointer (some ⟨F.db, 0, none⟩) ∧ h' = h) := by
  obtain ⟨RA, rc, hb, hr⟩ := H.blk
  refine xcalls env0 Tryz.func43 rfl (by kernel_rfl) rfl (by kernel_rfl) ?_
  repeat (first | refine ⟨_, cell_blk (hb) rfl, ?_⟩)
  exact ⟨rfl, rfl⟩
theorem cHas_spec (H : FabAt h F) (p : Int) : HCalls Tryz.prog 79 #[.pointer (some ⟨F.fb, 0, none⟩), .int .i64 p] h (fun v h' => v = .bool (decide (0 ≤ p) && decide (p < F.P)) ∧ h' = h) := by
  obtain ⟨RA, rc, hb, hr⟩ := H.blk
  refine xcalls env0 Tryz.func79 rfl (by kernel_rfl) rfl (by kernel_rfl) ?_
  refine xif_of (fun q => ?_) (fun q => ?_)
  · have q : p ≥ 0 := of_decide_eq_true q
    repeat (first | refine ⟨_, cell_blk (hb) rfl, ?_⟩)
    refine ⟨congrArg Value.bool ?_, rfl⟩
    rw [decide_eq_true (show 0 ≤ p from q), Bool.true_and]
  · have q : ¬ p ≥ 0 := of_decide_eq_false q
    refine ⟨congrArg Value.bool ?_, rfl⟩
    rw [decide_eq_false (show ¬ 0 ≤ p from q), Bool.false_and]
theorem has_yes {p n : Nat} (hp : p < n) : (decide (0 ≤ (p : Int)) && decide ((p : Int) < n)) = true := by
  rw [decide_eq_true (by omega), decide_eq_true (by omega)]; rfl
theorem has_yes' {p n : Nat} (hp : p < n) : (!(decide (0 ≤ (p : Int)) && decide ((p : Int) < n))) = false := by rw [has_yes hp]; rfl
theorem cRing_spec (H : FabAt h F) {a b : Nat} (ha : a < F.P) (hb : b < F.P) : HCalls Tryz.prog 266 #[.pointer (some ⟨F.fb, 0, none⟩), .int .i64 a, .int .i64 b] h (fun v h' => v = .pointer (some ⟨F.rb a b, 0, none⟩) ∧ h' = h) := by
  obtain ⟨RA, rc, hb', hr⟩ := H.blk
  refine xcalls env0 Tryz.func266 rfl (by kernel_rfl) rfl (by kernel_rfl) ?_
  refine (cHas_spec H a).mono ?_
  rintro v h1 ⟨rfl, rfl⟩
  refine xif_false (has_yes' ha) ?_
  refine (cHas_spec H b).mono ?_
  rintro v h1 ⟨rfl, rfl⟩
  refine xif_false (has_yes' hb) ?_
  obtain ⟨rows, o, hl, hr⟩ := hr
  obtain ⟨row, hrow⟩ : ∃ row, rows[a]? = some row := ⟨rows[a]'(by omega), List.getElem?_eq_getElem (by omega)⟩
  obtain ⟨A, hA, hrd⟩ := o.row encSl_len a row hrow
  obtain ⟨rn, ro⟩ := hr a row hrow
  obtain ⟨A2, hA2, hrd2⟩ := ro.row encPtr_len b (F.rb a b) (by rw [List.getElem?_map, List.getElem?_range hb]; rfl)
  repeat (first | refine ⟨_, cell_blk (hb') rfl, ?_⟩)
  refine ⟨A, hA, Int.natCast_nonneg a, Int.ofNat_lt.2 ha, _, hrd.cons, ?_⟩
  refine ⟨A2, hA2, Int.natCast_nonneg b, (by rw [rn]; exact Int.ofNat_lt.2 hb), _, hrd2.cons, ?_⟩
  exact ⟨rfl, rfl⟩
theorem pOf_zero : HCalls Tryz.prog 63 #[.int .u64 0] h (fun v h' => v = .tuple #[.agg #[.int .i64 0, .int .u32 0], .bool true] ∧ Ext h h') := by
  refine xcalls env0 Tryz.func63 rfl (by kernel_rfl) rfl (by kernel_rfl) ?_
  intro b0 h1 n1
  refine ⟨by decide, ?_⟩
  intro b1 h2 n2
  refine ⟨rfl, rfl, canset_blk n2.this rfl, fun h3 s3 => ?_⟩
  have x02 : Ext h h2 := n1.ext.trans n2.ext
  have e : h3 = h2 := by
    refine s3.same n2.this ?_
    show lset [Value.int .i64 0, Value.int .u32 0] 0 [Value.int .i64 (IntKind.i64.wrap (IntKind.u64.wrap ((BitVec.ofInt 64 0 &&& BitVec.ofInt 64 255).toNat : Int))), Value.int .u32 (IntKind.u32.wrap (Int.fdiv 0 (2 ^ min (Int.toNat 8) 64)))] = [Value.int .i64 0, Value.int .u32 0]
    kernel_rfl
  subst e
  refine ⟨by decide, _, cell_blk n2.this rfl, ?_⟩
  refine (pRight_spec 0).mono ?_
  rintro v h4 ⟨rfl, rfl⟩
  refine ⟨[.int .i64 0, .int .u32 0], rfl, reads_all n2.this, rfl, rfl, canset_blk (n2.ext.blk n1.this) rfl, fun h5 s5 => ?_⟩
  have hb0 : h5[b0]? = some (.cells [Value.int .i64 0, Value.int .u32 0].toArray _ (0, 0)) := s5.put (n2.ext.blk n1.this)
  exact ⟨[.int .i64 0, .int .u32 0], rfl, reads_all hb0, rfl, x02.stored s5 (n1.ge (Ext.refl _))⟩
theorem cStand_spec (H : FabAt h F) (HM : MemAt h F.mb F.cb F.lb M) {p : Nat} (hp : p < F.P) (hx : M.cells[p]? = some 0) (ht : M.t < 1000000) : HCalls Tryz.prog 188 #[.pointer (some ⟨F.fb, 0, none⟩), .int .i64 p] h (fun v h' => v = .agg #[.int .i64 0, .int .u32 0] ∧ MemAt h' F.mb F.cb F.lb { M with t := M.t + 1 } ∧ Chg [(F.mb, 205)] h h') := by
  obtain ⟨RA, rc, hb', hr⟩ := H.blk
  refine xcalls env0 Tryz.func188 rfl (by kernel_rfl) rfl (by kernel_rfl) ?_
  intro b0 h1 n1
  have ob : h1[F.fb]? = _ := n1.ext.blk hb'
  refine (cHas_spec (H.ext n1.ext) p).mono ?_
  rintro v h2 ⟨rfl, rfl⟩
  refine xif_false (has_yes' hp) ?_
  repeat (first | refine ⟨_, cell_blk (ob) rfl, ?_⟩)
  refine (mLoad_spec (HM.ext n1.ext) hx ht).mono ?_
  rintro v h3 ⟨rfl, M3, c3⟩
  refine pOf_zero.mono ?_
  rintro v h4 ⟨rfl, x4⟩
  intro b1 h5 n5
  refine ⟨rfl, rfl, canset_blk n5.this rfl, fun h6 s6 => ?_⟩
  have hb6 : h6[b1]? = some (.cells [Value.int .i64 0, Value.int .u32 0].toArray _ (0, 0)) := s6.put n5.this
  have x46 : Ext h4 h6 := n5.ext.stored s6 (n5.ge (Ext.refl _))
  have hb0 : h6[b0]? = some (.cells [Value.int .i64 0, Value.int .u32 0].toArray _ (0, 0)) := x46.blk (x4.blk (c3.blk n1.this (by simp)))
  refine ⟨[.int .i64 0, .int .u32 0], rfl, reads_all hb6, rfl, rfl, canset_blk hb0 rfl, fun h7 s7 => ?_⟩
  have e7 : h7 = h6 := s7.same hb0 rfl
  subst e7
  exact ⟨[.int .i64 0, .int .u32 0], rfl, reads_all hb0, rfl, (M3.ext x4).ext x46, (n1.ext.chg _).trans (c3.trans ((x4.trans x46).chg _))⟩
theorem cTake_spec (H : FabAt h F) (HM : MemAt h F.mb F.cb F.lb M) {p : Nat} {who : Int} (hp : p < F.P) (hx : M.locks[p]? = some (-1)) (hw : 0 ≤ who) (ht : M.t < 1000000) : HCalls Tryz.prog 134 #[.pointer (some ⟨F.fb, 0, none⟩), .int .i64 p, .int .i64 who] h (fun v h' => v = .bool true ∧ MemAt h' F.mb F.cb F.lb { M with locks := M.locks.set p who, t := M.t + 1 } ∧ Chg (ML F.mb F.cb F.lb) h h') := by
  obtain ⟨RA, rc, hb', hr⟩ := H.blk
  refine xcalls env0 Tryz.func134 rfl (by kernel_rfl) rfl (by kernel_rfl) ?_
  refine (cHas_spec H p).mono ?_
  rintro v h1 ⟨rfl, rfl⟩
  refine xif_true (has_yes hp) ?_
  repeat (first | refine ⟨_, cell_blk (hb') rfl, ?_⟩)
  refine (mTake_spec HM hx hw ht).mono ?_
  rintro v h1 ⟨rfl, r⟩
  exact ⟨rfl, r⟩
theorem cFree_spec (H : FabAt h F) (HM : MemAt h F.mb F.cb F.lb M) {p : Nat} {who : Int} (hp : p < F.P) (hx : M.locks[p]? = some who) (hw : 0 ≤ who) (ht : M.t < 1000000) : HCalls Tryz.prog 253 #[.pointer (some ⟨F.fb, 0, none⟩), .int .i64 p, .int .i64 who] h (fun v h' => v = .bool true ∧ MemAt h' F.mb F.cb F.lb { M with locks := M.locks.set p (-1), t := M.t + 1 } ∧ Chg (ML F.mb F.cb F.lb) h h') := by
  obtain ⟨RA, rc, hb', hr⟩ := H.blk
  refine xcalls env0 Tryz.func253 rfl (by kernel_rfl) rfl (by kernel_rfl) ?_
  refine (cHas_spec H p).mono ?_
  rintro v h1 ⟨rfl, rfl⟩
  refine xif_true (has_yes hp) ?_
  repeat (first | refine ⟨_, cell_blk (hb') rfl, ?_⟩)
  refine (mFree_spec HM hx hw ht).mono ?_
  rintro v h1 ⟨rfl, r⟩
  exact ⟨rfl, r⟩
theorem cCopied_spec {base base' : Nat} {A B : Option Addr} {na ca nb cb : Nat} {rules : List Ru} {vls : List Vl} {ports tries ring normal short : Int} {s : Sz} (hra : OwnA encRu 2 221 base h A ca rules) (hla : rules.length = na) (hrb : OwnA encVl 3 165 base' h B cb vls) (hlb : vls.length = nb) (hn : na ≤ 1000) (hn2 : nb ≤ 1000) :
    HCalls Tryz.prog 92 #[.agg (planV ports (.slice A na ca) (.slice B nb cb) s tries ring normal short).toArray] h (fun v h' => ∃ A' c' B' d', v = .agg (planV ports (.slice A' na c') (.slice B' nb d') s tries ring normal short).toArray ∧ OwnA encRu 2 221 h.size h' A' c' rules ∧ OwnA encVl 3 165 h.size h' B' d' vls ∧ Ext h h') := by
  refine xcalls env_cCopied Tryz.func92 rfl (by kernel_rfl) rfl (by kernel_rfl) ?_
  intro ib h1 n1 rb h2 n2
  have hib : h2[ib]? = some (.cells (planV ports (.slice A na ca) (.slice B nb cb) s tries ring normal short).toArray 128 (0, 0)) := n2.ext.blk n1.this
  have x2 := n1.ext.trans n2.ext
  repeat (first | refine ⟨_, cell_blk (hib) rfl, ?_⟩)
  refine (ruClone_spec (hra.ext x2) hla (by omega)).mono ?_
  rintro v h3 ⟨A', c', rfl, o3, x3⟩
  have hib3 := x3.blk hib
  try (refine ⟨by ((repeat (first | refine ⟨cell_blk (hib3) rfl, ?_⟩)); exact trivial), ?_⟩)
  repeat (first | refine ⟨_, cell_blk (hib3) rfl, ?_⟩)
  refine (vlClone_spec (hrb.ext (x2.trans x3)) hlb (by omega)).mono ?_
  rintro v h4 ⟨B', d', rfl, o4, x4⟩
  have hib4 := x4.blk hib3
  have ig : h.size ≤ ib := n1.ge (Ext.refl _)
  refine ⟨rfl, rfl, canset_blk hib4 rfl, fun h5 s5 => ?_⟩
  have hib5 : h5[ib]? = some (.cells (planV ports (.slice A' na c') (.slice B nb cb) s tries ring normal short).toArray 128 (0, 0)) := s5.put hib4
  try (refine ⟨by ((repeat (first | refine ⟨cell_blk (hib5) rfl, ?_⟩)); exact trivial), ?_⟩)
  refine ⟨rfl, rfl, canset_blk hib5 rfl, fun h6 s6 => ?_⟩
  have hib6 : h6[ib]? = some (.cells (planV ports (.slice A' na c') (.slice B' nb d') s tries ring normal short).toArray 128 (0, 0)) := s6.put hib5
  refine ⟨_, rfl, reads_all hib6, ?_⟩
  have nrb : rb ≠ ib := by have := n2.at_; have := blk_lt n1.this; omega
  have hrb6 := s5.blk ((x3.trans x4).blk n2.this) nrb
  have hrb6' := s6.blk hrb6 nrb
  refine ⟨rfl, rfl, canset_blk hrb6' rfl, fun h7 s7 => ?_⟩
  have hrb7 : h7[rb]? = some (.cells (planV ports (.slice A' na c') (.slice B' nb d') s tries ring normal short).toArray 128 (0, 0)) := s7.put hrb6'
  have x5 : Ext h h5 := (x2.trans (x3.trans x4)).stored s5 ig
  have x6 : Ext h h6 := x5.stored s6 ig
  have x7 : Ext h h7 := x6.stored s7 (n2.ge n1.ext)
  have c47 : Chg [(ib, 128), (rb, 128)] h4 h7 := ((s5.chg hib4 (.head _)).trans (s6.chg hib5 (.head _))).trans (s7.chg hrb6' (.tail _ (.head _)))
  have g2 : h.size ≤ h2.size := x2.size
  have g3 : h.size ≤ h3.size := Nat.le_trans g2 x3.size
  exact ⟨_, rfl, reads_all hrb7, A', c', B', d', rfl, ((o3.ext x4).chg c47 (by simp)).mono g2, (o4.chg c47 (by simp)).mono g3, x7⟩
theorem cPlan_spec (H : FabAt h F) : HCalls Tryz.prog 48 #[.pointer (some ⟨F.fb, 0, none⟩)] h (fun v h' => ∃ A' c' B' d', v = .agg (planV F.P (.slice A' F.rules.length c') (.slice B' F.vls.length d') F.s F.tries F.S F.normal F.short).toArray ∧ OwnA encRu 2 221 h.size h' A' c' F.rules ∧ OwnA encVl 3 165 h.size h' B' d' F.vls ∧ Ext h h') := by
  obtain ⟨RA, rc, hb', hr⟩ := H.blk
  refine xcalls env0 Tryz.func48 rfl (by kernel_rfl) rfl (by kernel_rfl) ?_
  intro rb h1 n1
  refine ⟨F.pv, rfl, reads_at (n1.ext.blk hb') rfl, ?_⟩
  refine (cCopied_spec (H.ext n1.ext).rules rfl (H.ext n1.ext).vls rfl H.r1 H.v1).mono ?_
  rintro v h2 ⟨A', c', B', d', rfl, o1, o2, x2⟩
  have hb2 := x2.blk n1.this
  refine ⟨rfl, rfl, canset_blk hb2 rfl, fun h3 s3 => ?_⟩
  have hb3 : h3[rb]? = some (.cells (planV F.P (.slice A' F.rules.length c') (.slice B' F.vls.length d') F.s F.tries F.S F.normal F.short).toArray 128 (0, 0)) := s3.put hb2
  have c23 : Chg [(rb, 128)] h2 h3 := s3.chg hb2 (.head _)
  exact ⟨_, rfl, reads_all hb3, A', c', B', d', rfl, (o1.chg c23 (by simp)).mono n1.ext.size, (o2.chg c23 (by simp)).mono n1.ext.size, (n1.ext.trans x2).stored s3 (n1.ge (Ext.refl _))⟩
end
end Go.Proofs.YtjjempefncgfhaaGreatDoorE
/- A fabric is made: what stands in its memory, its rings. Conditions: the plan may be. -/
set_option linter.unusedVariables false
set_option linter.unusedSimpArgs false
set_option maxRecDepth 100000
namespace Go.Proofs.YtjjempefncgfhaaGreatDoorE
open Go Go.Proofs
section
variable {h : Heap} {mb cb lb : Nat} {M : MemS}
theorem rNew_spec (H : MemAt h mb cb lb M) {base size : Nat} (s1 : 1 ≤ size) (s2 : size ≤ 64) (hf : base + (size + 2) ≤ M.cells.length) (h4 : M.cells.length < 100000000) (ht : M.t < 900000) : HCalls Tryz.prog 157 #[.pointer (some ⟨mb, 0, none⟩), .int .i64 base, .int .i64 size, .int .u64 0] h (fun v h' => ∃ rb, v = .tuple #[.pointer (some ⟨rb, 0, none⟩), .int .i64 0] ∧ h.size ≤ rb ∧ RingAt h' rb mb ⟨base, size, 0, 0, false, 0, 0, false⟩ ∧ MemAt h' mb cb lb { M with cells := (M.cells.set base 0).set (base + 1) 0, t := M.t + 1 + 1 } ∧ Chg (ML mb cb lb) h h') := by
  refine xcalls env0 Tryz.func157 rfl (by kernel_rfl) rfl (by kernel_rfl) ?_
  refine (rCells_spec s1 s2).mono ?_
  rintro v h1 ⟨rfl, rfl⟩
  refine (mCells_spec H).mono ?_
  rintro v h1 ⟨rfl, rfl⟩
  refine xif_false (decide_eq_false ?_) ?_
  · show ¬ (base : Int) > M.cells.length
    omega
  refine (mCells_spec H).mono ?_
  rintro v h1 ⟨rfl, rfl⟩
  refine xif_false (decide_eq_false ?_) ?_
  · show ¬ ((size + 2 : Nat) : Int) > IntKind.i64.wrap ((M.cells.length : Int) - base)
    rw [wrap_i64 (by omega) (by omega)]
    omega
  refine (mStore_at H (i := base) (x := 0) (wrap_add0 base (by omega)) rfl (by omega) (by omega)).mono ?_
  rintro v h2 ⟨rfl, M2, c2⟩
  refine (mStore_at M2 (i := base + 1) (x := 0) (wrap_add1 base (by omega)) rfl ?_ ?_).mono ?_
  · show base + 1 < (M.cells.set base 0).length
    rw [List.length_set]
    omega
  · show M.t + 1 < 1000000
    omega
  rintro v h3 ⟨rfl, M3, c3⟩
  intro rb h4 n4
  have g1 := c2.size
  have g2 := c3.size
  exact ⟨rb, rfl, by rw [n4.at_]; omega, n4.this, M3.ext n4.ext, (c2.trans c3).trans (n4.ext.chg _)⟩
theorem mul_bd {a b m n : Int} (h0 : 0 ≤ a) (h1 : a ≤ m) (h2 : 0 ≤ b) (h3 : b ≤ n) : 0 ≤ a * b ∧ a * b ≤ m * n := ⟨Int.mul_nonneg h0 h2, Int.mul_le_mul h1 h3 h2 (by omega)⟩
theorem Sz.Ok.right {s : Sz} (o : s.Ok) : rightM s = true := by
  obtain ⟨a, b, c, d, e, f⟩ := o
  unfold rightM
  simp
  omega
def szCells (s : Sz) : Int := s.sh * s.bk * (1 + 2 * s.sl)
theorem dCells_spec {s : Sz} (o : s.Ok) : HCalls Tryz.prog 93 #[.agg #[.int .i64 s.sh, .int .i64 s.bk, .int .i64 s.sl]] h (fun v h' => v = .int .i64 (szCells s) ∧ Ext h h') := by
  refine xcalls env0 Tryz.func93 rfl (by kernel_rfl) rfl (by kernel_rfl) ?_
  intro zb h1 n1
  refine ⟨_, rfl, reads_all n1.this, ?_⟩
  refine (kRight_spec s _).mono ?_
  rintro v h2 ⟨rfl, x2⟩
  refine xif_false (by rw [o.right]; rfl) ?_
  have hz := x2.blk n1.this
  repeat (first | refine ⟨_, cell_blk (hz) rfl, ?_⟩)
  obtain ⟨a, b, c, d, e, f⟩ := o
  obtain ⟨p1, p2⟩ := mul_bd (a := s.sh) (b := s.bk) (m := 8) (n := 16) (by omega) b (by omega) d
  obtain ⟨q1, q2⟩ := mul_bd (a := s.sh * s.bk) (b := 1 + 2 * s.sl) (m := 8 * 16) (n := 17) p1 p2 (by omega) (by omega)
  refine ⟨congrArg (Value.int .i64) ?_, n1.ext.trans x2⟩
  rw [wrap_i64 (x := s.sh * s.bk) (by omega) (by omega), wrap_i64 (x := 2 * s.sl) (by omega) (by omega), wrap_i64 (x := 1 + 2 * s.sl) (by omega) (by omega), wrap_i64 (by omega) (by omega)]
  rfl
theorem dLocks_spec {s : Sz} (o : s.Ok) : HCalls Tryz.prog 96 #[.agg #[.int .i64 s.sh, .int .i64 s.bk, .int .i64 s.sl]] h (fun v h' => v = .int .i64 s.sh ∧ Ext h h') := by
  refine xcalls env0 Tryz.func96 rfl (by kernel_rfl) rfl (by kernel_rfl) ?_
  intro zb h1 n1
  refine ⟨_, rfl, reads_all n1.this, ?_⟩
  refine (kRight_spec s _).mono ?_
  rintro v h2 ⟨rfl, x2⟩
  refine xif_false (by rw [o.right]; rfl) ?_
  have hz := x2.blk n1.this
  repeat (first | refine ⟨_, cell_blk (hz) rfl, ?_⟩)
  exact ⟨rfl, n1.ext.trans x2⟩
theorem dBound_spec {s : Sz} (o : s.Ok) {tries : Int} (t1 : 1 ≤ tries) (t2 : tries ≤ 8) : HCalls Tryz.prog 54 #[.agg #[.int .i64 s.sh, .int .i64 s.bk, .int .i64 s.sl], .int .i64 tries] h (fun v h' => ∃ n : Int, 1 ≤ n ∧ v = .int .i64 n ∧ Ext h h') := by
  refine xcalls env0 Tryz.func54 rfl (by kernel_rfl) rfl (by kernel_rfl) ?_
  intro zb h1 n1
  refine ⟨_, rfl, reads_all n1.this, ?_⟩
  refine (kRight_spec s _).mono ?_
  rintro v h2 ⟨rfl, x2⟩
  refine xif_false (by rw [o.right]; rfl) ?_
  refine xif_false (decide_eq_false ?_) ?_
  · show ¬ tries < 1
    omega
  refine xif_false (decide_eq_false ?_) ?_
  · show ¬ tries > 8
    omega
  have hz := x2.blk n1.this
  repeat (first | refine ⟨_, cell_blk (hz) rfl, ?_⟩)
  obtain ⟨a, b, c, d, e, f⟩ := o
  obtain ⟨p1, p2⟩ := mul_bd (a := tries) (b := 4 + 4 * s.sl) (m := 8) (n := 36) (by omega) t2 (by omega) (by omega)
  obtain ⟨q1, q2⟩ := mul_bd (a := s.bk) (b := 8 + 8 * s.sl) (m := 16) (n := 72) (by omega) (by omega) (by omega) (by omega)
  obtain ⟨r1, r2⟩ := mul_bd (a := s.sh) (b := 4 + s.bk * (8 + 8 * s.sl)) (m := 8) (n := 4 + 16 * 72) (by omega) (by omega) (by omega) (by omega)
  refine ⟨16 + tries * (4 + 4 * s.sl) + s.sh * (4 + s.bk * (8 + 8 * s.sl)), by omega, congrArg (Value.int .i64) ?_, n1.ext.trans x2⟩
  rw [wrap_i64 (x := 4 * s.sl) (by omega) (by omega), wrap_i64 (x := 4 + 4 * s.sl) (by omega) (by omega), wrap_i64 (x := tries * (4 + 4 * s.sl)) (by omega) (by omega), wrap_i64 (x := 16 + tries * (4 + 4 * s.sl)) (by omega) (by omega), wrap_i64 (x := 8 * s.sl) (by omega) (by omega), wrap_i64 (x := 8 + 8 * s.sl) (by omega) (by omega), wrap_i64 (x := s.bk * (8 + 8 * s.sl)) (by omega) (by omega), wrap_i64 (x := 4 + s.bk * (8 + 8 * s.sl)) (by omega) (by omega), wrap_i64 (x := s.sh * (4 + s.bk * (8 + 8 * s.sl))) (by omega) (by omega), wrap_i64 (by omega) (by omega)]
theorem dFits_spec {a b c : Int} (h1 : 0 ≤ a) (h2 : a + b ≤ c) (h3 : c < 100000000) (hb : 0 ≤ b) : HCalls Tryz.prog 154 #[.int .i64 a, .int .i64 b, .int .i64 c] h (fun v h' => v = .bool true ∧ h' = h) := by
  refine xcalls env0 Tryz.func154 rfl (by kernel_rfl) rfl (by kernel_rfl) ?_
  refine xif_true (decide_eq_true ?_) ?_
  · exact h1
  refine xif_true (decide_eq_true ?_) ?_
  · show a ≤ c
    omega
  refine ⟨congrArg Value.bool (decide_eq_true ?_), rfl⟩
  rw [wrap_i64 (by omega) (by omega)]
  omega
theorem dNew_spec (H : MemAt h mb cb lb M) {base lock : Nat} {s : Sz} (o : s.Ok) {tries : Int} (t1 : 1 ≤ tries) (t2 : tries ≤ 8) (hf : base + szCells s ≤ M.cells.length) (hl : lock + s.sh ≤ M.locks.length) (h4 : M.cells.length < 100000000) (h5 : M.locks.length < 1000) :
    HCalls Tryz.prog 97 #[.pointer (some ⟨mb, 0, none⟩), .int .i64 base, .int .i64 lock, .agg #[.int .i64 s.sh, .int .i64 s.bk, .int .i64 s.sl], .int .i64 tries] h (fun v h' => ∃ db, v = .tuple #[.pointer (some ⟨db, 0, none⟩), .int .i64 0] ∧ h.size ≤ db ∧ h'[db]? = some (.cells [.pointer (some ⟨mb, 0, none⟩), .int .i64 base, .int .i64 lock, .int .i64 s.sh, .int .i64 s.bk, .int .i64 s.sl, .int .i64 tries].toArray 258 (0, 0)) ∧ Ext h h') := by
  refine xcalls env0 Tryz.func97 rfl (by kernel_rfl) rfl (by kernel_rfl) ?_
  intro zb h1 n1
  have hz := n1.this
  have H1 := H.ext n1.ext
  refine ⟨_, rfl, reads_all hz, ?_⟩
  refine (dBound_spec o t1 t2).mono ?_
  rintro v h2 ⟨n, hn, rfl, x2⟩
  have hz2 := x2.blk hz
  refine xif_false ?_ ?_
  · show (n == 0) = false
    rw [beq_eq_false_iff_ne]
    omega
  refine ⟨_, rfl, reads_all hz2, ?_⟩
  refine (dCells_spec o).mono ?_
  rintro v h3 ⟨rfl, x3⟩
  have H3 := (H1.ext x2).ext x3
  refine (mCells_spec H3).mono ?_
  rintro v h4 ⟨rfl, rfl⟩
  obtain ⟨p1, p2⟩ := mul_bd (a := s.sh) (b := s.bk) (m := 8) (n := 16) (by have := o.sh1; omega) o.sh2 (by have := o.bk1; omega) o.bk2
  obtain ⟨q1, q2⟩ := mul_bd (a := s.sh * s.bk) (b := 1 + 2 * s.sl) (m := 8 * 16) (n := 17) p1 p2 (by have := o.sl1; omega) (by have := o.sl2; omega)
  refine (dFits_spec (by omega) hf (by omega) (by unfold szCells; omega)).mono ?_
  rintro v h5 ⟨rfl, rfl⟩
  have hz5 := x3.blk hz2
  refine ⟨_, rfl, reads_all hz5, ?_⟩
  refine (dLocks_spec o).mono ?_
  rintro v h6 ⟨rfl, x6⟩
  refine (mLocks_spec (H3.ext x6)).mono ?_
  rintro v h7 ⟨rfl, rfl⟩
  refine (dFits_spec (by omega) hl (by omega) (by have := o.sh1; omega)).mono ?_
  rintro v h8 ⟨rfl, rfl⟩
  have hz8 := x6.blk hz5
  refine ⟨_, rfl, reads_all hz8, ?_⟩
  intro db h9 n9
  have x8 := ((n1.ext.trans x2).trans x3).trans x6
  exact ⟨db, rfl, n9.ge x8, n9.this, x8.trans n9.ext⟩
end
end Go.Proofs.YtjjempefncgfhaaGreatDoorE
