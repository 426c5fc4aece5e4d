/- Reports in memory; what is searched in their lists. Conditions: the arguments are of their types, and not too many. -/
import Derived.Test.YtcjoenkpibhmoaaGreatXH6
import Derived.Test.YtcjoenkpibhmoaaGreatXJF
set_option linter.unusedVariables false
set_option linter.unusedSimpArgs false
set_option maxRecDepth 100000
namespace Go.Proofs.YtcjoenkpibhmoaaGreatE
open Go Go.Proofs
/-- A frame that came; what became of one; one that went out; counts of two ports, and a row of such. -/
structure Cm where
  port : Int
  tick : Int
  A : Option Addr
  n : Nat
  c : Nat
  bs : List Int
def encCm (x : Cm) : List Value := [.int .i64 x.port, .int .u32 x.tick, .slice x.A x.n x.c]
theorem encCm_len (x : Cm) : (encCm x).length = 3 := rfl
theorem encCm_one (x : Cm) : (encCm x).all Value.oneCell' = true := rfl
structure Dn where
  id : Int
  why : Int
  vid : Int
  learned : Int
  found : Int
  tA : Option Addr
  tn : Nat
  tc : Nat
  fA : Option Addr
  fn : Nat
  fc : Nat
def encDn (x : Dn) : List Value := [.int .i64 x.id, .int .i64 x.why, .int .i64 x.vid, .int .i64 x.learned, .int .i64 x.found, .slice x.tA x.tn x.tc, .slice x.fA x.fn x.fc]
theorem encDn_len (x : Dn) : (encDn x).length = 7 := rfl
theorem encDn_one (x : Dn) : (encDn x).all Value.oneCell' = true := rfl
structure Ot where
  id : Int
  frm : Int
  to : Int
  mark : Int
  A : Option Addr
  n : Nat
  c : Nat
  bs : List Int
def encOt (x : Ot) : List Value := [.int .i64 x.id, .int .i64 x.frm, .int .i64 x.to, .int .i64 x.mark, .slice x.A x.n x.c]
theorem encOt_len (x : Ot) : (encOt x).length = 5 := rfl
theorem encOt_one (x : Ot) : (encOt x).all Value.oneCell' = true := rfl
structure Cn where
  off : Int
  full : Int
  sent : Int
  late : Int
  drain : Int
  wait : Int
def encCn (x : Cn) : List Value := [.int .i64 x.off, .int .i64 x.full, .int .i64 x.sent, .int .i64 x.late, .int .i64 x.drain, .int .i64 x.wait]
theorem encCn_len (x : Cn) : (encCn x).length = 6 := rfl
theorem encCn_one (x : Cn) : (encCn x).all Value.oneCell' = true := rfl
structure Cr where
  A : Option Addr
  n : Nat
  c : Nat
  l : List Cn
def encCr (x : Cr) : List Value := [.slice x.A x.n x.c]
theorem encCr_len (x : Cr) : (encCr x).length = 1 := rfl
theorem encCr_one (x : Cr) : (encCr x).all Value.oneCell' = true := rfl
/-- Bytes that stand somewhere. -/
structure BsOk (h : Heap) (A : Option Addr) (n c : Nat) (bs : List Int) : Prop where
  row : Row encU8 1 h A bs
  len : bs.length = n
  cap : n ≤ c
  few : n ≤ 210
  byte : ∀ y ∈ bs, 0 ≤ y ∧ y < 256
theorem BsOk.ext {h h' : Heap} {A : Option Addr} {n c : Nat} {bs : List Int} (H : BsOk h A n c bs) (x : Ext h h') : BsOk h' A n c bs := ⟨x.row H.row, H.len, H.cap, H.few, H.byte⟩
structure CrOk (h : Heap) (r : Cr) : Prop where
  row : Row encCn 6 h r.A r.l
  len : r.l.length = r.n
theorem CrOk.ext {h h' : Heap} {r : Cr} (H : CrOk h r) (x : Ext h h') : CrOk h' r := ⟨x.row H.row, H.len⟩
/-- A report. -/
structure Rp where
  ports : Int
  p1 : Value
  p2 : Value
  p3 : Value
  p4 : Value
  p5 : Value
  p6 : Value
  p7 : Value
  p8 : Value
  p9 : Value
  LA : Option Addr
  ln : Nat
  lc : Nat
  log : List He
  CA : Option Addr
  cn : Nat
  cc : Nat
  came : List Cm
  DA : Option Addr
  dn : Nat
  dc : Nat
  don : List Dn
  OA : Option Addr
  on : Nat
  oc : Nat
  outs : List Ot
  KA : Option Addr
  kn : Nat
  kc : Nat
  cnts : List Cr
def Rp.plan (r : Rp) : List Value := [.int .i64 r.ports, r.p1, r.p2, r.p3, r.p4, r.p5, r.p6, r.p7, r.p8, r.p9]
def encRp (r : Rp) : List Value := [.int .i64 r.ports, r.p1, r.p2, r.p3, r.p4, r.p5, r.p6, r.p7, r.p8, r.p9, .slice r.LA r.ln r.lc, .slice r.CA r.cn r.cc, .slice r.DA r.dn r.dc, .slice r.OA r.on r.oc, .slice r.KA r.kn r.kc]
structure RpOk (h : Heap) (r : Rp) : Prop where
  log : Row encHe 19 h r.LA r.log
  logl : r.log.length = r.ln
  logc : r.ln ≤ r.lc
  logs : r.ln ≤ 60
  came : Row encCm 3 h r.CA r.came
  camel : r.came.length = r.cn
  cames : r.cn ≤ 12
  cameb : ∀ x ∈ r.came, BsOk h x.A x.n x.c x.bs
  don : Row encDn 7 h r.DA r.don
  donl : r.don.length = r.dn
  dons : r.dn ≤ 12
  outs : Row encOt 5 h r.OA r.outs
  outsl : r.outs.length = r.on
  outsc : r.on ≤ r.oc
  outss : r.on ≤ 30
  outsb : ∀ x ∈ r.outs, BsOk h x.A x.n x.c x.bs
  cnts : Row encCr 1 h r.KA r.cnts
  cntsl : r.cnts.length = r.kn
  cntss : r.kn ≤ 10
  cntsr : ∀ x ∈ r.cnts, CrOk h x
theorem RpOk.ext {h h' : Heap} {r : Rp} (H : RpOk h r) (x : Ext h h') : RpOk h' r :=
  ⟨x.row H.log, H.logl, H.logc, H.logs, x.row H.came, H.camel, H.cames, fun y hy => (H.cameb y hy).ext x, x.row H.don, H.donl, H.dons, x.row H.outs, H.outsl, H.outsc, H.outss, fun y hy => (H.outsb y hy).ext x, x.row H.cnts, H.cntsl, H.cntss, fun y hy => (H.cntsr y hy).ext x⟩
/-- The first place at which something holds; -1: there is none. -/
def idxQ {α : Type} (P : α → Bool) : List α → Nat → Int
  | [], _ => -1
  | e :: l, i => if P e = true then (i : Int) else idxQ P l (i + 1)
theorem idxQ_ge {α : Type} {P : α → Bool} : ∀ {l : List α} {i : Nat}, 0 ≤ idxQ P l i ↔ l.any P = true
  | [], i => by simp [idxQ]
  | e :: l, i => by
    rw [idxQ, List.any_cons]
    cases hp : P e with
    | true => simp
    | false => simp only [Bool.false_or, if_neg (show ¬ (false = true) by decide)]; exact idxQ_ge
theorem idxQ_find {α : Type} {P : α → Bool} : ∀ {l : List α} {i : Nat}, (idxQ P l i = -1 ∧ l.find? P = none) ∨ ∃ k e, idxQ P l i = ((i + k : Nat) : Int) ∧ l[k]? = some e ∧ l.find? P = some e
  | [], i => .inl ⟨rfl, rfl⟩
  | e :: l, i => by
    rw [idxQ, List.find?_cons]
    cases hp : P e with
    | true => exact .inr ⟨0, e, by simp, rfl, rfl⟩
    | false =>
      simp only [if_neg (show ¬ (false = true) by decide)]
      rcases idxQ_find (P := P) (l := l) (i := i + 1) with h | ⟨k, e', h1, h2, h3⟩
      · exact .inl h
      · exact .inr ⟨k + 1, e', by rw [h1]; congr 1; omega, by simpa using h2, h3⟩
section
variable {h : Heap}
theorem heIndexC_spec {A : Option Addr} {c n : Nat} {l : List He} {P : He → Bool} {f : FuncId} {cap : List Value} (hr : Row encHe 19 h A l) (hl : l.length = n) (hn : n ≤ 1000000)
    (hP : ∀ h' e, Ext h h' → e ∈ l → HCalls Tryz.prog f ([] ++ [Value.agg (encHe e).toArray] ++ cap).toArray h' (fun v h'' => v = .bool (P e) ∧ Ext h' h'')) :
    HCalls Tryz.prog 67 #[.slice A n c, .func (.func f) #[] cap.toArray] h (fun v h' => v = .int .i64 (idxQ P l 0) ∧ Ext h h') := by
  subst hl
  refine xcalls env0 Tryz.func67 rfl (by kernel_rfl) rfl (by kernel_rfl) ?_
  refine ⟨Nat, fun i => [(0, .slice A l.length c), (1, .func (.func f) #[] cap.toArray), (7, .int .i64 l.length), (8, .int .i64 i)], fun i h' => (i ≤ l.length ∧ idxQ P (l.drop i) i = idxQ P l 0) ∧ Ext h h', fun i => l.length - i, 0, ⟨rfl, rfl, rfl, rfl, trivial⟩, ⟨⟨Nat.zero_le _, rfl⟩, Ext.refl _⟩, ?_⟩
  rintro i h2 ⟨⟨hi, hf⟩, x2⟩
  refine xif_of (fun hlt => ?_) (fun hge => ?_)
  · have hlt : (i : Int) < l.length := of_decide_eq_true hlt
    obtain ⟨v, hv⟩ : ∃ v, l[i]? = some v := ⟨l[i]'(by omega), List.getElem?_eq_getElem (by omega)⟩
    obtain ⟨a, hA, hrd⟩ := (x2.row hr) i v hv
    have hd : l.drop i = v :: l.drop (i + 1) := by
      obtain ⟨hil, he⟩ := List.getElem?_eq_some_iff.1 hv
      rw [List.drop_eq_getElem_cons hil, he]
    rw [hd, idxQ] at hf
    refine ⟨a, hA, by omega, hlt, encHe v, rfl, hrd, ?_⟩
    refine (hP h2 v x2 (List.mem_of_getElem? hv)).mono ?_
    rintro w h3 ⟨rfl, x3⟩
    refine xif_of (fun q => ?_) (fun q => ?_)
    · rw [if_pos q] at hf
      exact ⟨congrArg (Value.int .i64) hf, x2.trans x3⟩
    · rw [if_neg (by rw [q]; decide)] at hf
      exact ⟨i + 1, ⟨rfl, rfl, rfl, slot_inc (by omega), trivial⟩, ⟨⟨by omega, hf⟩, x2.trans x3⟩, by show l.length - (i + 1) < l.length - i; omega⟩
  · have hge : ¬ (i : Int) < l.length := of_decide_eq_false hge
    rw [List.drop_eq_nil_of_le (by omega)] at hf
    exact ⟨congrArg (Value.int .i64) hf, x2⟩
theorem dnIndexC_spec {A : Option Addr} {c n : Nat} {l : List Dn} {P : Dn → Bool} {f : FuncId} {cap : List Value} (hr : Row encDn 7 h A l) (hl : l.length = n) (hn : n ≤ 1000000)
    (hP : ∀ h' e, Ext h h' → e ∈ l → HCalls Tryz.prog f ([] ++ [Value.agg (encDn e).toArray] ++ cap).toArray h' (fun v h'' => v = .bool (P e) ∧ Ext h' h'')) :
    HCalls Tryz.prog 81 #[.slice A n c, .func (.func f) #[] cap.toArray] h (fun v h' => v = .int .i64 (idxQ P l 0) ∧ Ext h h') := by
  subst hl
  refine xcalls env0 Tryz.func81 rfl (by kernel_rfl) rfl (by kernel_rfl) ?_
  refine ⟨Nat, fun i => [(0, .slice A l.length c), (1, .func (.func f) #[] cap.toArray), (7, .int .i64 l.length), (8, .int .i64 i)], fun i h' => (i ≤ l.length ∧ idxQ P (l.drop i) i = idxQ P l 0) ∧ Ext h h', fun i => l.length - i, 0, ⟨rfl, rfl, rfl, rfl, trivial⟩, ⟨⟨Nat.zero_le _, rfl⟩, Ext.refl _⟩, ?_⟩
  rintro i h2 ⟨⟨hi, hf⟩, x2⟩
  refine xif_of (fun hlt => ?_) (fun hge => ?_)
  · have hlt : (i : Int) < l.length := of_decide_eq_true hlt
    obtain ⟨v, hv⟩ : ∃ v, l[i]? = some v := ⟨l[i]'(by omega), List.getElem?_eq_getElem (by omega)⟩
    obtain ⟨a, hA, hrd⟩ := (x2.row hr) i v hv
    have hd : l.drop i = v :: l.drop (i + 1) := by
      obtain ⟨hil, he⟩ := List.getElem?_eq_some_iff.1 hv
      rw [List.drop_eq_getElem_cons hil, he]
    rw [hd, idxQ] at hf
    refine ⟨a, hA, by omega, hlt, encDn v, rfl, hrd, ?_⟩
    refine (hP h2 v x2 (List.mem_of_getElem? hv)).mono ?_
    rintro w h3 ⟨rfl, x3⟩
    refine xif_of (fun q => ?_) (fun q => ?_)
    · rw [if_pos q] at hf
      exact ⟨congrArg (Value.int .i64) hf, x2.trans x3⟩
    · rw [if_neg (by rw [q]; decide)] at hf
      exact ⟨i + 1, ⟨rfl, rfl, rfl, slot_inc (by omega), trivial⟩, ⟨⟨by omega, hf⟩, x2.trans x3⟩, by show l.length - (i + 1) < l.length - i; omega⟩
  · have hge : ¬ (i : Int) < l.length := of_decide_eq_false hge
    rw [List.drop_eq_nil_of_le (by omega)] at hf
    exact ⟨congrArg (Value.int .i64) hf, x2⟩
theorem otIndexC_spec {A : Option Addr} {c n : Nat} {l : List Ot} {P : Ot → Bool} {f : FuncId} {cap : List Value} (hr : Row encOt 5 h A l) (hl : l.length = n) (hn : n ≤ 1000000)
    (hP : ∀ h' e, Ext h h' → e ∈ l → HCalls Tryz.prog f ([] ++ [Value.agg (encOt e).toArray] ++ cap).toArray h' (fun v h'' => v = .bool (P e) ∧ Ext h' h'')) :
    HCalls Tryz.prog 83 #[.slice A n c, .func (.func f) #[] cap.toArray] h (fun v h' => v = .int .i64 (idxQ P l 0) ∧ Ext h h') := by
  subst hl
  refine xcalls env0 Tryz.func83 rfl (by kernel_rfl) rfl (by kernel_rfl) ?_
  refine ⟨Nat, fun i => [(0, .slice A l.length c), (1, .func (.func f) #[] cap.toArray), (7, .int .i64 l.length), (8, .int .i64 i)], fun i h' => (i ≤ l.length ∧ idxQ P (l.drop i) i = idxQ P l 0) ∧ Ext h h', fun i => l.length - i, 0, ⟨rfl, rfl, rfl, rfl, trivial⟩, ⟨⟨Nat.zero_le _, rfl⟩, Ext.refl _⟩, ?_⟩
  rintro i h2 ⟨⟨hi, hf⟩, x2⟩
  refine xif_of (fun hlt => ?_) (fun hge => ?_)
  · have hlt : (i : Int) < l.length := of_decide_eq_true hlt
    obtain ⟨v, hv⟩ : ∃ v, l[i]? = some v := ⟨l[i]'(by omega), List.getElem?_eq_getElem (by omega)⟩
    obtain ⟨a, hA, hrd⟩ := (x2.row hr) i v hv
    have hd : l.drop i = v :: l.drop (i + 1) := by
      obtain ⟨hil, he⟩ := List.getElem?_eq_some_iff.1 hv
      rw [List.drop_eq_getElem_cons hil, he]
    rw [hd, idxQ] at hf
    refine ⟨a, hA, by omega, hlt, encOt v, rfl, hrd, ?_⟩
    refine (hP h2 v x2 (List.mem_of_getElem? hv)).mono ?_
    rintro w h3 ⟨rfl, x3⟩
    refine xif_of (fun q => ?_) (fun q => ?_)
    · rw [if_pos q] at hf
      exact ⟨congrArg (Value.int .i64) hf, x2.trans x3⟩
    · rw [if_neg (by rw [q]; decide)] at hf
      exact ⟨i + 1, ⟨rfl, rfl, rfl, slot_inc (by omega), trivial⟩, ⟨⟨by omega, hf⟩, x2.trans x3⟩, by show l.length - (i + 1) < l.length - i; omega⟩
  · have hge : ¬ (i : Int) < l.length := of_decide_eq_false hge
    rw [List.drop_eq_nil_of_le (by omega)] at hf
    exact ⟨congrArg (Value.int .i64) hf, x2⟩
theorem crIndexC_spec {A : Option Addr} {c n : Nat} {l : List Cr} {P : Cr → Bool} {f : FuncId} {cap : List Value} (hr : Row encCr 1 h A l) (hl : l.length = n) (hn : n ≤ 1000000)
    (hP : ∀ h' e, Ext h h' → e ∈ l → HCalls Tryz.prog f ([] ++ [Value.slice e.A e.n e.c] ++ cap).toArray h' (fun v h'' => v = .bool (P e) ∧ Ext h' h'')) :
    HCalls Tryz.prog 117 #[.slice A n c, .func (.func f) #[] cap.toArray] h (fun v h' => v = .int .i64 (idxQ P l 0) ∧ Ext h h') := by
  subst hl
  refine xcalls env0 Tryz.func117 rfl (by kernel_rfl) rfl (by kernel_rfl) ?_
  refine ⟨Nat, fun i => [(0, .slice A l.length c), (1, .func (.func f) #[] cap.toArray), (7, .int .i64 l.length), (8, .int .i64 i)], fun i h' => (i ≤ l.length ∧ idxQ P (l.drop i) i = idxQ P l 0) ∧ Ext h h', fun i => l.length - i, 0, ⟨rfl, rfl, rfl, rfl, trivial⟩, ⟨⟨Nat.zero_le _, rfl⟩, Ext.refl _⟩, ?_⟩
  rintro i h2 ⟨⟨hi, hf⟩, x2⟩
  refine xif_of (fun hlt => ?_) (fun hge => ?_)
  · have hlt : (i : Int) < l.length := of_decide_eq_true hlt
    obtain ⟨v, hv⟩ : ∃ v, l[i]? = some v := ⟨l[i]'(by omega), List.getElem?_eq_getElem (by omega)⟩
    obtain ⟨a, hA, hrd⟩ := (x2.row hr) i v hv
    have hd : l.drop i = v :: l.drop (i + 1) := by
      obtain ⟨hil, he⟩ := List.getElem?_eq_some_iff.1 hv
      rw [List.drop_eq_getElem_cons hil, he]
    rw [hd, idxQ] at hf
    have c1 := hrd.get 0 (v := .slice v.A v.n v.c) rfl
    rw [add_zero'] at c1
    refine ⟨a, hA, by omega, hlt, _, c1, ?_⟩
    refine (hP h2 v x2 (List.mem_of_getElem? hv)).mono ?_
    rintro w h3 ⟨rfl, x3⟩
    refine xif_of (fun q => ?_) (fun q => ?_)
    · rw [if_pos q] at hf
      exact ⟨congrArg (Value.int .i64) hf, x2.trans x3⟩
    · rw [if_neg (by rw [q]; decide)] at hf
      exact ⟨i + 1, ⟨rfl, rfl, rfl, slot_inc (by omega), trivial⟩, ⟨⟨by omega, hf⟩, x2.trans x3⟩, by show l.length - (i + 1) < l.length - i; omega⟩
  · have hge : ¬ (i : Int) < l.length := of_decide_eq_false hge
    rw [List.drop_eq_nil_of_le (by omega)] at hf
    exact ⟨congrArg (Value.int .i64) hf, x2⟩
theorem otContainsC_spec {A : Option Addr} {c n : Nat} {l : List Ot} {P : Ot → Bool} {f : FuncId} {cap : List Value} (hr : Row encOt 5 h A l) (hl : l.length = n) (hn : n ≤ 1000000)
    (hP : ∀ h' e, Ext h h' → e ∈ l → HCalls Tryz.prog f ([] ++ [Value.agg (encOt e).toArray] ++ cap).toArray h' (fun v h'' => v = .bool (P e) ∧ Ext h' h'')) :
    HCalls Tryz.prog 46 #[.slice A n c, .func (.func f) #[] cap.toArray] h (fun v h' => v = .bool (l.any P) ∧ Ext h h') := by
  refine xcalls env0 Tryz.func46 rfl (by kernel_rfl) rfl (by kernel_rfl) ?_
  refine (otIndexC_spec hr hl hn hP).mono ?_
  rintro v h2 ⟨rfl, x2⟩
  refine ⟨congrArg Value.bool ?_, x2⟩
  rw [Bool.eq_iff_iff, decide_eq_true_iff]
  exact idxQ_ge
theorem crContainsC_spec {A : Option Addr} {c n : Nat} {l : List Cr} {P : Cr → Bool} {f : FuncId} {cap : List Value} (hr : Row encCr 1 h A l) (hl : l.length = n) (hn : n ≤ 1000000)
    (hP : ∀ h' e, Ext h h' → e ∈ l → HCalls Tryz.prog f ([] ++ [Value.slice e.A e.n e.c] ++ cap).toArray h' (fun v h'' => v = .bool (P e) ∧ Ext h' h'')) :
    HCalls Tryz.prog 87 #[.slice A n c, .func (.func f) #[] cap.toArray] h (fun v h' => v = .bool (l.any P) ∧ Ext h h') := by
  refine xcalls env0 Tryz.func87 rfl (by kernel_rfl) rfl (by kernel_rfl) ?_
  refine (crIndexC_spec hr hl hn hP).mono ?_
  rintro v h2 ⟨rfl, x2⟩
  refine ⟨congrArg Value.bool ?_, x2⟩
  rw [Bool.eq_iff_iff, decide_eq_true_iff]
  exact idxQ_ge
end
end Go.Proofs.YtcjoenkpibhmoaaGreatE
