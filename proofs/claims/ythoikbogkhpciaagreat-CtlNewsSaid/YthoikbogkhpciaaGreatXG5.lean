/- A port is set, and it is told: what the law's own look answers. Conditions: none. -/
import Derived.Test.YthoikbogkhpciaaGreatXG3
import Derived.Test.YthoikbogkhpciaaGreatXQ1
set_option linter.unusedVariables false
set_option linter.unusedSimpArgs false
set_option maxRecDepth 100000
namespace Go.Proofs.YthoikbogkhpciaaGreatE
open Go Go.Proofs
def env_rBound19 : Nat → Ann
  | 3 => ⟨.op 0 [] <| .op 1 [] <| .op 2 [] <| .op 3 [] <| .op 6 [] <| .op 7 [] <| .op 8 [] <| .op 9 [] <| .op 10 [] <| .op 11 [] <| .op 12 [] <| .op 4 [7, 9] <| .op 5 [] <| .op 13 [] <| .op 14 [] <| .nil, [0, 1, 0, 4, 15, 31, 0, 64, 0, 256, 768, 1792, 4032, 8191, 16383], false⟩
  | _ => ⟨.nil, [], false⟩
section
variable {h h' : Heap} {B : Nat} {F : Fb} {ab : Nat} {x : CaV} {ls : List Nat} {M : MemS} {E : He}
theorem CaS.next (S : CaS h B F ab x ls M E) {nx : Value} (r : CaRaw h' ab { x with next := nx }) (c : Chg [(ab, 142)] h h') : CaS h' B F ab { x with next := nx } ls M E := S.field c r rfl rfl rfl rfl rfl rfl rfl rfl
/-- A step, told by what its function does. -/
theorem aStep_of {f : Nat} {cap : List Value} (nx : Value) (b : Bool) {x' : CaV} {M' : MemS} {E' : He} {K : Heap → Prop} (S : CaS h B F ab x ls M E) (hn : x.next = .func (.func f) #[] cap.toArray) (hnx : (nx = .nilFunc ∧ b = true) ∨ ∃ (g : Nat) (c : Array Value), nx = .func (.func g) #[] c ∧ b = false)
    (hf : HCalls Tryz.prog f (Value.pointer (some ⟨ab, 0, none⟩) :: cap).toArray h (fun v h' => v = nx ∧ CaS h' B F ab x' ls M' E' ∧ ChgT B TyC h h' ∧ K h')) (hK : ∀ g g', Chg [(ab, 142)] g g' → K g → K g') :
    HCalls Tryz.prog 29 #[.pointer (some ⟨ab, 0, none⟩)] h (fun v h' => v = .bool b ∧ CaS h' B F ab { x' with next := nx } ls M' E' ∧ ChgT B TyC h h' ∧ K h') := by
  refine (aStep_spec nx b (K := fun y g => y = x' ∧ CaS g B F ab x' ls M' E' ∧ ChgT B TyC h g ∧ K g) S.raw hn hnx (hf.mono ?_)).mono ?_
  · rintro v h1 ⟨rfl, S1, c1, k1⟩
    exact ⟨rfl, x', S1.raw, rfl, S1, c1, k1⟩
  · rintro v h2 ⟨rfl, y, h1, ⟨rfl, S1, c1, k1⟩, r2, c2⟩
    exact ⟨rfl, S1.next r2 c2, c1.trans (S1.frF c2), hK _ _ c2 k1⟩
/-- A step behind which something is to be done, whatever it is. -/
theorem aStep_go {f : Nat} {cap : List Value} {K : Value → CaV → Heap → Prop} (H : CaRaw h ab x) (hn : x.next = .func (.func f) #[] cap.toArray)
    (hf : HCalls Tryz.prog f (Value.pointer (some ⟨ab, 0, none⟩) :: cap).toArray h (fun v h' => ∃ (g : Nat) (c : Array Value), v = .func (.func g) #[] c ∧ ∃ x', CaRaw h' ab x' ∧ K v x' h')) :
    HCalls Tryz.prog 29 #[.pointer (some ⟨ab, 0, none⟩)] h (fun v h' => v = .bool false ∧ ∃ nx x' h1, K nx x' h1 ∧ CaRaw h' ab { x' with next := nx } ∧ Chg [(ab, 142)] h1 h') := by
  have hov := aOver_fn H hn
  obtain ⟨f', who, o, next, gA, gn, gc, kA, kn, kc, held, from_, pop, act⟩ := x
  simp only at hn
  subst hn
  refine xcalls env0 Tryz.func29 rfl (by kernel_rfl) rfl (by kernel_rfl) ?_
  refine hov.mono ?_
  rintro v h1 ⟨rfl, rfl⟩
  repeat (first | refine ⟨_, cell_blk (H) rfl, ?_⟩)
  refine hf.mono ?_
  rintro v h2 ⟨g, c, rfl, x', H2, k⟩
  obtain ⟨f', who, o, next, gA, gn, gc, kA, kn, kc, held, from_, pop, act⟩ := x'
  refine ⟨rfl, rfl, canset_blk H2 rfl, fun h3 s3 => ?_⟩
  have H3 : CaRaw h3 ab ⟨f', who, o, .func (.func g) #[] c, gA, gn, gc, kA, kn, kc, held, from_, pop, act⟩ := s3.put H2
  refine (aOver_fn H3 rfl).mono ?_
  rintro v h4 ⟨rfl, rfl⟩
  exact ⟨rfl, _, _, h2, k, H3, s3.chg H2 (.head _)⟩
/-- A lock that another one has isn't given. -/
theorem mPass_no (H : MemAt h F.mb F.cb F.lb M) {i : Nat} {a b c : Int} (hx : M.locks[i]? = some a) (hne : a ≠ b) (ht : M.t < 1000000) : HCalls Tryz.prog 113 #[.pointer (some ⟨F.mb, 0, none⟩), .int .i64 i, .int .i64 b, .int .i64 c] h (fun v h' => v = .bool false ∧ MemAt h' F.mb F.cb F.lb { M with t := M.t + 1 } ∧ Chg (ML F.mb F.cb F.lb) h h') := by
  have hi : i < M.locks.length := (List.getElem?_eq_some_iff.1 hx).1
  refine xcalls env0 Tryz.func113 rfl (by kernel_rfl) rfl (by kernel_rfl) ?_
  refine ⟨_, cell_blk H.mem rfl, rfl, rfl, canset_blk H.mem rfl, fun h2 s2 => ?_⟩
  obtain ⟨H2, c2⟩ := H.tick ht s2
  refine ⟨_, cell_blk H2.mem rfl, _, rfl, Int.natCast_nonneg i, Int.ofNat_lt.2 hi, _, H2.lockd' hx, ?_⟩
  refine xif_true ?_ ?_
  · show (a != b) = true
    simpa using hne
  exact ⟨rfl, H2, c2.mono (by simp [ML])⟩
theorem mTake_no (H : MemAt h F.mb F.cb F.lb M) {i : Nat} {a who : Int} (hx : M.locks[i]? = some a) (ha : a ≠ -1) (hw : 0 ≤ who) (ht : M.t < 1000000) : HCalls Tryz.prog 67 #[.pointer (some ⟨F.mb, 0, none⟩), .int .i64 i, .int .i64 who] h (fun v h' => v = .bool false ∧ MemAt h' F.mb F.cb F.lb { M with t := M.t + 1 } ∧ Chg (ML F.mb F.cb F.lb) h h') := by
  have hi : i < M.locks.length := (List.getElem?_eq_some_iff.1 hx).1
  refine xcalls env0 Tryz.func67 rfl (by kernel_rfl) rfl (by kernel_rfl) ?_
  refine (mLock_spec H i).mono ?_
  rintro v h1 ⟨rfl, rfl⟩
  have e : (decide (0 ≤ (i : Int)) && decide ((i : Int) < M.locks.length)) = true := by
    rw [decide_eq_true (by omega), decide_eq_true (by omega)]; rfl
  refine xif_true e ?_
  refine xif_true (decide_eq_true ?_) ?_
  · exact hw
  refine (mPass_no H hx ha ht).mono ?_
  rintro v h2 ⟨rfl, r⟩
  exact ⟨rfl, r⟩
theorem cTake_no (H : FabAt h F) (HM : MemAt h F.mb F.cb F.lb M) {p : Nat} {a who : Int} (hp : p < F.P) (hx : M.locks[p]? = some a) (ha : a ≠ -1) (hw : 0 ≤ who) (ht : M.t < 1000000) : HCalls Tryz.prog 25 #[.pointer (some ⟨F.fb, 0, none⟩), .int .i64 p, .int .i64 who] h (fun v h' => v = .bool false ∧ MemAt h' F.mb F.cb F.lb { M with t := M.t + 1 } ∧ Chg (ML F.mb F.cb F.lb) h h') := by
  obtain ⟨RA, rc, hb', hr⟩ := H.blk
  refine xcalls env0 Tryz.func25 rfl (by kernel_rfl) rfl (by kernel_rfl) ?_
  refine (cHas_spec H p).mono ?_
  rintro v h1 ⟨rfl, rfl⟩
  refine xif_true (has_yes hp) ?_
  repeat (first | refine ⟨_, cell_blk (hb') rfl, ?_⟩)
  refine (mTake_no HM hx ha hw ht).mono ?_
  rintro v h1 ⟨rfl, r⟩
  exact ⟨rfl, r⟩
end
/-- Port 1 is set: how all is, step by step. -/
def Set1 (h0 : Heap) (B : Nat) (F : Fb) (ab : Nat) (M : MemS) (E : He) (k : Nat) (h : Heap) : Prop :=
  ChgT B TyC h0 h ∧ ∃ x, x.o.kind = 8 ∧ x.o.port = ((1 : Nat) : Int) ∧ x.o.state = 4 ∧ x.who = 9 ∧ match k with
    | 0 => CaS h B F ab x [1] M E ∧ x.next = .func (.func 69) #[] #[] ∧ x.held = 0
    | 1 => CaS h B F ab x [1] { M with locks := M.locks.set 1 9, t := M.t + 1 } E ∧ x.next = .func (.func 115) #[] #[] ∧ x.held = 1
    | 2 => CaS h B F ab x [1] { M with locks := M.locks.set 1 9, t := M.t + 1 + 1 } E ∧ (∃ sb, x.next = .func (.func 159) #[] #[.pointer (some ⟨sb, 0, none⟩)] ∧ h[sb]? = some (.cells [Value.int .i64 0, Value.int .u32 0].toArray 72 (0, 0))) ∧ x.held = 1
    | 3 => ∃ E', E'.ans = 1 ∧ CaS h B F ab x [1] { M with cells := M.cells.set 1 260, locks := M.locks.set 1 9, t := M.t + 1 + 1 + 1 } E' ∧ x.next = .func (.func 187) #[] #[] ∧ x.held = 1
    | 4 => ∃ E', E'.ans = 1 ∧ CaS h B F ab x [1] { M with cells := M.cells.set 1 260, locks := (M.locks.set 1 9).set 1 (-1), t := M.t + 1 + 1 + 1 + 1 } E' ∧ x.next = .nilFunc
    | _ => False
theorem set1_step {h0 h : Heap} {B : Nat} {F : Fb} {ab : Nat} {M : MemS} {E : He} (hP : 1 < F.P) (hl : M.locks[1]? = some (-1)) (hz : M.cells[1]? = some 0) (ht : M.t < 800000) {k : Nat} (hk : k < 4) (H : Set1 h0 B F ab M E k h) :
    HCalls Tryz.prog 29 #[.pointer (some ⟨ab, 0, none⟩)] h (fun v h' => v = .bool (k + 1 == 4) ∧ Set1 h0 B F ab M E (k + 1) h') := by
  have hlt : 1 < M.locks.length := (List.getElem?_eq_some_iff.1 hl).1
  have hlc : 1 < M.cells.length := (List.getElem?_eq_some_iff.1 hz).1
  obtain ⟨c0, x, ok, op, os, ow, H⟩ := H
  match k, H with
  | 0, ⟨S, hn, hh⟩ =>
    refine (aStep_of (cap := []) (K := fun _ => True) (x' := { x with held := x.held + 1 }) (M' := { M with locks := M.locks.set 1 x.who, t := M.t + 1 }) (E' := E) (.func (.func 115) #[] #[]) false S hn (.inr ⟨_, _, rfl, rfl⟩) ((aLock_spec S (p := 1) (by rw [hh]; rfl) hP hl (by omega)).mono ?_) (fun _ _ _ _ => trivial)).mono ?_
    · rintro v h1 ⟨rfl, S1, c1⟩
      refine ⟨?_, S1, c1, trivial⟩
      rw [if_neg (by rw [hh]; decide), if_neg (by rw [ok]; decide)]
    · rintro v h1 ⟨rfl, S1, c1, _⟩
      have hM : (⟨M.cells, M.locks.set 1 x.who, M.t + 1⟩ : MemS) = ⟨M.cells, M.locks.set 1 9, M.t + 1⟩ := by rw [ow]
      rw [hM] at S1
      exact ⟨rfl, c0.trans c1, { x with held := x.held + 1, next := .func (.func 115) #[] #[] }, ok, op, os, ow, S1, rfl, by show x.held + 1 = 1; rw [hh]⟩
  | 1, ⟨S, hn, hh⟩ =>
    refine (aStep_go (cap := []) (K := fun nx y g => y = x ∧ (∃ sb, nx = .func (.func 159) #[] #[.pointer (some ⟨sb, 0, none⟩)] ∧ g[sb]? = some (.cells [Value.int .i64 0, Value.int .u32 0].toArray 72 (0, 0))) ∧ CaS g B F ab x [1] { M with locks := M.locks.set 1 9, t := M.t + 1 + 1 } E ∧ ChgT B TyC h g) S.raw hn ((aRead_spec S op hP hz (by show M.t + 1 < 900000; omega)).mono ?_)).mono ?_
    · rintro v h1 ⟨sb, rfl, hsb, S1, c1⟩
      exact ⟨_, _, rfl, x, S1.raw, rfl, ⟨sb, rfl, hsb⟩, S1, c1⟩
    · rintro v h2 ⟨rfl, nx, y, h1, ⟨rfl, ⟨sb, rfl, hsb⟩, S1, c1⟩, r2, c2⟩
      exact ⟨rfl, c0.trans (c1.trans (S1.frF c2)), { y with next := .func (.func 159) #[] #[.pointer (some ⟨sb, 0, none⟩)] }, ok, op, os, ow, S1.next r2 c2, ⟨sb, rfl, c2.blk hsb (by simp)⟩, hh⟩
  | 2, ⟨S, ⟨sb, hn, hsb⟩, hh⟩ =>
    refine (aStep_of (cap := [.pointer (some ⟨sb, 0, none⟩)]) (K := fun _ => True) (x' := x) (M' := { M with cells := M.cells.set 1 260, locks := M.locks.set 1 9, t := M.t + 1 + 1 + 1 }) (E' := { E with mark := ((M.t + 1 + 1 + 1 : Nat) : Int), fin := ((M.t + 1 + 1 + 1 : Nat) : Int), ans := 1 }) (.func (.func 187) #[] #[]) false S hn (.inr ⟨_, _, rfl, rfl⟩) ((aRead1_spec S hsb op os hP hlc (by show M.t + 1 + 1 < 900000; omega)).mono ?_) (fun _ _ _ _ => trivial)).mono ?_
    · rintro v h1 ⟨rfl, S1, c1⟩
      exact ⟨rfl, S1, c1, trivial⟩
    · rintro v h1 ⟨rfl, S1, c1, _⟩
      exact ⟨rfl, c0.trans c1, { x with next := .func (.func 187) #[] #[] }, ok, op, os, ow, _, rfl, S1, rfl, hh⟩
  | 3, ⟨E', he, S, hn, hh⟩ =>
    refine (aStep_of (cap := []) (K := fun _ => True) (x' := { x with held := 0 }) (M' := { M with cells := M.cells.set 1 260, locks := (M.locks.set 1 9).set 1 (-1), t := M.t + 1 + 1 + 1 + 1 }) (E' := E') .nilFunc true S hn (.inl ⟨rfl, rfl⟩) ((aUnlock_spec (k := 0) S hh (p := 1) rfl hP (by rw [ow]; exact List.getElem?_set_self hlt) (by show M.t + 1 + 1 + 1 < 900000; omega)).mono ?_) (fun _ _ _ _ => trivial)).mono ?_
    · rintro v h1 ⟨rfl, S1, c1⟩
      exact ⟨rfl, S1, c1, trivial⟩
    · rintro v h1 ⟨rfl, S1, c1, _⟩
      exact ⟨rfl, c0.trans c1, { x with held := 0, next := .nilFunc }, ok, op, os, ow, E', he, S1, rfl⟩
end Go.Proofs.YthoikbogkhpciaaGreatE
/- What the law's own look of layer 19 answers. Conditions: none. -/
set_option linter.unusedVariables false
set_option linter.unusedSimpArgs false
set_option maxRecDepth 100000
namespace Go.Proofs.YthoikbogkhpciaaGreatE
open Go Go.Proofs
section
variable {h h' : Heap} {B : Nat} {F : Fb} {ab : Nat} {x : CaV} {ls : List Nat} {M : MemS} {E : He}
theorem r12Bound_spec {s : Sz} (o : s.Ok) {tries : Int} (t1 : 1 ≤ tries) (t2 : tries ≤ 8) : HCalls Tryz.prog 74 #[.agg #[.int .i64 s.sh, .int .i64 s.bk, .int .i64 s.sl], .int .i64 tries] h (fun v h' => ∃ n : Int, 1 ≤ n ∧ n ≤ 20000 ∧ v = .int .i64 n ∧ Ext h h') := by
  refine xcalls env0 Tryz.func74 rfl (by kernel_rfl) rfl (by kernel_rfl) ?_
  intro zb h1 n1
  refine ⟨_, rfl, reads_all n1.this, ?_⟩
  refine (rbRight_spec s).mono ?_
  rintro v h2 ⟨rfl, x2⟩
  refine xif_false (by rw [o.right]; rfl) ?_
  refine xif_false (decide_eq_false ?_) ?_
  · show ¬ tries < 1
    omega
  refine xif_false (decide_eq_false ?_) ?_
  · show ¬ tries > 8
    omega
  have hz := x2.blk n1.this
  repeat (first | refine ⟨_, cell_blk (hz) rfl, ?_⟩)
  obtain ⟨a, b, c, d, e, f⟩ := o
  obtain ⟨p1, p2⟩ := mul_bd (a := tries) (b := 4 + 4 * s.sl) (m := 8) (n := 36) (by omega) t2 (by omega) (by omega)
  obtain ⟨q1, q2⟩ := mul_bd (a := s.bk) (b := 8 + 8 * s.sl) (m := 16) (n := 72) (by omega) (by omega) (by omega) (by omega)
  obtain ⟨r1, r2⟩ := mul_bd (a := s.sh) (b := 4 + s.bk * (8 + 8 * s.sl)) (m := 8) (n := 4 + 16 * 72) (by omega) (by omega) (by omega) (by omega)
  refine ⟨16 + tries * (4 + 4 * s.sl) + s.sh * (4 + s.bk * (8 + 8 * s.sl)), by omega, by omega, congrArg (Value.int .i64) ?_, n1.ext.trans x2⟩
  rw [wrap_i64 (x := 4 * s.sl) (by omega) (by omega), wrap_i64 (x := 4 + 4 * s.sl) (by omega) (by omega), wrap_i64 (x := tries * (4 + 4 * s.sl)) (by omega) (by omega), wrap_i64 (x := 16 + tries * (4 + 4 * s.sl)) (by omega) (by omega), wrap_i64 (x := 8 * s.sl) (by omega) (by omega), wrap_i64 (x := 8 + 8 * s.sl) (by omega) (by omega), wrap_i64 (x := s.bk * (8 + 8 * s.sl)) (by omega) (by omega), wrap_i64 (x := 4 + s.bk * (8 + 8 * s.sl)) (by omega) (by omega), wrap_i64 (x := s.sh * (4 + s.bk * (8 + 8 * s.sl))) (by omega) (by omega), wrap_i64 (by omega) (by omega)]
/-- Enough steps for a plan that was made to be one. -/
theorem rBound19_big {A B : Option Addr} {ca cb : Nat} {rules : List Ru} {vls : List Vl} {s : Sz} {P tries ring normal short : Int} (hra : Row encRu 2 h A (fixRules P rules)) (hrb : Row encVl 3 h B (fixVlans P vls)) (wf : ∀ v ∈ vls, SetWf v.mem ∧ SetWf v.unt) :
    HCalls Tryz.prog 28 #[.agg (planV (fixPorts P) (.slice A (fixPorts P).toNat ca) (.slice B (fixVlans P vls).length cb) (fixSz s) (fixTries tries) (fixRing ring) normal short).toArray] h (fun v h' => ∃ n : Nat, 64 ≤ n ∧ n < 100000 ∧ 64 + fixPorts P * (16 + 8 * fixRing ring) ≤ (n : Int) ∧ v = .int .i64 (n : Int) ∧ Ext h h') := by
  have pr := fixPorts_range P
  have tr := fixTries_range tries
  have rr := fixRing_range ring
  have hrl : (fixRules P rules).length = (fixPorts P).toNat := by unfold fixRules; simp
  have vl8 := fixVlans_len P vls
  have wfv : ∀ v ∈ fixVlans P vls, SetWf v.mem ∧ SetWf v.unt := fun v hv => fixVl_wf _ _ (fun v hv => wf v (List.mem_of_mem_take hv)) v hv
  refine xcalls env_rBound19 Tryz.func28 rfl (by kernel_rfl) rfl (by kernel_rfl) ?_
  intro zb h1 n1
  refine ⟨_, rfl, reads_all n1.this, ?_⟩
  refine (r17Check_spec (n1.ext.row hra) hrl (n1.ext.row hrb) rfl (by omega) (by omega) wfv).mono ?_
  rintro v h2 ⟨rfl, x2⟩
  rw [fix_check]
  have hz := x2.blk n1.this
  refine ⟨[.int .i64 (fixSz s).sh, .int .i64 (fixSz s).bk, .int .i64 (fixSz s).sl], rfl, reads_at hz rfl, ?_⟩
  repeat (first | refine ⟨_, cell_blk (hz) rfl, ?_⟩)
  refine (r12Bound_spec (fixSz_ok s) tr.1 tr.2).mono ?_
  rintro v h3 ⟨n, n1', n2', rfl, x3⟩
  have hz3 := x3.blk hz
  try (refine ⟨by ((repeat (first | refine ⟨cell_blk (hz3) rfl, ?_⟩)); exact trivial), ?_⟩)
  obtain ⟨q1, q2⟩ := mul_bd (a := fixPorts P) (b := 16 + 8 * fixRing ring) (m := 8) (n := 528) (by omega) (by omega) (by omega) (by omega)
  obtain ⟨m, hm⟩ : ∃ m : Nat, n + 64 + fixPorts P * (16 + 8 * fixRing ring) = m := ⟨_, (Int.toNat_of_nonneg (by omega)).symm⟩
  refine ⟨m, by omega, by omega, by omega, ?_, (n1.ext.trans x2).trans x3⟩
  show Value.int .i64 _ = _
  rw [wrap_i64 (x := n + 64) (by omega) (by omega), wrap_i64 (x := 8 * fixRing ring) (by omega) (by omega), wrap_i64 (x := 16 + 8 * fixRing ring) (by omega) (by omega), wrap_i64 (x := fixPorts P * (16 + 8 * fixRing ring)) (by omega) (by omega), wrap_i64 (by omega) (by omega), hm]
theorem rBound19_spec {A B : Option Addr} {ca cb : Nat} {rules : List Ru} {vls : List Vl} {s : Sz} {P tries ring normal short : Int} (hra : Row encRu 2 h A (fixRules P rules)) (hrb : Row encVl 3 h B (fixVlans P vls)) (wf : ∀ v ∈ vls, SetWf v.mem ∧ SetWf v.unt) :
    HCalls Tryz.prog 28 #[.agg (planV (fixPorts P) (.slice A (fixPorts P).toNat ca) (.slice B (fixVlans P vls).length cb) (fixSz s) (fixTries tries) (fixRing ring) normal short).toArray] h (fun v h' => ∃ n : Nat, 64 ≤ n ∧ n < 100000 ∧ v = .int .i64 (n : Int) ∧ Ext h h') := by
  refine (rBound19_big hra hrb wf).mono ?_
  rintro v h1 ⟨n, n1, n2, _, rfl, x⟩
  exact ⟨n, n1, n2, rfl, x⟩
end
theorem told19_spec {h : Heap} : HCalls Tryz.prog 23 #[] h (fun v h' => v = .bool true ∧ Ext h h') := by
  refine xcalls env0 Tryz.func23 rfl (by kernel_rfl) rfl (by kernel_rfl) ?_
  refine (rPFix_spec (A := none) (B := none) (ca := 0) (cb := 0) (P := 0) (tries := 0) (ring := 0) (normal := 0) (short := 0) (s := ⟨0, 0, 0⟩) (rules := []) (vls := []) Row.nil rfl Row.nil rfl (by simp)).mono ?_
  rintro v h1 ⟨A1, c1, B1, d1, rfl, oR, oV, x1⟩
  have oR : OwnA encRu 2 _ h.size h1 A1 c1 (fixRules 0 []) := oR
  have oV : OwnA encVl 3 _ h.size h1 B1 d1 (fixVlans 0 []) := oV
  intro ib h2 n2
  refine ⟨rfl, rfl, canset_blk n2.this rfl, fun h3 s3 => ?_⟩
  have hib : h3[ib]? = some (.cells (planV (fixPorts 0) (.slice A1 (fixPorts 0).toNat c1) (.slice B1 (fixVlans 0 []).length d1) (fixSz ⟨0, 0, 0⟩) (fixTries 0) (fixRing 0) 0 0).toArray 28 (0, 0)) := n2.fill rfl s3
  have x13 : Ext h1 h3 := n2.ext.stored s3 (n2.ge (Ext.refl _))
  refine ⟨_, rfl, reads_all hib, ?_⟩
  refine (lMake_fix ((oR.ext x13).row encRu_len) ((oV.ext x13).row encVl_len) (by simp)).mono ?_
  rintro v h4 ⟨F, M, rfl, eP, eS, p8, Fr0⟩
  have Fr := Fr0.mono (x1.trans x13)
  have x34 := Fr0.ext
  have p1 := Fr.fab.p1
  have Mt := Fr.t
  refine (cCommand_set (B := h.size) (who := 9) (port := 1) (state := 4) Fr.fab Fr.mem Fr.g1 Fr.g2 Fr.g3 Fr.ext.size (by rw [Fr.pr]; simp) (by decide) (by omega) rfl (by omega)).mono ?_
  rintro v h5 ⟨ab, x, rfl, S, xo, xw, xh, xn, x5⟩
  have x35 := x34.trans x5
  have hib5 := x35.blk hib
  refine ⟨_, rfl, reads_all hib5, ?_⟩
  refine (rBound19_spec (((oR.ext x13).ext x35).row encRu_len) (((oV.ext x13).ext x35).row encVl_len) (by simp)).mono ?_
  rintro v h6 ⟨most, m1, m2, rfl, x6⟩
  have Q0 : Set1 h6 h.size F ab M _ 0 h6 := ⟨ChgT.refl _, x, by rw [xo], by rw [xo], by rw [xo], xw, S.ext x6, xn, xh⟩
  refine (lFinish_spec (n := 4) (by decide) (by omega) m2 Q0 (fun k hk g Q => set1_step (by omega) (Fr.locks 1 (by omega)) (Fr.low 1 (by omega)) (by omega) hk Q) ?_).mono ?_
  · rintro g ⟨_, y, _, _, _, _, E', _, Sg, hn⟩
    exact aOver_nil Sg.raw hn
  rintro v h7 ⟨rfl, c7, y, _, _, _, _, E', hE, S7, hn7⟩
  have x06 : Ext h h6 := (Fr.ext.trans x5).trans x6
  have x07 : Ext h h7 := c7.ext x06
  refine (aAnswer_spec S7 hn7).mono ?_
  rintro v h8 ⟨rfl, rfl⟩
  rw [hE]
  refine (aLog_spec S7).mono ?_
  rintro v h9 ⟨A9, c9, rfl, x9⟩
  have S9 := S7.ext x9
  have hlc : 1 < M.cells.length := (List.getElem?_eq_some_iff.1 (Fr.low 1 (by omega))).1
  have hll : 0 < M.locks.length := (List.getElem?_eq_some_iff.1 (Fr.locks 0 (by omega))).1
  refine (cStand_260 S9.fab S9.mem (p := 1) (by omega) (by show (M.cells.set 1 260)[1]? = some 260; exact List.getElem?_set_self hlc) (by show M.t + 1 + 1 + 1 + 1 < 1000000; omega)).mono ?_
  rintro v h10 ⟨rfl, m10, c10⟩
  have S10 := S9.memory (c10.mono (by first | (simp; done) | (intro p hp; simp [hp]; done) | (simp [ML]; done) | (intro p hp; simp [ML] at hp ⊢; rcases hp with h | h | h <;> simp [h]; done))) m10
  refine (cStand_spec S10.fab S10.mem (p := 0) (by omega) (by show (M.cells.set 1 260)[0]? = some 0; rw [List.getElem?_set_ne (by decide)]; exact Fr.low 0 (by omega)) (by show M.t + 1 + 1 + 1 + 1 + 1 < 1000000; omega)).mono ?_
  rintro v h11 ⟨rfl, m11, c11⟩
  have S11 := S10.memory (c11.mono (by first | (simp; done) | (intro p hp; simp [hp]; done) | (simp [ML]; done) | (intro p hp; simp [ML] at hp ⊢; rcases hp with h | h | h <;> simp [h]; done))) m11
  refine (cTake_spec S11.fab S11.mem (p := 0) (who := 1) (by omega) (by show ((M.locks.set 1 9).set 1 (-1))[0]? = some (-1); rw [List.getElem?_set_ne (by decide), List.getElem?_set_ne (by decide)]; exact Fr.locks 0 (by omega)) (by decide) (by show M.t + 1 + 1 + 1 + 1 + 1 + 1 < 1000000; omega)).mono ?_
  rintro v h12 ⟨rfl, m12, c12⟩
  have S12 := S11.memory c12 m12
  have l12 : (((M.locks.set 1 9).set 1 (-1)).set 0 1)[0]? = some 1 := List.getElem?_set_self (by rw [List.length_set, List.length_set]; exact hll)
  refine (cTake_no S12.fab S12.mem (p := 0) (who := 2) (a := 1) (by omega) l12 (by decide) (by decide) (by show M.t + 1 + 1 + 1 + 1 + 1 + 1 + 1 < 1000000; omega)).mono ?_
  rintro v h13 ⟨rfl, m13, c13⟩
  have S13 := S12.memory c13 m13
  refine (cFree_spec S13.fab S13.mem (p := 0) (who := 1) (by omega) l12 (by decide) (by show M.t + 1 + 1 + 1 + 1 + 1 + 1 + 1 + 1 < 1000000; omega)).mono ?_
  rintro v h14 ⟨rfl, m14, c14⟩
  exact ⟨rfl, (S13.frM c14).ext ((S12.frM c13).ext ((S11.frM c12).ext ((S10.frM (c11.mono (by first | (simp; done) | (intro p hp; simp [hp]; done) | (simp [ML]; done) | (intro p hp; simp [ML] at hp ⊢; rcases hp with h | h | h <;> simp [h]; done)))).ext ((S9.frM (c10.mono (by first | (simp; done) | (intro p hp; simp [hp]; done) | (simp [ML]; done) | (intro p hp; simp [ML] at hp ⊢; rcases hp with h | h | h <;> simp [h]; done)))).ext (x07.trans x9)))))⟩
end Go.Proofs.YthoikbogkhpciaaGreatE
