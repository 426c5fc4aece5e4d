/- A port is set, and it is told: what the law's own look answers. Conditions: none. -/
import Derived.Test.YtjjempefncgfhaaGreatDoorXG3
import Derived.Test.YtjjempefncgfhaaGreatDoorXQ1
set_option linter.unusedVariables false
set_option linter.unusedSimpArgs false
set_option maxRecDepth 100000
namespace Go.Proofs.YtjjempefncgfhaaGreatDoorE
open Go Go.Proofs
def env_lFix19 : Nat → Ann
  | 5 => ⟨.nil, [], true⟩
  | 7 => ⟨.op 0 [] <| .op 1 [] <| .op 2 [] <| .op 3 [] <| .op 4 [] <| .op 5 [] <| .op 6 [] <| .op 7 [] <| .op 8 [] <| .op 9 [] <| .op 10 [] <| .op 11 [] <| .op 12 [] <| .op 13 [] <| .op 14 [] <| .op 15 [] <| .nil, [0, 1, 0, 4, 12, 0, 32, 96, 224, 508, 1020, 2047, 4095, 8191, 16383, 32767], false⟩
  | 8 => ⟨.nil, [], true⟩
  | 10 => ⟨.nil, [], true⟩
  | _ => ⟨.nil, [], false⟩
def env_cMembers : Nat → Ann
  | 4 => ⟨.op 0 [] <| .op 1 [] <| .op 2 [] <| .op 3 [] <| .op 4 [] <| .op 5 [] <| .op 6 [3] <| .op 7 [] <| .op 8 [] <| .nil, [0, 1, 3, 7, 0, 0, 48, 127, 255], false⟩
  | _ => ⟨.nil, [], false⟩
def env_rBound19 : Nat → Ann
  | 3 => ⟨.op 0 [] <| .op 1 [] <| .op 2 [] <| .op 3 [] <| .op 6 [] <| .op 7 [] <| .op 8 [] <| .op 9 [] <| .op 10 [] <| .op 11 [] <| .op 12 [] <| .op 4 [7, 9] <| .op 5 [] <| .op 13 [] <| .op 14 [] <| .nil, [0, 1, 0, 4, 15, 31, 0, 64, 0, 256, 768, 1792, 4032, 8191, 16383], false⟩
  | _ => ⟨.nil, [], false⟩
section
variable {h h' : Heap} {B : Nat} {F : Fb} {ab : Nat} {x : CaV} {ls : List Nat} {M : MemS} {E : He}
theorem CaS.next (S : CaS h B F ab x ls M E) {nx : Value} (r : CaRaw h' ab { x with next := nx }) (c : Chg [(ab, 200)] h h') : CaS h' B F ab { x with next := nx } ls M E := S.field c r rfl rfl rfl rfl rfl rfl rfl rfl
/-- A step, told by what its function does. -/
theorem aStep_of {f : Nat} {cap : List Value} (nx : Value) (b : Bool) {x' : CaV} {M' : MemS} {E' : He} {K : Heap → Prop} (S : CaS h B F ab x ls M E) (hn : x.next = .func (.func f) #[] cap.toArray) (hnx : (nx = .nilFunc ∧ b = true) ∨ ∃ (g : Nat) (c : Array Value), nx = .func (.func g) #[] c ∧ b = false)
    (hf : HCalls Tryz.prog f (Value.pointer (some ⟨ab, 0, none⟩) :: cap).toArray h (fun v h' => v = nx ∧ CaS h' B F ab x' ls M' E' ∧ ChgT B TyC h h' ∧ K h')) (hK : ∀ g g', Chg [(ab, 200)] g g' → K g → K g') :
    HCalls Tryz.prog 31 #[.pointer (some ⟨ab, 0, none⟩)] h (fun v h' => v = .bool b ∧ CaS h' B F ab { x' with next := nx } ls M' E' ∧ ChgT B TyC h h' ∧ K h') := by
  refine (aStep_spec nx b (K := fun y g => y = x' ∧ CaS g B F ab x' ls M' E' ∧ ChgT B TyC h g ∧ K g) S.raw hn hnx (hf.mono ?_)).mono ?_
  · rintro v h1 ⟨rfl, S1, c1, k1⟩
    exact ⟨rfl, x', S1.raw, rfl, S1, c1, k1⟩
  · rintro v h2 ⟨rfl, y, h1, ⟨rfl, S1, c1, k1⟩, r2, c2⟩
    exact ⟨rfl, S1.next r2 c2, c1.trans (S1.frF c2), hK _ _ c2 k1⟩
/-- A step behind which something is to be done, whatever it is. -/
theorem aStep_go {f : Nat} {cap : List Value} {K : Value → CaV → Heap → Prop} (H : CaRaw h ab x) (hn : x.next = .func (.func f) #[] cap.toArray)
    (hf : HCalls Tryz.prog f (Value.pointer (some ⟨ab, 0, none⟩) :: cap).toArray h (fun v h' => ∃ (g : Nat) (c : Array Value), v = .func (.func g) #[] c ∧ ∃ x', CaRaw h' ab x' ∧ K v x' h')) :
    HCalls Tryz.prog 31 #[.pointer (some ⟨ab, 0, none⟩)] h (fun v h' => v = .bool false ∧ ∃ nx x' h1, K nx x' h1 ∧ CaRaw h' ab { x' with next := nx } ∧ Chg [(ab, 200)] h1 h') := by
  have hov := aOver_fn H hn
  obtain ⟨f', who, o, next, gA, gn, gc, kA, kn, kc, held, from_, pop, act⟩ := x
  simp only at hn
  subst hn
  refine xcalls env0 Tryz.func31 rfl (by kernel_rfl) rfl (by kernel_rfl) ?_
  refine hov.mono ?_
  rintro v h1 ⟨rfl, rfl⟩
  repeat (first | refine ⟨_, cell_blk (H) rfl, ?_⟩)
  refine hf.mono ?_
  rintro v h2 ⟨g, c, rfl, x', H2, k⟩
  obtain ⟨f', who, o, next, gA, gn, gc, kA, kn, kc, held, from_, pop, act⟩ := x'
  refine ⟨rfl, rfl, canset_blk H2 rfl, fun h3 s3 => ?_⟩
  have H3 : CaRaw h3 ab ⟨f', who, o, .func (.func g) #[] c, gA, gn, gc, kA, kn, kc, held, from_, pop, act⟩ := s3.put H2
  refine (aOver_fn H3 rfl).mono ?_
  rintro v h4 ⟨rfl, rfl⟩
  exact ⟨rfl, _, _, h2, k, H3, s3.chg H2 (.head _)⟩
/-- A lock that another one has isn't given. -/
theorem mPass_no (H : MemAt h F.mb F.cb F.lb M) {i : Nat} {a b c : Int} (hx : M.locks[i]? = some a) (hne : a ≠ b) (ht : M.t < 1000000) : HCalls Tryz.prog 222 #[.pointer (some ⟨F.mb, 0, none⟩), .int .i64 i, .int .i64 b, .int .i64 c] h (fun v h' => v = .bool false ∧ MemAt h' F.mb F.cb F.lb { M with t := M.t + 1 } ∧ Chg (ML F.mb F.cb F.lb) h h') := by
  have hi : i < M.locks.length := (List.getElem?_eq_some_iff.1 hx).1
  refine xcalls env0 Tryz.func222 rfl (by kernel_rfl) rfl (by kernel_rfl) ?_
  refine ⟨_, cell_blk H.mem rfl, rfl, rfl, canset_blk H.mem rfl, fun h2 s2 => ?_⟩
  obtain ⟨H2, c2⟩ := H.tick ht s2
  refine ⟨_, cell_blk H2.mem rfl, _, rfl, Int.natCast_nonneg i, Int.ofNat_lt.2 hi, _, H2.lockd' hx, ?_⟩
  refine xif_true ?_ ?_
  · show (a != b) = true
    simpa using hne
  exact ⟨rfl, H2, c2.mono (by simp [ML])⟩
theorem mTake_no (H : MemAt h F.mb F.cb F.lb M) {i : Nat} {a who : Int} (hx : M.locks[i]? = some a) (ha : a ≠ -1) (hw : 0 ≤ who) (ht : M.t < 1000000) : HCalls Tryz.prog 185 #[.pointer (some ⟨F.mb, 0, none⟩), .int .i64 i, .int .i64 who] h (fun v h' => v = .bool false ∧ MemAt h' F.mb F.cb F.lb { M with t := M.t + 1 } ∧ Chg (ML F.mb F.cb F.lb) h h') := by
  have hi : i < M.locks.length := (List.getElem?_eq_some_iff.1 hx).1
  refine xcalls env0 Tryz.func185 rfl (by kernel_rfl) rfl (by kernel_rfl) ?_
  refine (mLock_spec H i).mono ?_
  rintro v h1 ⟨rfl, rfl⟩
  have e : (decide (0 ≤ (i : Int)) && decide ((i : Int) < M.locks.length)) = true := by
    rw [decide_eq_true (by omega), decide_eq_true (by omega)]; rfl
  refine xif_true e ?_
  refine xif_true (decide_eq_true ?_) ?_
  · exact hw
  refine (mPass_no H hx ha ht).mono ?_
  rintro v h2 ⟨rfl, r⟩
  exact ⟨rfl, r⟩
theorem cTake_no (H : FabAt h F) (HM : MemAt h F.mb F.cb F.lb M) {p : Nat} {a who : Int} (hp : p < F.P) (hx : M.locks[p]? = some a) (ha : a ≠ -1) (hw : 0 ≤ who) (ht : M.t < 1000000) : HCalls Tryz.prog 134 #[.pointer (some ⟨F.fb, 0, none⟩), .int .i64 p, .int .i64 who] h (fun v h' => v = .bool false ∧ MemAt h' F.mb F.cb F.lb { M with t := M.t + 1 } ∧ Chg (ML F.mb F.cb F.lb) h h') := by
  obtain ⟨RA, rc, hb', hr⟩ := H.blk
  refine xcalls env0 Tryz.func134 rfl (by kernel_rfl) rfl (by kernel_rfl) ?_
  refine (cHas_spec H p).mono ?_
  rintro v h1 ⟨rfl, rfl⟩
  refine xif_true (has_yes hp) ?_
  repeat (first | refine ⟨_, cell_blk (hb') rfl, ?_⟩)
  refine (mTake_no HM hx ha hw ht).mono ?_
  rintro v h1 ⟨rfl, r⟩
  exact ⟨rfl, r⟩
end
/-- Port 1 is set: how all is, step by step. -/
def Set1 (h0 : Heap) (B : Nat) (F : Fb) (ab : Nat) (M : MemS) (E : He) (k : Nat) (h : Heap) : Prop :=
  ChgT B TyC h0 h ∧ ∃ x, x.o.kind = 8 ∧ x.o.port = ((1 : Nat) : Int) ∧ x.o.state = 4 ∧ x.who = 9 ∧ match k with
    | 0 => CaS h B F ab x [1] M E ∧ x.next = .func (.func 81) #[] #[] ∧ x.held = 0
    | 1 => CaS h B F ab x [1] { M with locks := M.locks.set 1 9, t := M.t + 1 } E ∧ x.next = .func (.func 136) #[] #[] ∧ x.held = 1
    | 2 => CaS h B F ab x [1] { M with locks := M.locks.set 1 9, t := M.t + 1 + 1 } E ∧ (∃ sb, x.next = .func (.func 189) #[] #[.pointer (some ⟨sb, 0, none⟩)] ∧ h[sb]? = some (.cells [Value.int .i64 0, Value.int .u32 0].toArray 167 (0, 0))) ∧ x.held = 1
    | 3 => ∃ E', E'.ans = 1 ∧ CaS h B F ab x [1] { M with cells := M.cells.set 1 260, locks := M.locks.set 1 9, t := M.t + 1 + 1 + 1 } E' ∧ x.next = .func (.func 224) #[] #[] ∧ x.held = 1
    | 4 => ∃ E', E'.ans = 1 ∧ CaS h B F ab x [1] { M with cells := M.cells.set 1 260, locks := (M.locks.set 1 9).set 1 (-1), t := M.t + 1 + 1 + 1 + 1 } E' ∧ x.next = .nilFunc
    | _ => False
theorem set1_step {h0 h : Heap} {B : Nat} {F : Fb} {ab : Nat} {M : MemS} {E : He} (hP : 1 < F.P) (hl : M.locks[1]? = some (-1)) (hz : M.cells[1]? = some 0) (ht : M.t < 800000) {k : Nat} (hk : k < 4) (H : Set1 h0 B F ab M E k h) :
    HCalls Tryz.prog 31 #[.pointer (some ⟨ab, 0, none⟩)] h (fun v h' => v = .bool (k + 1 == 4) ∧ Set1 h0 B F ab M E (k + 1) h') := by
  have hlt : 1 < M.locks.length := (List.getElem?_eq_some_iff.1 hl).1
  have hlc : 1 < M.cells.length := (List.getElem?_eq_some_iff.1 hz).1
  obtain ⟨c0, x, ok, op, os, ow, H⟩ := H
  match k, H with
  | 0, ⟨S, hn, hh⟩ =>
    refine (aStep_of (cap := []) (K := fun _ => True) (x' := { x with held := x.held + 1 }) (M' := { M with locks := M.locks.set 1 x.who, t := M.t + 1 }) (E' := E) (.func (.func 136) #[] #[]) false S hn (.inr ⟨_, _, rfl, rfl⟩) ((aLock_spec S (p := 1) (by rw [hh]; rfl) hP hl (by omega)).mono ?_) (fun _ _ _ _ => trivial)).mono ?_
    · rintro v h1 ⟨rfl, S1, c1⟩
      refine ⟨?_, S1, c1, trivial⟩
      rw [if_neg (by rw [hh]; decide), if_neg (by rw [ok]; decide)]
    · rintro v h1 ⟨rfl, S1, c1, _⟩
      have hM : (⟨M.cells, M.locks.set 1 x.who, M.t + 1⟩ : MemS) = ⟨M.cells, M.locks.set 1 9, M.t + 1⟩ := by rw [ow]
      rw [hM] at S1
      exact ⟨rfl, c0.trans c1, { x with held := x.held + 1, next := .func (.func 136) #[] #[] }, ok, op, os, ow, S1, rfl, by show x.held + 1 = 1; rw [hh]⟩
  | 1, ⟨S, hn, hh⟩ =>
    refine (aStep_go (cap := []) (K := fun nx y g => y = x ∧ (∃ sb, nx = .func (.func 189) #[] #[.pointer (some ⟨sb, 0, none⟩)] ∧ g[sb]? = some (.cells [Value.int .i64 0, Value.int .u32 0].toArray 167 (0, 0))) ∧ CaS g B F ab x [1] { M with locks := M.locks.set 1 9, t := M.t + 1 + 1 } E ∧ ChgT B TyC h g) S.raw hn ((aRead_spec S op hP hz (by show M.t + 1 < 900000; omega)).mono ?_)).mono ?_
    · rintro v h1 ⟨sb, rfl, hsb, S1, c1⟩
      exact ⟨_, _, rfl, x, S1.raw, rfl, ⟨sb, rfl, hsb⟩, S1, c1⟩
    · rintro v h2 ⟨rfl, nx, y, h1, ⟨rfl, ⟨sb, rfl, hsb⟩, S1, c1⟩, r2, c2⟩
      exact ⟨rfl, c0.trans (c1.trans (S1.frF c2)), { y with next := .func (.func 189) #[] #[.pointer (some ⟨sb, 0, none⟩)] }, ok, op, os, ow, S1.next r2 c2, ⟨sb, rfl, c2.blk hsb (by simp)⟩, hh⟩
  | 2, ⟨S, ⟨sb, hn, hsb⟩, hh⟩ =>
    refine (aStep_of (cap := [.pointer (some ⟨sb, 0, none⟩)]) (K := fun _ => True) (x' := x) (M' := { M with cells := M.cells.set 1 260, locks := M.locks.set 1 9, t := M.t + 1 + 1 + 1 }) (E' := { E with mark := ((M.t + 1 + 1 + 1 : Nat) : Int), fin := ((M.t + 1 + 1 + 1 : Nat) : Int), ans := 1 }) (.func (.func 224) #[] #[]) false S hn (.inr ⟨_, _, rfl, rfl⟩) ((aRead1_spec S hsb op os hP hlc (by show M.t + 1 + 1 < 900000; omega)).mono ?_) (fun _ _ _ _ => trivial)).mono ?_
    · rintro v h1 ⟨rfl, S1, c1⟩
      exact ⟨rfl, S1, c1, trivial⟩
    · rintro v h1 ⟨rfl, S1, c1, _⟩
      exact ⟨rfl, c0.trans c1, { x with next := .func (.func 224) #[] #[] }, ok, op, os, ow, _, rfl, S1, rfl, hh⟩
  | 3, ⟨E', he, S, hn, hh⟩ =>
    refine (aStep_of (cap := []) (K := fun _ => True) (x' := { x with held := 0 }) (M' := { M with cells := M.cells.set 1 260, locks := (M.locks.set 1 9).set 1 (-1), t := M.t + 1 + 1 + 1 + 1 }) (E' := E') .nilFunc true S hn (.inl ⟨rfl, rfl⟩) ((aUnlock_spec (k := 0) S hh (p := 1) rfl hP (by rw [ow]; exact List.getElem?_set_self hlt) (by show M.t + 1 + 1 + 1 < 900000; omega)).mono ?_) (fun _ _ _ _ => trivial)).mono ?_
    · rintro v h1 ⟨rfl, S1, c1⟩
      exact ⟨rfl, S1, c1, trivial⟩
    · rintro v h1 ⟨rfl, S1, c1, _⟩
      exact ⟨rfl, c0.trans c1, { x with held := 0, next := .nilFunc }, ok, op, os, ow, E', he, S1, rfl⟩
end Go.Proofs.YtjjempefncgfhaaGreatDoorE
/- What the law's own look of layer 19 answers. Conditions: none. -/
set_option linter.unusedVariables false
set_option linter.unusedSimpArgs false
set_option maxRecDepth 100000
namespace Go.Proofs.YtjjempefncgfhaaGreatDoorE
open Go Go.Proofs
section
variable {h h' : Heap} {B : Nat} {F : Fb} {ab : Nat} {x : CaV} {ls : List Nat} {M : MemS} {E : He}
theorem r12Bound_spec {s : Sz} (o : s.Ok) {tries : Int} (t1 : 1 ≤ tries) (t2 : tries ≤ 8) : HCalls Tryz.prog 55 #[.agg #[.int .i64 s.sh, .int .i64 s.bk, .int .i64 s.sl], .int .i64 tries] h (fun v h' => ∃ n : Int, 1 ≤ n ∧ n ≤ 20000 ∧ v = .int .i64 n ∧ Ext h h') := by
  refine xcalls env0 Tryz.func55 rfl (by kernel_rfl) rfl (by kernel_rfl) ?_
  intro zb h1 n1
  refine ⟨_, rfl, reads_all n1.this, ?_⟩
  refine (rbRight_spec s).mono ?_
  rintro v h2 ⟨rfl, x2⟩
  refine xif_false (by rw [o.right]; rfl) ?_
  refine xif_false (decide_eq_false ?_) ?_
  · show ¬ tries < 1
    omega
  refine xif_false (decide_eq_false ?_) ?_
  · show ¬ tries > 8
    omega
  have hz := x2.blk n1.this
  repeat (first | refine ⟨_, cell_blk (hz) rfl, ?_⟩)
  obtain ⟨a, b, c, d, e, f⟩ := o
  obtain ⟨p1, p2⟩ := mul_bd (a := tries) (b := 4 + 4 * s.sl) (m := 8) (n := 36) (by omega) t2 (by omega) (by omega)
  obtain ⟨q1, q2⟩ := mul_bd (a := s.bk) (b := 8 + 8 * s.sl) (m := 16) (n := 72) (by omega) (by omega) (by omega) (by omega)
  obtain ⟨r1, r2⟩ := mul_bd (a := s.sh) (b := 4 + s.bk * (8 + 8 * s.sl)) (m := 8) (n := 4 + 16 * 72) (by omega) (by omega) (by omega) (by omega)
  refine ⟨16 + tries * (4 + 4 * s.sl) + s.sh * (4 + s.bk * (8 + 8 * s.sl)), by omega, by omega, congrArg (Value.int .i64) ?_, n1.ext.trans x2⟩
  rw [wrap_i64 (x := 4 * s.sl) (by omega) (by omega), wrap_i64 (x := 4 + 4 * s.sl) (by omega) (by omega), wrap_i64 (x := tries * (4 + 4 * s.sl)) (by omega) (by omega), wrap_i64 (x := 16 + tries * (4 + 4 * s.sl)) (by omega) (by omega), wrap_i64 (x := 8 * s.sl) (by omega) (by omega), wrap_i64 (x := 8 + 8 * s.sl) (by omega) (by omega), wrap_i64 (x := s.bk * (8 + 8 * s.sl)) (by omega) (by omega), wrap_i64 (x := 4 + s.bk * (8 + 8 * s.sl)) (by omega) (by omega), wrap_i64 (x := s.sh * (4 + s.bk * (8 + 8 * s.sl))) (by omega) (by omega), wrap_i64 (by omega) (by omega)]
/-- Enough steps for a plan that was made to be one. -/
theorem rBound19_big {A B : Option Addr} {ca cb : Nat} {rules : List Ru} {vls : List Vl} {s : Sz} {P tries ring normal short : Int} (hra : Row encRu 2 h A (fixRules P rules)) (hrb : Row encVl 3 h B (fixVlans P vls)) (wf : ∀ v ∈ vls, SetWf v.mem ∧ SetWf v.unt) :
    HCalls Tryz.prog 30 #[.agg (planV (fixPorts P) (.slice A (fixPorts P).toNat ca) (.slice B (fixVlans P vls).length cb) (fixSz s) (fixTries tries) (fixRing ring) normal short).toArray] h (fun v h' => ∃ n : Nat, 64 ≤ n ∧ n < 100000 ∧ 64 + fixPorts P * (16 + 8 * fixRing ring) ≤ (n : Int) ∧ v = .int .i64 (n : Int) ∧ Ext h h') := by
  have pr := fixPorts_range P
  have tr := fixTries_range tries
  have rr := fixRing_range ring
  have hrl : (fixRules P rules).length = (fixPorts P).toNat := by unfold fixRules; simp
  have vl8 := fixVlans_len P vls
  have wfv : ∀ v ∈ fixVlans P vls, SetWf v.mem ∧ SetWf v.unt := fun v hv => fixVl_wf _ _ (fun v hv => wf v (List.mem_of_mem_take hv)) v hv
  refine xcalls env_rBound19 Tryz.func30 rfl (by kernel_rfl) rfl (by kernel_rfl) ?_
  intro zb h1 n1
  refine ⟨_, rfl, reads_all n1.this, ?_⟩
  refine (r17Check_spec (n1.ext.row hra) hrl (n1.ext.row hrb) rfl (by omega) (by omega) wfv).mono ?_
  rintro v h2 ⟨rfl, x2⟩
  rw [fix_check]
  have hz := x2.blk n1.this
  refine ⟨[.int .i64 (fixSz s).sh, .int .i64 (fixSz s).bk, .int .i64 (fixSz s).sl], rfl, reads_at hz rfl, ?_⟩
  repeat (first | refine ⟨_, cell_blk (hz) rfl, ?_⟩)
  refine (r12Bound_spec (fixSz_ok s) tr.1 tr.2).mono ?_
  rintro v h3 ⟨n, n1', n2', rfl, x3⟩
  have hz3 := x3.blk hz
  try (refine ⟨by ((repeat (first | refine ⟨cell_blk (hz3) rfl, ?_⟩)); exact trivial), ?_⟩)
  obtain ⟨q1, q2⟩ := mul_bd (a := fixPorts P) (b := 16 + 8 * fixRing ring) (m := 8) (n := 528) (by omega) (by omega) (by omega) (by omega)
  obtain ⟨m, hm⟩ : ∃ m : Nat, n + 64 + fixPorts P * (16 + 8 * fixRing ring) = m := ⟨_, (Int.toNat_of_nonneg (by omega)).symm⟩
  refine ⟨m, by omega, by omega, by omega, ?_, (n1.ext.trans x2).trans x3⟩
  show Value.int .i64 _ = _
  rw [wrap_i64 (x := n + 64) (by omega) (by omega), wrap_i64 (x := 8 * fixRing ring) (by omega) (by omega), wrap_i64 (x := 16 + 8 * fixRing ring) (by omega) (by omega), wrap_i64 (x := fixPorts P * (16 + 8 * fixRing ring)) (by omega) (by omega), wrap_i64 (by omega) (by omega), hm]
theorem rBound19_spec {A B : Option Addr} {ca cb : Nat} {rules : List Ru} {vls : List Vl} {s : Sz} {P tries ring normal short : Int} (hra : Row encRu 2 h A (fixRules P rules)) (hrb : Row encVl 3 h B (fixVlans P vls)) (wf : ∀ v ∈ vls, SetWf v.mem ∧ SetWf v.unt) :
    HCalls Tryz.prog 30 #[.agg (planV (fixPorts P) (.slice A (fixPorts P).toNat ca) (.slice B (fixVlans P vls).length cb) (fixSz s) (fixTries tries) (fixRing ring) normal short).toArray] h (fun v h' => ∃ n : Nat, 64 ≤ n ∧ n < 100000 ∧ v = .int .i64 (n : Int) ∧ Ext h h') := by
  refine (rBound19_big hra hrb wf).mono ?_
  rintro v h1 ⟨n, n1, n2, _, rfl, x⟩
  exact ⟨n, n1, n2, rfl, x⟩
end
end Go.Proofs.YtjjempefncgfhaaGreatDoorE
/- A VLAN is set, from the first lock to the last one: how all is, step by step. Conditions: all locks are free. -/
set_option linter.unusedVariables false
set_option linter.unusedSimpArgs false
set_option maxRecDepth 100000
namespace Go.Proofs.YtjjempefncgfhaaGreatDoorE
open Go Go.Proofs
theorem hasM_and {a b : Int} {q : Nat} (ha : SetWf a) (hb : SetWf b) : hasM (andM a b) q = (hasM a q && hasM b q) := by
  have e : (andM a b).toNat = a.toNat &&& b.toNat := by unfold andM; simp
  unfold hasM
  rw [e, Nat.testBit_and]
  cases decide (0 ≤ (q : Int) ∧ (q : Int) < 64) <;> simp
theorem hasM_all {P q : Nat} (hq : q < 64) : hasM (allM P) q = decide (q < P) := by
  unfold hasM
  rw [show decide (0 ≤ (q : Int) ∧ (q : Int) < 64) = true from decide_eq_true ⟨by omega, by omega⟩, Int.toNat_natCast, allM_bit hq, Bool.true_and]
  rw [Bool.eq_iff_iff, decide_eq_true_iff, decide_eq_true_iff]
  omega
theorem findV_mem {vid : Int} : ∀ (l : List Vl) (i : Nat), (∃ w ∈ l, w.vid = vid) → findV vid l i ≠ -1
  | [], _, ⟨_, h, _⟩ => by cases h
  | w :: l, i, ⟨y, hy, e⟩ => by
    unfold findV
    split
    · omega
    · rename_i hn
      rcases List.mem_cons.1 hy with h | h
      · subst h; exact absurd e hn
      · exact findV_mem l (i + 1) ⟨y, h, e⟩
/-- A VLAN is set: behind k steps. -/
def SetV (h0 : Heap) (B : Nat) (F : Fb) (ab : Nat) (M : MemS) (o : Op17) (who : Int) (i k : Nat) (h : Heap) : Prop :=
  ChgT B TyC h0 h ∧ ∃ x M' E, CaS h B F ab x (List.range F.P) M' E ∧ x.o = o ∧ x.who = who ∧ M'.t = M.t + k ∧ M'.locks.length = M.locks.length ∧ (∀ p, p < F.P → M'.locks[p]? = some (if p < x.held then who else -1)) ∧
    ((k ≤ F.P ∧ x.held = k ∧ M'.cells = M.cells ∧ x.next = .func (.func (if k < F.P then 81 else 135)) #[] #[]) ∨
     (k = F.P + 1 ∧ x.held = F.P ∧ M'.cells = M.cells.set (F.P + 2 * i + 1) (andM o.unt (andM o.mem (allM F.P))) ∧ x.next = .func (.func 187) #[] #[]) ∨
     ((E.ans = 1 ∧ 0 < E.mark) ∧ M'.cells = (M.cells.set (F.P + 2 * i + 1) (andM o.unt (andM o.mem (allM F.P)))).set (F.P + 2 * i) (andM o.mem (allM F.P)) ∧ ∃ j, k = F.P + 2 + j ∧ j ≤ F.P ∧ x.held = F.P - j ∧ x.next = if j < F.P then .func (.func 224) #[] #[] else .nilFunc))
theorem setV_step {h0 h : Heap} {B : Nat} {F : Fb} {ab : Nat} {M : MemS} {o : Op17} {who : Int} {i k : Nat} (hw : 0 ≤ who) (hk9 : o.kind = 9) (hi : findV o.vid F.vls 0 = (i : Int)) (hv : i < F.vls.length) (wm : SetWf o.mem) (wu : SetWf o.unt) (hc : F.P + 2 * i + 1 < M.cells.length) (ht : M.t < 800000) (hk : k < 2 * F.P + 2) (H : SetV h0 B F ab M o who i k h) :
    HCalls Tryz.prog 31 #[.pointer (some ⟨ab, 0, none⟩)] h (fun v h' => v = .bool (k + 1 == 2 * F.P + 2) ∧ SetV h0 B F ab M o who i (k + 1) h') := by
  obtain ⟨c0, x, M', E, S, xo, xw, hT, hL, hlk, H⟩ := H
  have p1 := S.fab.p1
  have p2 := S.fab.p2
  rcases H with ⟨hkP, hh, hcs, hn⟩ | ⟨hkP, hh, hcs, hn⟩ | ⟨hE, hcs, j, hkj, hj, hh, hn⟩
  · rcases Nat.lt_or_ge k F.P with h1 | h1
    · rw [if_pos h1] at hn
      have hl : M'.locks[k]? = some (-1) := by rw [hlk k h1, if_neg (by omega)]
      refine (aStep_of (cap := []) (K := fun _ => True) (x' := { x with held := x.held + 1 }) (M' := { M' with locks := M'.locks.set k x.who, t := M'.t + 1 }) (E' := E) (.func (.func (if k + 1 < F.P then 81 else 135)) #[] #[]) false S hn (.inr ⟨_, _, rfl, rfl⟩) ((aLock_spec S (p := k) (by rw [hh]; exact List.getElem?_range h1) h1 hl (by omega)).mono ?_) (fun _ _ _ _ => trivial)).mono ?_
      · rintro v h2 ⟨rfl, S1, c1⟩
        refine ⟨?_, S1, c1, trivial⟩
        rw [hh, List.length_range]
        by_cases h2 : k + 1 < F.P
        · rw [if_pos h2, if_pos h2]
        · rw [if_neg h2, if_neg h2, if_pos (by rw [xo]; exact hk9)]
      · rintro v h2 ⟨rfl, S1, c1, _⟩
        refine ⟨?_, c0.trans c1, _, _, _, S1, xo, xw, by show M'.t + 1 = M.t + (k + 1); omega, by show (M'.locks.set k x.who).length = _; rw [List.length_set]; exact hL, fun p hp => ?_, .inl ⟨h1, by show x.held + 1 = k + 1; rw [hh], hcs, rfl⟩⟩
        · rw [show (k + 1 == 2 * F.P + 2) = false from beq_eq_false_iff_ne.2 (by omega)]
        · show (M'.locks.set k x.who)[p]? = some (if p < x.held + 1 then who else -1)
          by_cases e : p = k
          · subst e
            rw [List.getElem?_set_self (List.getElem?_eq_some_iff.1 hl).1, if_pos (by omega), xw]
          · rw [List.getElem?_set_ne (Ne.symm e), hlk p hp]
            congr 1
            by_cases g : p < x.held
            · rw [if_pos g, if_pos (by omega)]
            · rw [if_neg g, if_neg (by omega)]
    · have e : k = F.P := by omega
      rw [if_neg (by omega)] at hn
      refine (aStep_of (cap := []) (K := fun _ => True) (x' := x) (M' := { M' with cells := M'.cells.set (F.P + 2 * i + 1) (andM x.o.unt (andM x.o.mem (allM F.P))), t := M'.t + 1 }) (E' := E) (.func (.func 187) #[] #[]) false S hn (.inr ⟨_, _, rfl, rfl⟩) ((aBare_spec S (i := i) (by rw [xo]; exact hi) hv (by rw [xo]; exact wm) (by rw [xo]; exact wu) (by rw [hcs]; exact hc) (by omega)).mono ?_) (fun _ _ _ _ => trivial)).mono ?_
      · rintro v h2 ⟨rfl, S1, c1⟩
        exact ⟨rfl, S1, c1, trivial⟩
      · rintro v h2 ⟨rfl, S1, c1, _⟩
        refine ⟨?_, c0.trans c1, _, _, _, S1, xo, xw, by show M'.t + 1 = M.t + (k + 1); omega, hL, hlk, .inr (.inl ⟨by omega, by rw [← e]; exact hh, ?_, rfl⟩)⟩
        · rw [show (k + 1 == 2 * F.P + 2) = false from beq_eq_false_iff_ne.2 (by omega)]
        · show M'.cells.set _ (andM x.o.unt (andM x.o.mem (allM F.P))) = _
          rw [hcs, xo]
  · refine (aStep_of (cap := []) (K := fun _ => True) (x' := x) (M' := { M' with cells := M'.cells.set (F.P + 2 * i) (andM x.o.mem (allM F.P)), t := M'.t + 1 }) (E' := { E with mark := ((M'.t + 1 : Nat) : Int), fin := ((M'.t + 1 : Nat) : Int), ans := 1 }) (.func (.func 224) #[] #[]) false S hn (.inr ⟨_, _, rfl, rfl⟩) ((aMembers_spec S (i := i) (by rw [xo]; exact hi) hv (by rw [xo]; exact wm) (by rw [hcs, List.length_set]; omega) (by omega)).mono ?_) (fun _ _ _ _ => trivial)).mono ?_
    · rintro v h2 ⟨rfl, S1, c1⟩
      exact ⟨rfl, S1, c1, trivial⟩
    · rintro v h2 ⟨rfl, S1, c1, _⟩
      refine ⟨?_, c0.trans c1, _, _, _, S1, xo, xw, by show M'.t + 1 = M.t + (k + 1); omega, hL, hlk, .inr (.inr ⟨⟨rfl, by show (0 : Int) < ((M'.t + 1 : Nat) : Int); omega⟩, ?_, 0, by omega, by omega, hh, by rw [if_pos (by omega)]⟩)⟩
      · rw [show (k + 1 == 2 * F.P + 2) = false from beq_eq_false_iff_ne.2 (by omega)]
      · show M'.cells.set _ (andM x.o.mem (allM F.P)) = _
        rw [hcs, xo]
  · have hjP : j < F.P := by omega
    rw [if_pos hjP] at hn
    obtain ⟨m, hm⟩ : ∃ m, F.P - j = m + 1 := ⟨F.P - j - 1, by omega⟩
    have hl : M'.locks[m]? = some x.who := by rw [hlk m (by omega), if_pos (by omega), xw]
    refine (aStep_of (cap := []) (K := fun _ => True) (x' := { x with held := m }) (M' := { M' with locks := M'.locks.set m (-1), t := M'.t + 1 }) (E' := E) (if 0 < m then .func (.func 224) #[] #[] else .nilFunc) (decide (m = 0)) S hn ?_ ((aUnlock_spec S (k := m) (by rw [hh, hm]) (p := m) (List.getElem?_range (by omega)) (by omega) hl (by omega)).mono ?_) (fun _ _ _ _ => trivial)).mono ?_
    · by_cases g : 0 < m
      · rw [if_pos g]
        exact .inr ⟨_, _, rfl, decide_eq_false (by omega)⟩
      · rw [if_neg g]
        exact .inl ⟨rfl, decide_eq_true (by omega)⟩
    · rintro v h2 ⟨rfl, S1, c1⟩
      exact ⟨rfl, S1, c1, trivial⟩
    · rintro v h2 ⟨rfl, S1, c1, _⟩
      refine ⟨?_, c0.trans c1, _, _, _, S1, xo, xw, by show M'.t + 1 = M.t + (k + 1); omega, by show (M'.locks.set m (-1)).length = _; rw [List.length_set]; exact hL, fun p hp => ?_, .inr (.inr ⟨hE, hcs, j + 1, by omega, by omega, by show m = F.P - (j + 1); omega, ?_⟩)⟩
      · congr 1
        rw [Bool.eq_iff_iff, decide_eq_true_iff, beq_iff_eq]
        omega
      · show (M'.locks.set m (-1))[p]? = some (if p < m then who else -1)
        by_cases e : p = m
        · subst e
          rw [List.getElem?_set_self (List.getElem?_eq_some_iff.1 hl).1, if_neg (by omega)]
        · rw [List.getElem?_set_ne (Ne.symm e), hlk p hp]
          congr 1
          by_cases g : p < m
          · rw [if_pos g, if_pos (by omega)]
          · rw [if_neg g, if_neg (by omega)]
      · show (if 0 < m then _ else _) = (if j + 1 < F.P then _ else _)
        by_cases g : 0 < m
        · rw [if_pos g, if_pos (by omega)]
        · rw [if_neg g, if_neg (by omega)]
section
variable {h : Heap} {F : Fb} {M : MemS}
theorem cMembers_spec (H : FabAt h F) (HM : MemAt h F.mb F.cb F.lb M) {vid : Int} {i : Nat} (hi : findV vid F.vls 0 = (i : Int)) (hv : i ≤ 1000) {y : Int} (hx : M.cells[F.P + 2 * i]? = some y) (ht : M.t < 1000000) : HCalls Tryz.prog 168 #[.pointer (some ⟨F.fb, 0, none⟩), .int .i64 vid] h (fun v h' => v = .int .u64 y ∧ MemAt h' F.mb F.cb F.lb { M with t := M.t + 1 } ∧ Chg (ML F.mb F.cb F.lb) h h') := by
  refine xcalls env_cMembers Tryz.func168 rfl (by kernel_rfl) rfl (by kernel_rfl) ?_
  refine (cVlan_spec H vid).mono ?_
  rintro v h1 ⟨rfl, x1⟩
  rw [hi]
  obtain ⟨RA, rc, hb', hr⟩ := (H.ext x1).blk
  repeat (first | refine ⟨_, cell_blk (hb') rfl, ?_⟩)
  refine (cVlanAt_fab (H.ext x1) (i := i) hv).mono ?_
  rintro v h2 ⟨rfl, rfl⟩
  try (refine ⟨by ((repeat (first | refine ⟨cell_blk (hb') rfl, ?_⟩)); exact trivial), ?_⟩)
  refine (mLoad_spec (HM.ext x1) hx ht).mono ?_
  rintro v h3 ⟨rfl, m3, c3⟩
  exact ⟨rfl, m3, (x1.chg _).trans (c3.mono (by first | (simp; done) | (intro p hp; simp [hp]; done) | (simp [ML]; done) | (intro p hp; simp [ML] at hp ⊢; rcases hp with h | h | h <;> simp [h]; done)))⟩
end
end Go.Proofs.YtjjempefncgfhaaGreatDoorE
/- An order that may be, out of any Op. Conditions: the plan may be. -/
set_option linter.unusedVariables false
set_option linter.unusedSimpArgs false
set_option maxRecDepth 100000
namespace Go.Proofs.YtjjempefncgfhaaGreatDoorE
open Go Go.Proofs
def kinds19 : List Int := [8, 8, 9, 7, 4, 5, 8, 4]
def fixK (o : Op17) : Int := kinds19.getD (o.kind % 18446744073709551616 % 8).toNat 0
/-- The order that comes of an Op. -/
def fixOp (P : Int) (vls : List Vl) (o : Op17) : Op17 :=
  { o with kind := (if fixK o = 9 ∧ vls.length = 0 then 8 else fixK o), port := (if fixK o = 7 then o.port else o.port % 18446744073709551616 % P), state := o.state % 18446744073709551616 % 5,
           vid := (if fixK o = 9 ∧ 0 < vls.length then (vls.getD (o.vid % 18446744073709551616 % vls.length).toNat ⟨0, 0, 0⟩).vid else o.vid), kvid := fixVid o.kvid, mac := fixMac o.mac }
theorem mod_put2 {x : Int} {P r : Nat} (hP : 0 < P) (hp : P ≤ 1000000) (h : x % 18446744073709551616 % P = (r : Int)) : IntKind.i64.wrap ((IntKind.u64.wrap x).tmod (IntKind.u64.wrap (P : Int))) = (r : Int) := by
  have h3 := Int.emod_lt_of_pos (x % 18446744073709551616) (show (0 : Int) < P by omega)
  rw [IntKind.wrap_u64, wrap_u64 (x := (P : Int)) (by omega) (by omega), Int.tmod_eq_emod_of_nonneg (by omega), h, wrap_i64 (by omega) (by omega)]
theorem lFix19_spec {h : Heap} {A B : Option Addr} {na ca nb cb : Nat} {rules : List Ru} {vls : List Vl} {P : Nat} {tries ring normal short : Int} {s : Sz} {o : Op17} (hrb : Row encVl 3 h B vls) (hlb : vls.length = nb) (hn : nb ≤ 1000) (p1 : 0 < P) (p2 : P ≤ 64) (w : KeyWf o.kvid o.mac) :
    HCalls Tryz.prog 34 #[.agg (encO17 o).toArray, .agg (planV P (.slice A na ca) (.slice B nb cb) s tries ring normal short).toArray] h (fun v h' => v = .agg (encO17 (fixOp P vls o)).toArray ∧ Ext h h') := by
  subst hlb
  refine xcalls env_lFix19 Tryz.func34 rfl (by kernel_rfl) rfl (by kernel_rfl) ?_
  intro ob h1 n1 pb h2 n2 rb h3 n3
  have hob : h3[ob]? = some (.cells (encO17 o).toArray 56 (0, 0)) := n3.ext.blk (n2.ext.blk n1.this)
  have hpb : h3[pb]? = some (.cells (planV P (.slice A na ca) (.slice B vls.length cb) s tries ring normal short).toArray 28 (0, 0)) := n3.ext.blk n2.this
  have x3 := (n1.ext.trans n2.ext).trans n3.ext
  have hrb3 : h3[rb]? = some (.cells (encO17 op0).toArray 56 (0, 0)) := n3.this
  have gob : h.size ≤ ob := n1.ge (Ext.refl _)
  have grb : h.size ≤ rb := n3.ge (n1.ext.trans n2.ext)
  have ne1 : pb ≠ ob := by have := n2.at_; have := blk_lt n1.this; omega
  have ne2 : rb ≠ ob := by have := n3.at_; have := blk_lt n1.this; have := n2.size; omega
  obtain ⟨k, hk⟩ : ∃ k, fixK o = k := ⟨_, rfl⟩
  intro kb h4 n4
  have hob4 := n4.ext.blk hob
  repeat (first | refine ⟨_, cell_blk (hob4) rfl, ?_⟩)
  have r8 := modn_eq o.kind 8 (by decide) (by decide)
  have rlt : (o.kind % 18446744073709551616 % 8).toNat < kinds19.length := by show _ < 8; omega
  refine ⟨by decide, ⟨kb, 0, none⟩, rfl, ?_, ?_, .int .i64 k, ?_, ?_⟩
  · rw [r8]; omega
  · rw [r8]; show o.kind % 18446744073709551616 % 8 < ((8 : Nat) : Int); omega
  · show cell h4 ((⟨kb, 0, none⟩ : Addr).add ((IntKind.i64.wrap ((IntKind.u64.wrap o.kind).tmod 8)).toNat * 1)) = some (.int .i64 k)
    rw [r8, add_lit, Nat.mul_one, Nat.zero_add]
    refine cell_arr n4.this ?_
    have e : ([Value.int .i64 8, .int .i64 8, .int .i64 9, .int .i64 7, .int .i64 4, .int .i64 5, .int .i64 8, .int .i64 4] : List Value) = kinds19.map (fun z => Value.int .i64 z) := rfl
    show ([Value.int .i64 8, .int .i64 8, .int .i64 9, .int .i64 7, .int .i64 4, .int .i64 5, .int .i64 8, .int .i64 4] : List Value).toArray[(o.kind % 18446744073709551616 % 8).toNat]? = _
    rw [e, List.getElem?_toArray, List.getElem?_map, List.getElem?_eq_getElem rlt, ← hk]
    unfold fixK
    rw [List.getD_eq_getElem?_getD, List.getElem?_eq_getElem rlt]
    rfl
  refine ⟨rfl, rfl, canset_blk hob4 rfl, fun h5 s5 => ?_⟩
  have hob5 : h5[ob]? = some (.cells (encO17 { o with kind := k }).toArray 56 (0, 0)) := s5.put hob4
  have x5 : Ext h h5 := (x3.trans n4.ext).stored s5 gob
  refine ⟨[.int .i64 o.kvid, .int .u64 o.mac], rfl, reads_at hob5 rfl, ?_⟩
  refine (rKeyFix_spec w _).mono ?_
  rintro v h6 ⟨rfl, x6⟩
  have hob6 := x6.blk hob5
  refine ⟨rfl, rfl, canset_blk hob6 rfl, fun h7 s7 => ?_⟩
  have hob7 : h7[ob]? = some (.cells (encO17 { o with kind := k, kvid := fixVid o.kvid, mac := fixMac o.mac }).toArray 56 (0, 0)) := s7.put hob6
  have x7 : Ext h h7 := (x5.trans x6).stored s7 gob
  have hpb7 := s7.blk (x6.blk (s5.blk (n4.ext.blk hpb) ne1)) ne1
  have hrb7 := s7.blk (x6.blk (s5.blk (n4.ext.blk hrb3) ne2)) ne2
  obtain ⟨r, hr⟩ : ∃ r : Nat, o.port % 18446744073709551616 % (P : Int) = r := ⟨_, (Int.toNat_of_nonneg (Int.emod_nonneg _ (by omega))).symm⟩
  refine ⟨Unit, fun _ => [(2, .pointer (some ⟨ob, 0, none⟩)), (3, .pointer (some ⟨pb, 0, none⟩)), (4, .pointer (some ⟨rb, 0, none⟩))], fun _ h' => h'[ob]? = some (.cells (encO17 { o with kind := k, port := (if k = 7 then o.port else o.port % 18446744073709551616 % P), kvid := fixVid o.kvid, mac := fixMac o.mac }).toArray 56 (0, 0)) ∧ h'[pb]? = some (.cells (planV P (.slice A na ca) (.slice B vls.length cb) s tries ring normal short).toArray 28 (0, 0)) ∧ h'[rb]? = some (.cells (encO17 op0).toArray 56 (0, 0)) ∧ Ext h h', ?_, ?_⟩
  · repeat (first | refine ⟨_, cell_blk (hob7) rfl, ?_⟩)
    refine xif_of (fun g => ?_) (fun g => ?_)
    · have g : (k != 7) = true := g
      have g : k ≠ 7 := by simpa using g
      repeat (first | refine ⟨_, cell_blk (hob7) rfl, ?_⟩ | refine ⟨_, cell_blk (hpb7) rfl, ?_⟩)
      refine ⟨?_, ?_⟩
      · rw [wrap_u64 (by omega) (by omega)]; omega
      refine ⟨rfl, rfl, canset_blk hob7 rfl, fun h8 s8 => ?_⟩
      refine ⟨(), ⟨rfl, rfl, rfl, trivial⟩, ?_, s8.blk hpb7 ne1, s8.blk hrb7 ne2, x7.stored s8 gob⟩
      have : h8[ob]? = some (.cells (encO17 { o with kind := k, port := IntKind.i64.wrap ((IntKind.u64.wrap o.port).tmod (IntKind.u64.wrap (P : Int))), kvid := fixVid o.kvid, mac := fixMac o.mac }).toArray 56 (0, 0)) := s8.put hob7
      rw [mod_put p1 p2 hr] at this
      rw [if_neg g, hr]
      exact this
    · have g : (k != 7) = false := g
      have g : k = 7 := by simpa using g
      exact ⟨(), ⟨rfl, rfl, rfl, trivial⟩, by rw [if_pos g]; exact hob7, hpb7, hrb7, x7⟩
  rintro _ h8 ⟨hob8, hpb8, hrb8, x8⟩
  obtain ⟨pt, hpt⟩ : ∃ pt, (if k = 7 then o.port else o.port % 18446744073709551616 % P) = pt := ⟨_, rfl⟩
  rw [hpt] at hob8
  repeat (first | refine ⟨_, cell_blk (hob8) rfl, ?_⟩)
  refine ⟨by decide, ?_⟩
  refine ⟨rfl, rfl, canset_blk hob8 rfl, fun h9 s9 => ?_⟩
  have hob9 : h9[ob]? = some (.cells (encO17 { o with kind := k, port := pt, state := o.state % 18446744073709551616 % 5, kvid := fixVid o.kvid, mac := fixMac o.mac }).toArray 56 (0, 0)) := by
    have : h9[ob]? = some (.cells (encO17 { o with kind := k, port := pt, state := IntKind.i64.wrap ((IntKind.u64.wrap o.state).tmod 5), kvid := fixVid o.kvid, mac := fixMac o.mac }).toArray 56 (0, 0)) := s9.put hob8
    rw [modn_eq o.state 5 (by decide) (by decide)] at this
    exact this
  have hpb9 := s9.blk hpb8 ne1
  have hrb9 := s9.blk hrb8 ne2
  have x9 := x8.stored s9 gob
  obtain ⟨vd, hvd⟩ : ∃ vd, (if k = 9 ∧ 0 < vls.length then (vls.getD (o.vid % 18446744073709551616 % vls.length).toNat ⟨0, 0, 0⟩).vid else o.vid) = vd := ⟨_, rfl⟩
  refine ⟨Unit, fun _ => [(2, .pointer (some ⟨ob, 0, none⟩)), (3, .pointer (some ⟨pb, 0, none⟩)), (4, .pointer (some ⟨rb, 0, none⟩))], fun _ h' => h'[ob]? = some (.cells (encO17 { o with kind := k, port := pt, vid := vd, state := o.state % 18446744073709551616 % 5, kvid := fixVid o.kvid, mac := fixMac o.mac }).toArray 56 (0, 0)) ∧ h'[pb]? = some (.cells (planV P (.slice A na ca) (.slice B vls.length cb) s tries ring normal short).toArray 28 (0, 0)) ∧ h'[rb]? = some (.cells (encO17 op0).toArray 56 (0, 0)) ∧ Ext h h', ?_, ?_⟩
  · have no : ¬ (k = 9 ∧ 0 < vls.length) → vd = o.vid := fun g => by rw [← hvd, if_neg g]
    repeat (first | refine ⟨_, cell_blk (hob9) rfl, ?_⟩)
    refine xif_of (fun g => ?_) (fun g => ?_)
    · have g : (k == 9) = true := g
      have g : k = 9 := by simpa using g
      repeat (first | refine ⟨_, cell_blk (hpb9) rfl, ?_⟩)
      refine xif_of (fun g2 => ?_) (fun g2 => ?_)
      · have g2 : (vls.length : Int) > 0 := of_decide_eq_true g2
        repeat (first | refine ⟨_, cell_blk (hob9) rfl, ?_⟩ | refine ⟨_, cell_blk (hpb9) rfl, ?_⟩)
        have lp : (0 : Int) < vls.length := by omega
        obtain ⟨m, hm⟩ : ∃ m : Nat, o.vid % 18446744073709551616 % (vls.length : Int) = m := ⟨_, (Int.toNat_of_nonneg (Int.emod_nonneg _ (by omega))).symm⟩
        have hml : m < vls.length := by have := Int.emod_lt_of_pos (o.vid % 18446744073709551616) lp; omega
        have em : IntKind.i64.wrap ((IntKind.u64.wrap o.vid).tmod (IntKind.u64.wrap (vls.length : Int))) = (m : Int) := mod_put2 (by omega) (by omega) hm
        obtain ⟨z, hz⟩ : ∃ z, vls[m]? = some z := ⟨_, List.getElem?_eq_getElem hml⟩
        obtain ⟨a, ha, hrd⟩ := (x9.row hrb) m z hz
        refine ⟨?_, a, ha, ?_, ?_, .int .i64 z.vid, ?_, ?_⟩
        · rw [wrap_u64 (by omega) (by omega)]; omega
        · show 0 ≤ IntKind.i64.wrap ((IntKind.u64.wrap o.vid).tmod (IntKind.u64.wrap (vls.length : Int)))
          rw [em]; omega
        · show IntKind.i64.wrap ((IntKind.u64.wrap o.vid).tmod (IntKind.u64.wrap (vls.length : Int))) < (vls.length : Int)
          rw [em]; omega
        · show cell h9 ((a.add ((IntKind.i64.wrap ((IntKind.u64.wrap o.vid).tmod (IntKind.u64.wrap (vls.length : Int)))).toNat * 3)).add 0) = _
          rw [em, Int.toNat_natCast]; exact hrd.get 0 rfl
        refine ⟨rfl, rfl, canset_blk hob9 rfl, fun h10 s10 => ?_⟩
        refine ⟨(), ⟨rfl, rfl, rfl, trivial⟩, ?_, s10.blk hpb9 ne1, s10.blk hrb9 ne2, x9.stored s10 gob⟩
        have e : vd = z.vid := by
          rw [← hvd, if_pos ⟨g, by omega⟩, hm, Int.toNat_natCast, List.getD_eq_getElem?_getD, hz]; rfl
        rw [e]
        exact s10.put hob9
      · have g2 : ¬ (vls.length : Int) > 0 := of_decide_eq_false g2
        exact ⟨(), ⟨rfl, rfl, rfl, trivial⟩, by rw [no (by omega)]; exact hob9, hpb9, hrb9, x9⟩
    · have g : (k == 9) = false := g
      have g : ¬ k = 9 := by simpa using g
      exact ⟨(), ⟨rfl, rfl, rfl, trivial⟩, by rw [no (by omega)]; exact hob9, hpb9, hrb9, x9⟩
  rintro _ h10 ⟨hob10, hpb10, hrb10, x10⟩
  have fin : ∀ (k' : Int) (g : Heap), k' = (if fixK o = 9 ∧ vls.length = 0 then 8 else fixK o) → (encO17 { o with kind := k', port := pt, vid := vd, state := o.state % 18446744073709551616 % 5, kvid := fixVid o.kvid, mac := fixMac o.mac }) = encO17 (fixOp P vls o) := by
    intro k' g e
    unfold fixOp
    rw [← hvd, ← hpt, e, hk]
  refine ⟨Unit, fun _ => [(2, .pointer (some ⟨ob, 0, none⟩)), (4, .pointer (some ⟨rb, 0, none⟩))], fun _ h' => h'[ob]? = some (.cells (encO17 (fixOp P vls o)).toArray 56 (0, 0)) ∧ h'[rb]? = some (.cells (encO17 op0).toArray 56 (0, 0)) ∧ Ext h h', ?_, ?_⟩
  · repeat (first | refine ⟨_, cell_blk (hob10) rfl, ?_⟩)
    refine xif_of (fun g => ?_) (fun g => ?_)
    · have g : (k == 9) = true := g
      have g : k = 9 := by simpa using g
      repeat (first | refine ⟨_, cell_blk (hpb10) rfl, ?_⟩)
      refine xif_of (fun g2 => ?_) (fun g2 => ?_)
      · have g2 : ((vls.length : Int) == 0) = true := g2
        have g2 : vls.length = 0 := by simpa using g2
        refine ⟨rfl, rfl, canset_blk hob10 rfl, fun h11 s11 => ?_⟩
        refine ⟨(), ⟨rfl, rfl, trivial⟩, ?_, s11.blk hrb10 ne2, x10.stored s11 gob⟩
        rw [← fin 8 h11 (by rw [hk, if_pos ⟨g, g2⟩])]
        exact s11.put hob10
      · have g2 : ((vls.length : Int) == 0) = false := g2
        have g2 : ¬ vls.length = 0 := by simpa using g2
        exact ⟨(), ⟨rfl, rfl, trivial⟩, by rw [← fin k h10 (by rw [hk, if_neg (by omega)])]; exact hob10, hrb10, x10⟩
    · have g : (k == 9) = false := g
      have g : ¬ k = 9 := by simpa using g
      exact ⟨(), ⟨rfl, rfl, trivial⟩, by rw [← fin k h10 (by rw [hk, if_neg (by omega)])]; exact hob10, hrb10, x10⟩
  rintro _ h11 ⟨hob11, hrb11, x11⟩
  refine ⟨encO17 (fixOp P vls o), rfl, reads_all hob11, rfl, rfl, canset_blk hrb11 rfl, fun h12 s12 => ?_⟩
  have hrb12 : h12[rb]? = some (.cells (encO17 (fixOp P vls o)).toArray 56 (0, 0)) := s12.put hrb11
  exact ⟨_, rfl, reads_all hrb12, rfl, x11.stored s12 grb⟩
end Go.Proofs.YtjjempefncgfhaaGreatDoorE
