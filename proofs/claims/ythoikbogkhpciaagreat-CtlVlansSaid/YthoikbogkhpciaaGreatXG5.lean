/- A port is set, and it is told: what the law's own look answers. Conditions: none. -/
import Derived.Test.YthoikbogkhpciaaGreatXG4
set_option linter.unusedVariables false
set_option linter.unusedSimpArgs false
set_option maxRecDepth 100000
namespace Go.Proofs.YthoikbogkhpciaaGreatE
open Go Go.Proofs
section
variable {h h' : Heap} {B : Nat} {F : Fb} {ab : Nat} {x : CaV} {ls : List Nat} {M : MemS} {E : He}
theorem CaS.next (S : CaS h B F ab x ls M E) {nx : Value} (r : CaRaw h' ab { x with next := nx }) (c : Chg [(ab, 142)] h h') : CaS h' B F ab { x with next := nx } ls M E := S.field c r rfl rfl rfl rfl rfl rfl rfl rfl
/-- A step, told by what its function does. -/
theorem aStep_of {f : Nat} {cap : List Value} (nx : Value) (b : Bool) {x' : CaV} {M' : MemS} {E' : He} {K : Heap → Prop} (S : CaS h B F ab x ls M E) (hn : x.next = .func (.func f) #[] cap.toArray) (hnx : (nx = .nilFunc ∧ b = true) ∨ ∃ (g : Nat) (c : Array Value), nx = .func (.func g) #[] c ∧ b = false)
    (hf : HCalls Tryz.prog f (Value.pointer (some ⟨ab, 0, none⟩) :: cap).toArray h (fun v h' => v = nx ∧ CaS h' B F ab x' ls M' E' ∧ ChgT B TyC h h' ∧ K h')) (hK : ∀ g g', Chg [(ab, 142)] g g' → K g → K g') :
    HCalls Tryz.prog 29 #[.pointer (some ⟨ab, 0, none⟩)] h (fun v h' => v = .bool b ∧ CaS h' B F ab { x' with next := nx } ls M' E' ∧ ChgT B TyC h h' ∧ K h') := by
  refine (aStep_spec nx b (K := fun y g => y = x' ∧ CaS g B F ab x' ls M' E' ∧ ChgT B TyC h g ∧ K g) S.raw hn hnx (hf.mono ?_)).mono ?_
  · rintro v h1 ⟨rfl, S1, c1, k1⟩
    exact ⟨rfl, x', S1.raw, rfl, S1, c1, k1⟩
  · rintro v h2 ⟨rfl, y, h1, ⟨rfl, S1, c1, k1⟩, r2, c2⟩
    exact ⟨rfl, S1.next r2 c2, c1.trans (S1.frF c2), hK _ _ c2 k1⟩
/-- A step behind which something is to be done, whatever it is. -/
theorem aStep_go {f : Nat} {cap : List Value} {K : Value → CaV → Heap → Prop} (H : CaRaw h ab x) (hn : x.next = .func (.func f) #[] cap.toArray)
    (hf : HCalls Tryz.prog f (Value.pointer (some ⟨ab, 0, none⟩) :: cap).toArray h (fun v h' => ∃ (g : Nat) (c : Array Value), v = .func (.func g) #[] c ∧ ∃ x', CaRaw h' ab x' ∧ K v x' h')) :
    HCalls Tryz.prog 29 #[.pointer (some ⟨ab, 0, none⟩)] h (fun v h' => v = .bool false ∧ ∃ nx x' h1, K nx x' h1 ∧ CaRaw h' ab { x' with next := nx } ∧ Chg [(ab, 142)] h1 h') := by
  have hov := aOver_fn H hn
  obtain ⟨f', who, o, next, gA, gn, gc, kA, kn, kc, held, from_, pop, act⟩ := x
  simp only at hn
  subst hn
  refine xcalls env0 Tryz.func29 rfl (by kernel_rfl) rfl (by kernel_rfl) ?_
  refine hov.mono ?_
  rintro v h1 ⟨rfl, rfl⟩
  repeat (first | refine ⟨_, cell_blk (H) rfl, ?_⟩)
  refine hf.mono ?_
  rintro v h2 ⟨g, c, rfl, x', H2, k⟩
  obtain ⟨f', who, o, next, gA, gn, gc, kA, kn, kc, held, from_, pop, act⟩ := x'
  refine ⟨rfl, rfl, canset_blk H2 rfl, fun h3 s3 => ?_⟩
  have H3 : CaRaw h3 ab ⟨f', who, o, .func (.func g) #[] c, gA, gn, gc, kA, kn, kc, held, from_, pop, act⟩ := s3.put H2
  refine (aOver_fn H3 rfl).mono ?_
  rintro v h4 ⟨rfl, rfl⟩
  exact ⟨rfl, _, _, h2, k, H3, s3.chg H2 (.head _)⟩
/-- A lock that another one has isn't given. -/
theorem mPass_no (H : MemAt h F.mb F.cb F.lb M) {i : Nat} {a b c : Int} (hx : M.locks[i]? = some a) (hne : a ≠ b) (ht : M.t < 1000000) : HCalls Tryz.prog 113 #[.pointer (some ⟨F.mb, 0, none⟩), .int .i64 i, .int .i64 b, .int .i64 c] h (fun v h' => v = .bool false ∧ MemAt h' F.mb F.cb F.lb { M with t := M.t + 1 } ∧ Chg (ML F.mb F.cb F.lb) h h') := by
  have hi : i < M.locks.length := (List.getElem?_eq_some_iff.1 hx).1
  refine xcalls env0 Tryz.func113 rfl (by kernel_rfl) rfl (by kernel_rfl) ?_
  refine ⟨_, cell_blk H.mem rfl, rfl, rfl, canset_blk H.mem rfl, fun h2 s2 => ?_⟩
  obtain ⟨H2, c2⟩ := H.tick ht s2
  refine ⟨_, cell_blk H2.mem rfl, _, rfl, Int.natCast_nonneg i, Int.ofNat_lt.2 hi, _, H2.lockd' hx, ?_⟩
  refine xif_true ?_ ?_
  · show (a != b) = true
    simpa using hne
  exact ⟨rfl, H2, c2.mono (by simp [ML])⟩
theorem mTake_no (H : MemAt h F.mb F.cb F.lb M) {i : Nat} {a who : Int} (hx : M.locks[i]? = some a) (ha : a ≠ -1) (hw : 0 ≤ who) (ht : M.t < 1000000) : HCalls Tryz.prog 67 #[.pointer (some ⟨F.mb, 0, none⟩), .int .i64 i, .int .i64 who] h (fun v h' => v = .bool false ∧ MemAt h' F.mb F.cb F.lb { M with t := M.t + 1 } ∧ Chg (ML F.mb F.cb F.lb) h h') := by
  have hi : i < M.locks.length := (List.getElem?_eq_some_iff.1 hx).1
  refine xcalls env0 Tryz.func67 rfl (by kernel_rfl) rfl (by kernel_rfl) ?_
  refine (mLock_spec H i).mono ?_
  rintro v h1 ⟨rfl, rfl⟩
  have e : (decide (0 ≤ (i : Int)) && decide ((i : Int) < M.locks.length)) = true := by
    rw [decide_eq_true (by omega), decide_eq_true (by omega)]; rfl
  refine xif_true e ?_
  refine xif_true (decide_eq_true ?_) ?_
  · exact hw
  refine (mPass_no H hx ha ht).mono ?_
  rintro v h2 ⟨rfl, r⟩
  exact ⟨rfl, r⟩
theorem cTake_no (H : FabAt h F) (HM : MemAt h F.mb F.cb F.lb M) {p : Nat} {a who : Int} (hp : p < F.P) (hx : M.locks[p]? = some a) (ha : a ≠ -1) (hw : 0 ≤ who) (ht : M.t < 1000000) : HCalls Tryz.prog 25 #[.pointer (some ⟨F.fb, 0, none⟩), .int .i64 p, .int .i64 who] h (fun v h' => v = .bool false ∧ MemAt h' F.mb F.cb F.lb { M with t := M.t + 1 } ∧ Chg (ML F.mb F.cb F.lb) h h') := by
  obtain ⟨RA, rc, hb', hr⟩ := H.blk
  refine xcalls env0 Tryz.func25 rfl (by kernel_rfl) rfl (by kernel_rfl) ?_
  refine (cHas_spec H p).mono ?_
  rintro v h1 ⟨rfl, rfl⟩
  refine xif_true (has_yes hp) ?_
  repeat (first | refine ⟨_, cell_blk (hb') rfl, ?_⟩)
  refine (mTake_no HM hx ha hw ht).mono ?_
  rintro v h1 ⟨rfl, r⟩
  exact ⟨rfl, r⟩
end
/-- Port 1 is set: how all is, step by step. -/
def Set1 (h0 : Heap) (B : Nat) (F : Fb) (ab : Nat) (M : MemS) (E : He) (k : Nat) (h : Heap) : Prop :=
  ChgT B TyC h0 h ∧ ∃ x, x.o.kind = 8 ∧ x.o.port = ((1 : Nat) : Int) ∧ x.o.state = 4 ∧ x.who = 9 ∧ match k with
    | 0 => CaS h B F ab x [1] M E ∧ x.next = .func (.func 69) #[] #[] ∧ x.held = 0
    | 1 => CaS h B F ab x [1] { M with locks := M.locks.set 1 9, t := M.t + 1 } E ∧ x.next = .func (.func 115) #[] #[] ∧ x.held = 1
    | 2 => CaS h B F ab x [1] { M with locks := M.locks.set 1 9, t := M.t + 1 + 1 } E ∧ (∃ sb, x.next = .func (.func 159) #[] #[.pointer (some ⟨sb, 0, none⟩)] ∧ h[sb]? = some (.cells [Value.int .i64 0, Value.int .u32 0].toArray 72 (0, 0))) ∧ x.held = 1
    | 3 => ∃ E', E'.ans = 1 ∧ CaS h B F ab x [1] { M with cells := M.cells.set 1 260, locks := M.locks.set 1 9, t := M.t + 1 + 1 + 1 } E' ∧ x.next = .func (.func 187) #[] #[] ∧ x.held = 1
    | 4 => ∃ E', E'.ans = 1 ∧ CaS h B F ab x [1] { M with cells := M.cells.set 1 260, locks := (M.locks.set 1 9).set 1 (-1), t := M.t + 1 + 1 + 1 + 1 } E' ∧ x.next = .nilFunc
    | _ => False
theorem set1_step {h0 h : Heap} {B : Nat} {F : Fb} {ab : Nat} {M : MemS} {E : He} (hP : 1 < F.P) (hl : M.locks[1]? = some (-1)) (hz : M.cells[1]? = some 0) (ht : M.t < 800000) {k : Nat} (hk : k < 4) (H : Set1 h0 B F ab M E k h) :
    HCalls Tryz.prog 29 #[.pointer (some ⟨ab, 0, none⟩)] h (fun v h' => v = .bool (k + 1 == 4) ∧ Set1 h0 B F ab M E (k + 1) h') := by
  have hlt : 1 < M.locks.length := (List.getElem?_eq_some_iff.1 hl).1
  have hlc : 1 < M.cells.length := (List.getElem?_eq_some_iff.1 hz).1
  obtain ⟨c0, x, ok, op, os, ow, H⟩ := H
  match k, H with
  | 0, ⟨S, hn, hh⟩ =>
    refine (aStep_of (cap := []) (K := fun _ => True) (x' := { x with held := x.held + 1 }) (M' := { M with locks := M.locks.set 1 x.who, t := M.t + 1 }) (E' := E) (.func (.func 115) #[] #[]) false S hn (.inr ⟨_, _, rfl, rfl⟩) ((aLock_spec S (p := 1) (by rw [hh]; rfl) hP hl (by omega)).mono ?_) (fun _ _ _ _ => trivial)).mono ?_
    · rintro v h1 ⟨rfl, S1, c1⟩
      refine ⟨?_, S1, c1, trivial⟩
      rw [if_neg (by rw [hh]; decide), if_neg (by rw [ok]; decide)]
    · rintro v h1 ⟨rfl, S1, c1, _⟩
      have hM : (⟨M.cells, M.locks.set 1 x.who, M.t + 1⟩ : MemS) = ⟨M.cells, M.locks.set 1 9, M.t + 1⟩ := by rw [ow]
      rw [hM] at S1
      exact ⟨rfl, c0.trans c1, { x with held := x.held + 1, next := .func (.func 115) #[] #[] }, ok, op, os, ow, S1, rfl, by show x.held + 1 = 1; rw [hh]⟩
  | 1, ⟨S, hn, hh⟩ =>
    refine (aStep_go (cap := []) (K := fun nx y g => y = x ∧ (∃ sb, nx = .func (.func 159) #[] #[.pointer (some ⟨sb, 0, none⟩)] ∧ g[sb]? = some (.cells [Value.int .i64 0, Value.int .u32 0].toArray 72 (0, 0))) ∧ CaS g B F ab x [1] { M with locks := M.locks.set 1 9, t := M.t + 1 + 1 } E ∧ ChgT B TyC h g) S.raw hn ((aRead_spec S op hP hz (by show M.t + 1 < 900000; omega)).mono ?_)).mono ?_
    · rintro v h1 ⟨sb, rfl, hsb, S1, c1⟩
      exact ⟨_, _, rfl, x, S1.raw, rfl, ⟨sb, rfl, hsb⟩, S1, c1⟩
    · rintro v h2 ⟨rfl, nx, y, h1, ⟨rfl, ⟨sb, rfl, hsb⟩, S1, c1⟩, r2, c2⟩
      exact ⟨rfl, c0.trans (c1.trans (S1.frF c2)), { y with next := .func (.func 159) #[] #[.pointer (some ⟨sb, 0, none⟩)] }, ok, op, os, ow, S1.next r2 c2, ⟨sb, rfl, c2.blk hsb (by simp)⟩, hh⟩
  | 2, ⟨S, ⟨sb, hn, hsb⟩, hh⟩ =>
    refine (aStep_of (cap := [.pointer (some ⟨sb, 0, none⟩)]) (K := fun _ => True) (x' := x) (M' := { M with cells := M.cells.set 1 260, locks := M.locks.set 1 9, t := M.t + 1 + 1 + 1 }) (E' := { E with mark := ((M.t + 1 + 1 + 1 : Nat) : Int), fin := ((M.t + 1 + 1 + 1 : Nat) : Int), ans := 1 }) (.func (.func 187) #[] #[]) false S hn (.inr ⟨_, _, rfl, rfl⟩) ((aRead1_spec S hsb op os hP hlc (by show M.t + 1 + 1 < 900000; omega)).mono ?_) (fun _ _ _ _ => trivial)).mono ?_
    · rintro v h1 ⟨rfl, S1, c1⟩
      exact ⟨rfl, S1, c1, trivial⟩
    · rintro v h1 ⟨rfl, S1, c1, _⟩
      exact ⟨rfl, c0.trans c1, { x with next := .func (.func 187) #[] #[] }, ok, op, os, ow, _, rfl, S1, rfl, hh⟩
  | 3, ⟨E', he, S, hn, hh⟩ =>
    refine (aStep_of (cap := []) (K := fun _ => True) (x' := { x with held := 0 }) (M' := { M with cells := M.cells.set 1 260, locks := (M.locks.set 1 9).set 1 (-1), t := M.t + 1 + 1 + 1 + 1 }) (E' := E') .nilFunc true S hn (.inl ⟨rfl, rfl⟩) ((aUnlock_spec (k := 0) S hh (p := 1) rfl hP (by rw [ow]; exact List.getElem?_set_self hlt) (by show M.t + 1 + 1 + 1 < 900000; omega)).mono ?_) (fun _ _ _ _ => trivial)).mono ?_
    · rintro v h1 ⟨rfl, S1, c1⟩
      exact ⟨rfl, S1, c1, trivial⟩
    · rintro v h1 ⟨rfl, S1, c1, _⟩
      exact ⟨rfl, c0.trans c1, { x with held := 0, next := .nilFunc }, ok, op, os, ow, E', he, S1, rfl⟩
end Go.Proofs.YthoikbogkhpciaaGreatE
