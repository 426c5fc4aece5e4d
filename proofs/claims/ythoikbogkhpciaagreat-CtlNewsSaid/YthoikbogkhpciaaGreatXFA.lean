/- An egress as a whole: its steps, what it was at first, what it tells. Conditions: numbers were put in turn. -/
import Derived.Test.YthoikbogkhpciaaGreatXF9
set_option linter.unusedVariables false
set_option linter.unusedSimpArgs false
set_option maxRecDepth 100000
namespace Go.Proofs.YthoikbogkhpciaaGreatE
open Go Go.Proofs
/-- What was told of the numbers that were taken. -/
def SentOk (P q v : Nat) (l : List Sn) : Prop := ∀ i y, l[i]? = some y → y.tick = tik v i ∧ y.from_ = ((i % P : Nat) : Int) ∧ y.to = (q : Int) ∧ y.how = 0 ∧ 0 < y.mark
def EPs (h : Heap) (B : Nat) (F : Fb) (e : Eg) (v n t ph T : Nat) : Prop :=
  ∃ sents x, SentOk F.P e.q v sents ∧ match ph with
    | 0 => ZP h B F e v n t sents T x ∧ x.next = .nilFunc ∧ sents.length = t
    | 1 => TP h B F e v n t sents T 180 0 x ∧ x.next = .func (.func 109) #[] #[] ∧ sents.length = t
    | 2 => TP h B F e v n t sents T 204 0 x ∧ x.next = .func (.func 109) #[] #[] ∧ sents.length = t
    | 3 => TP h B F e v n t sents T 211 (tik v t) x ∧ x.next = .func (.func 109) #[] #[] ∧ sents.length = t
    | 4 => FP h B F e v n t sents T (2 * t + 2) x ∧ x.next = .func (.func 156) #[] #[] ∧ sents.length = t
    | 5 => FP h B F e v n t sents T (2 * t + 2) x ∧ x.next = .func (.func 152) #[] #[] ∧ sents.length = t + 1
    | _ => False
section
variable {h h' : Heap} {B : Nat} {F : Fb} {e : Eg} {v n t ph T : Nat} {sents : List Sn} {x : EgV}
theorem ZP.raw (Z : ZP h B F e v n t sents T x) : EgRaw h e.eb x := by obtain ⟨M, S, _⟩ := Z; exact S.raw
theorem TP.raw {a : Nat} {b : Int} (Z : TP h B F e v n t sents T a b x) : EgRaw h e.eb x := by obtain ⟨M, tb, pb, S, _⟩ := Z; exact S.raw
theorem FP.raw {nl : Nat} (Z : FP h B F e v n t sents T nl x) : EgRaw h e.eb x := by obtain ⟨M, tb, pb, mk, rb, nx, S, _⟩ := Z; exact S.raw
theorem ZP.b1 (Z : ZP h B F e v n t sents T x) : B ≤ e.eb ∧ B ≤ h.size := by obtain ⟨M, S, _⟩ := Z; exact ⟨S.b1, S.hB⟩
theorem TP.b1 {a : Nat} {b : Int} (Z : TP h B F e v n t sents T a b x) : B ≤ e.eb ∧ B ≤ h.size := by obtain ⟨M, tb, pb, S, _⟩ := Z; exact ⟨S.b1, S.hB⟩
theorem FP.b1 {nl : Nat} (Z : FP h B F e v n t sents T nl x) : B ≤ e.eb ∧ B ≤ h.size := by obtain ⟨M, tb, pb, mk, rb, nx, S, _⟩ := Z; exact ⟨S.b1, S.hB⟩
theorem sent_frame {c : Chg [(e.eb, 131)] h h'} (b : B ≤ e.eb ∧ B ≤ h.size) : ChgT B TyE h h' := c.chgT b.2 fun p hp => by simp at hp; subst hp; exact ⟨b.1, by simp [TyE]⟩
theorem ZP.waits (Z : ZP h B F e v n t sents T x) : HCalls Tryz.prog 15 #[.pointer (some ⟨e.eb, 0, none⟩)] h (fun r h' => r = .bool (decide (t < n)) ∧ h' = h) := by
  obtain ⟨M, S, _⟩ := Z
  exact eWaits_spec S.raw (by rw [S.xn]; exact S.lane) S.rows S.mq (by have := S.small; omega)
theorem TP.waits {a : Nat} {b : Int} (Z : TP h B F e v n t sents T a b x) : HCalls Tryz.prog 15 #[.pointer (some ⟨e.eb, 0, none⟩)] h (fun r h' => r = .bool (decide (t < n)) ∧ h' = h) := by
  obtain ⟨M, tb, pb, S, _⟩ := Z
  exact eWaits_spec S.raw (by rw [S.xn]; exact S.lane) S.rows S.mq (by have := S.small; omega)
theorem FP.waits {nl : Nat} (Z : FP h B F e v n t sents T nl x) : HCalls Tryz.prog 15 #[.pointer (some ⟨e.eb, 0, none⟩)] h (fun r h' => r = .bool (decide (t + 1 < n)) ∧ h' = h) := by
  obtain ⟨M, tb, pb, mk, rb, nx, S, _⟩ := Z
  exact eWaits_spec S.raw (by rw [S.xn]; exact S.lane) S.rows S.mq (by have := S.small; omega)
/-- Nothing waits: nothing is done. -/
theorem eStep_none (Z : ZP h B F e v n n sents T x) (hn : x.next = .nilFunc) : HCalls Tryz.prog 17 #[.pointer (some ⟨e.eb, 0, none⟩)] h (fun r h' => r = .bool true ∧ h' = h) := by
  refine xcalls env0 Tryz.func17 rfl (by kernel_rfl) rfl (by kernel_rfl) ?_
  refine (eIdle_nil Z.raw hn).mono ?_
  rintro r h1 ⟨rfl, rfl⟩
  refine Z.waits.mono ?_
  rintro r h1 ⟨rfl, rfl⟩
  rw [show decide (n < n) = false from decide_eq_false (Nat.lt_irrefl n)]
  exact ⟨rfl, rfl⟩
/-- It begins. -/
theorem eStep_begin (Z : ZP h B F e v n t sents T x) (hn : x.next = .nilFunc) (hlt : t < n) (hT : T < 900000) : HCalls Tryz.prog 17 #[.pointer (some ⟨e.eb, 0, none⟩)] h (fun r h' => r = .bool false ∧ ∃ x', TP h' B F e v n t sents (T + 1) 180 0 x' ∧ x'.next = .func (.func 109) #[] #[] ∧ ChgT B TyE h h') := by
  have raw := Z.raw
  have idl := eIdle_nil Z.raw hn
  have b := Z.b1
  have waits := Z.waits
  refine xcalls env0 Tryz.func17 rfl (by kernel_rfl) rfl (by kernel_rfl) ?_
  refine idl.mono ?_
  rintro r h1 ⟨rfl, rfl⟩
  refine waits.mono ?_
  rintro r h1 ⟨rfl, rfl⟩
  rw [show decide (t < n) = true from decide_eq_true hlt]
  have Z0 := Z
  obtain ⟨f', p, who, nb, next, act, mem, sA, sn, sc, lA, ln, lc, since⟩ := x
  simp only at hn
  subst hn
  repeat (first | refine ⟨_, cell_blk (raw) rfl, ?_⟩)
  refine ⟨rfl, rfl, canset_blk raw rfl, fun h2 s2 => ?_⟩
  obtain ⟨Z2, c2⟩ := Z0.next s2
  have raw2 := Z2.raw
  repeat (first | refine ⟨_, cell_blk (raw2) rfl, ?_⟩)
  refine (eLock_spec Z2 hlt hT).mono ?_
  rintro r h3 ⟨rfl, x3, raw3, T3, c3⟩
  obtain ⟨f', p, who, nb, next, act, mem, sA, sn, sc, lA, ln, lc, since⟩ := x3
  refine ⟨rfl, rfl, canset_blk raw3 rfl, fun h4 s4 => ?_⟩
  obtain ⟨T4, c4⟩ := T3.next s4
  refine (eIdle_fn T4.raw rfl).mono ?_
  rintro r h5 ⟨rfl, rfl⟩
  exact ⟨rfl, _, T4, rfl, ((sent_frame (c := c2) b).trans c3).trans (sent_frame (c := c4) T3.b1)⟩
theorem eStep_all (H : EPs h B F e v n t ph T) (hlt : t < n) (hT : T < 900000) : HCalls Tryz.prog 17 #[.pointer (some ⟨e.eb, 0, none⟩)] h (fun r h' => r = .bool (ph == 5) ∧ EPs h' B F e v n (if ph = 5 then t + 1 else t) (if ph = 5 then 0 else ph + 1) (T + 1) ∧ ChgT B TyE h h') := by
  obtain ⟨sents, x, ok, H⟩ := H
  match ph, H with
  | 0, ⟨Z, hn, hl⟩ =>
    refine (eStep_begin Z hn hlt hT).mono ?_
    rintro r h1 ⟨rfl, x', T1, n1, c1⟩
    exact ⟨rfl, ⟨sents, x', ok, T1, n1, hl⟩, c1⟩
  | 1, ⟨Z, hn, hl⟩ =>
    refine (eStep_busy (.func (.func 109) #[] #[]) false (K := fun x' h' => TP h' B F e v n t sents (T + 1) 204 0 x' ∧ ChgT B TyE h h') Z.raw hn (.inr ⟨_, rfl, rfl⟩) ((eTake_some Z hlt hT).mono ?_)).mono ?_
    · rintro r h1 ⟨rfl, x', r1, z1, c1⟩
      exact ⟨rfl, x', r1, z1, c1⟩
    · rintro r h2 ⟨rfl, x', h1, ⟨z1, c1⟩, r2, s2⟩
      obtain ⟨z2, c2⟩ := z1.next s2
      exact ⟨rfl, ⟨sents, _, ok, z2, rfl, hl⟩, c1.trans (sent_frame (c := c2) z1.b1)⟩
  | 2, ⟨Z, hn, hl⟩ =>
    refine (eStep_busy (.func (.func 109) #[] #[]) false (K := fun x' h' => TP h' B F e v n t sents (T + 1) 211 (tik v t) x' ∧ ChgT B TyE h h') Z.raw hn (.inr ⟨_, rfl, rfl⟩) ((eTake_get Z hlt hT).mono ?_)).mono ?_
    · rintro r h1 ⟨rfl, x', r1, z1, c1⟩
      exact ⟨rfl, x', r1, z1, c1⟩
    · rintro r h2 ⟨rfl, x', h1, ⟨z1, c1⟩, r2, s2⟩
      obtain ⟨z2, c2⟩ := z1.next s2
      exact ⟨rfl, ⟨sents, _, ok, z2, rfl, hl⟩, c1.trans (sent_frame (c := c2) z1.b1)⟩
  | 3, ⟨Z, hn, hl⟩ =>
    refine (eStep_busy (.func (.func 156) #[] #[]) false (K := fun x' h' => FP h' B F e v n t sents (T + 1) (2 * t + 2) x' ∧ ChgT B TyE h h') Z.raw hn (.inr ⟨_, rfl, rfl⟩) ((eTake_end Z hlt hT).mono ?_)).mono ?_
    · rintro r h1 ⟨rfl, x', r1, z1, c1⟩
      exact ⟨rfl, x', r1, z1, c1⟩
    · rintro r h2 ⟨rfl, x', h1, ⟨z1, c1⟩, r2, s2⟩
      obtain ⟨z2, c2⟩ := z1.next s2
      exact ⟨rfl, ⟨sents, _, ok, z2, rfl, hl⟩, c1.trans (sent_frame (c := c2) z1.b1)⟩
  | 4, ⟨Z, hn, hl⟩ =>
    refine (eStep_busy (.func (.func 152) #[] #[]) false (K := fun x' h' => FP h' B F e v n t (sents ++ [⟨tik v t, ((t % F.P : Nat) : Int), (e.q : Int), 0, ((T + 1 : Nat) : Int)⟩]) (T + 1) (2 * t + 2) x' ∧ ChgT B TyE h h') Z.raw hn (.inr ⟨_, rfl, rfl⟩) ((eStand_spec Z hl hT).mono ?_)).mono ?_
    · rintro r h1 ⟨rfl, x', r1, z1, c1⟩
      exact ⟨rfl, x', r1, z1, c1⟩
    · rintro r h2 ⟨rfl, x', h1, ⟨z1, c1⟩, r2, s2⟩
      obtain ⟨z2, c2⟩ := z1.next s2
      refine ⟨rfl, ⟨_, _, ?_, z2, rfl, by rw [List.length_append, hl]; rfl⟩, c1.trans (sent_frame (c := c2) z1.b1)⟩
      intro i y hy
      rcases Nat.lt_or_ge i sents.length with h1 | h1
      · rw [List.getElem?_append_left h1] at hy
        exact ok i y hy
      · rw [List.getElem?_append_right h1] at hy
        have h0 : i - sents.length = 0 := by have := (List.getElem?_eq_some_iff.1 hy).1; simp at this; omega
        rw [h0] at hy
        cases hy
        have : i = t := by omega
        subst this
        exact ⟨rfl, rfl, rfl, rfl, by show (0 : Int) < ((T + 1 : Nat) : Int); omega⟩
  | 5, ⟨Z, hn, hl⟩ =>
    refine (eStep_busy .nilFunc true (K := fun x' h' => ZP h' B F e v n (t + 1) sents (T + 1) x' ∧ ChgT B TyE h h') Z.raw hn (.inl ⟨rfl, rfl⟩) ((eUnlock_spec Z hT hlt).mono ?_)).mono ?_
    · rintro r h1 ⟨rfl, x', r1, z1, c1⟩
      exact ⟨rfl, x', r1, z1, c1⟩
    · rintro r h2 ⟨rfl, x', h1, ⟨z1, c1⟩, r2, s2⟩
      obtain ⟨z2, c2⟩ := z1.next s2
      exact ⟨rfl, ⟨sents, _, ok, z2, rfl, hl⟩, c1.trans (sent_frame (c := c2) z1.b1)⟩
theorem EPs.waits (H : EPs h B F e v n t ph T) : ∃ b, (ph = 0 → b = decide (t < n)) ∧ HCalls Tryz.prog 15 #[.pointer (some ⟨e.eb, 0, none⟩)] h (fun r h' => r = .bool b ∧ h' = h) := by
  obtain ⟨sents, x, ok, H⟩ := H
  match ph, H with
  | 0, ⟨Z, _⟩ => exact ⟨_, fun _ => rfl, Z.waits⟩
  | 1, ⟨Z, _⟩ => exact ⟨decide (t < n), fun e => absurd e (by omega), Z.waits⟩
  | 2, ⟨Z, _⟩ => exact ⟨decide (t < n), fun e => absurd e (by omega), Z.waits⟩
  | 3, ⟨Z, _⟩ => exact ⟨decide (t < n), fun e => absurd e (by omega), Z.waits⟩
  | 4, ⟨Z, _⟩ => exact ⟨decide (t + 1 < n), fun e => absurd e (by omega), Z.waits⟩
  | 5, ⟨Z, _⟩ => exact ⟨decide (t + 1 < n), fun e => absurd e (by omega), Z.waits⟩
theorem EPs.idle (H : EPs h B F e v n t ph T) : HCalls Tryz.prog 16 #[.pointer (some ⟨e.eb, 0, none⟩)] h (fun r h' => r = .bool (ph == 0) ∧ h' = h) := by
  obtain ⟨sents, x, ok, H⟩ := H
  match ph, H with
  | 0, ⟨Z, hn, _⟩ => exact eIdle_nil Z.raw hn
  | 1, ⟨Z, hn, _⟩ => exact eIdle_fn Z.raw hn
  | 2, ⟨Z, hn, _⟩ => exact eIdle_fn Z.raw hn
  | 3, ⟨Z, hn, _⟩ => exact eIdle_fn Z.raw hn
  | 4, ⟨Z, hn, _⟩ => exact eIdle_fn Z.raw hn
  | 5, ⟨Z, hn, _⟩ => exact eIdle_fn Z.raw hn
/-- An egress that was just made. -/
structure EgI (h : Heap) (B : Nat) (F : Fb) (e : Eg) : Prop where
  raw : EgRaw h e.eb ⟨F.fb, e.q, e.who, e.nb, .nilFunc, none, 0, none, 0, 0, none, 0, 0, 0⟩
  lane : LaneAt h e.nb e.R F.P e.rc 0 none
  rows : OwnA encPtr 1 91 B h e.R e.rc ((List.range F.P).map fun j => F.rb j e.q)
  b1 : B ≤ e.eb
  b2 : B ≤ e.nb
  who : 0 ≤ e.who
theorem EgI.chgT {B' : Nat} {TY : List TypeId} (I : EgI h B F e) (c : ChgT B' TY h h') (n1 : 131 ∉ TY) (n2 : 186 ∉ TY) (n3 : 91 ∉ TY) : EgI h' B F e :=
  ⟨c.typ _ _ _ _ I.raw n1, c.typ _ _ _ _ I.lane n2, I.rows.chgT c n3, I.b1, I.b2, I.who⟩
theorem EgI.eps (I : EgI h B F e) {M : MemS} (Q : MemQ h B F e.q v M n 0 (fun _ => false) noB) (hl : M.locks[e.q]? = some (-1)) (hB : B ≤ h.size) (small : n ≤ 1000) (vs : v < 4096) : EPs h B F e v n 0 0 M.t := by
  refine ⟨[], _, fun i y hy => by simp at hy, ⟨M, ⟨I.raw, rfl, rfl, rfl, rfl, rfl, rfl, .inl ⟨rfl, rfl, rfl⟩, ⟨[], .inl ⟨rfl, rfl, rfl⟩, rfl⟩, ?_, I.rows, Q, I.b1, I.b2, hB, I.who, small, vs⟩, .inl rfl, hl, rfl⟩, rfl, rfl⟩
  rw [Nat.zero_mod]
  exact I.lane
theorem eNew_spec (H : FabAt h F) {q : Nat} {who : Int} (hq : q < F.P) (hw : 0 ≤ who) : HCalls Tryz.prog 13 #[.pointer (some ⟨F.fb, 0, none⟩), .int .i64 q, .int .i64 who] h (fun r h' => ∃ e, r = .tuple #[.pointer (some ⟨e.eb, 0, none⟩), .int .i64 0] ∧ e.q = q ∧ e.who = who ∧ EgI h' h.size F e ∧ Ext h h') := by
  have p2 := H.p2
  have p1 := H.p1
  refine xcalls env0 Tryz.func13 rfl (by kernel_rfl) rfl (by kernel_rfl) ?_
  refine xif_false (decide_eq_false ?_) ?_
  · show ¬ who < 0
    omega
  refine (cPlan_spec H).mono ?_
  rintro r h1 ⟨A', c', B', d', rfl, o1, o2, x1⟩
  refine ⟨Nat × Option Addr × Nat, fun z => [(0, .pointer (some ⟨F.fb, 0, none⟩)), (1, .int .i64 q), (2, .int .i64 who), (8, .slice z.2.1 z.1 z.2.2), (20, .int .i64 F.P), (21, .int .i64 z.1)], fun z h' => z.1 ≤ F.P ∧ OwnA encPtr 1 91 h.size h' z.2.1 z.2.2 ((List.range z.1).map fun j => F.rb j q) ∧ Ext h h', fun z => F.P - z.1, (0, none, 0), ⟨rfl, rfl, rfl, rfl, rfl, rfl, trivial⟩, ⟨Nat.zero_le _, .inl ⟨rfl, rfl, rfl⟩, x1⟩, ?_⟩
  rintro ⟨k, A, c⟩ h2 ⟨hk, o, x2⟩
  simp only at hk o
  refine xif_of (fun g => ?_) (fun g => ?_)
  · have g : k < F.P := by have := of_decide_eq_true g; omega
    refine (cRing_spec (H.ext x2) g hq).mono ?_
    rintro r h3 ⟨rfl, rfl⟩
    intro nb h4 n4
    have n4' : New h3 h4 nb (.cells (encPtr (F.rb k q)).toArray 91) := n4
    refine xappend_one' ptrInfo ptrZero rfl (by decide) encPtr_len encPtr_one o n4' (by simp) (by omega) x2.size fun A2 c2 h5 o5 K5 _ => ?_
    refine ⟨(k + 1, A2, c2), ⟨rfl, rfl, rfl, rfl, rfl, slot_inc (by omega), trivial⟩, ⟨by show k + 1 ≤ F.P; omega, ?_, K5.ext x2 o.ge⟩, by show F.P - (k + 1) < F.P - k; omega⟩
    show OwnA encPtr 1 91 h.size h5 A2 c2 ((List.range (k + 1)).map fun j => F.rb j q)
    rw [List.range_succ, List.map_append]
    exact o5
  · have g : ¬ (k : Int) < F.P := of_decide_eq_false g
    have e' : k = F.P := by omega
    subst e'
    refine (nNew_spec o (by simp) (by omega) p2).mono ?_
    rintro r h3 ⟨nb, A2, c2, rfl, gn, L3, o3, x3⟩
    intro eb h4 n4
    refine ⟨⟨eb, nb, A2, c2, who, q⟩, rfl, rfl, rfl, ⟨n4.this, n4.ext.blk L3, (o3.ext n4.ext).mono x2.size, n4.ge (x2.trans x3), Nat.le_trans x2.size gn, hw⟩, (x2.trans x3).trans n4.ext⟩
theorem sClone_spec {base : Nat} {A : Option Addr} {c n : Nat} {l : List Sn} (own : OwnA encSent 5 51 base h A c l) (hl : l.length = n) (hn : n ≤ 100000) : HCalls Tryz.prog 63 #[.slice A n c] h (fun v h' => ∃ A' c', v = .slice A' n c' ∧ OwnA encSent 5 51 h.size h' A' c' l ∧ Ext h h') := by
  subst hl
  refine xcalls env0 Tryz.func63 rfl (by kernel_rfl) rfl (by kernel_rfl) ?_
  cases A with
  | none =>
    rcases own with ⟨_, rfl, rfl⟩ | ⟨_, _, e, _⟩
    · exact ⟨none, 0, rfl, .inl ⟨rfl, rfl, rfl⟩, Ext.refl _⟩
    · cases e
  | some a =>
    intro b1 h1 n1
    have own1 : OwnA encSent 5 51 h.size h1 (some ⟨b1, 0, none⟩) 0 ([] : List Sn) := .inr ⟨b1, [], rfl, n1.ge (Ext.refl _), n1.this, rfl, Nat.le_refl _⟩
    refine xappend_many (xs := []) (ys := l) snInfo snZero rfl (by decide) encSent_len encSent_one own1 rfl rfl ((own.ext n1.ext).reads) (by omega) n1.ext.size fun A' c' h' o k => ?_
    exact ⟨A', c', by rw [Nat.zero_add]; rfl, o, k.ext n1.ext (fun b' e => by cases e; exact n1.ge (Ext.refl _))⟩
theorem hClone_spec {base : Nat} {A : Option Addr} {c n : Nat} {l : List He} (own : OwnA encHe 19 75 base h A c l) (hl : l.length = n) (hn : n ≤ 100000) : HCalls Tryz.prog 64 #[.slice A n c] h (fun v h' => ∃ A' c', v = .slice A' n c' ∧ OwnA encHe 19 75 h.size h' A' c' l ∧ Ext h h') := by
  subst hl
  refine xcalls env0 Tryz.func64 rfl (by kernel_rfl) rfl (by kernel_rfl) ?_
  cases A with
  | none =>
    rcases own with ⟨_, rfl, rfl⟩ | ⟨_, _, e, _⟩
    · exact ⟨none, 0, rfl, .inl ⟨rfl, rfl, rfl⟩, Ext.refl _⟩
    · cases e
  | some a =>
    intro b1 h1 n1
    have own1 : OwnA encHe 19 75 h.size h1 (some ⟨b1, 0, none⟩) 0 ([] : List He) := .inr ⟨b1, [], rfl, n1.ge (Ext.refl _), n1.this, rfl, Nat.le_refl _⟩
    refine xappend_many (xs := []) (ys := l) hsInfo hsZero rfl (by decide) encHe_len encHe_one own1 rfl rfl ((own.ext n1.ext).reads) (by omega) n1.ext.size fun A' c' h' o k => ?_
    exact ⟨A', c', by rw [Nat.zero_add]; rfl, o, k.ext n1.ext (fun b' e => by cases e; exact n1.ge (Ext.refl _))⟩
theorem eSent_spec (H : EPs h B F e v n t 0 T) : HCalls Tryz.prog 18 #[.pointer (some ⟨e.eb, 0, none⟩)] h (fun r h' => ∃ A c l, r = .slice A t c ∧ Row encSent 5 h' A l ∧ l.length = t ∧ SentOk F.P e.q v l ∧ Ext h h') := by
  obtain ⟨sents, x, ok, ⟨M, S, _⟩, hn, hl⟩ := H
  have raw := S.raw
  have hs := S.xs
  obtain ⟨f', p, who, nb, next, act, mem, sA, sn, sc, lA, ln, lc, since⟩ := x
  simp only at hs
  subst hs
  refine xcalls env0 Tryz.func18 rfl (by kernel_rfl) rfl (by kernel_rfl) ?_
  repeat (first | refine ⟨_, cell_blk (raw) rfl, ?_⟩)
  refine (sClone_spec S.own rfl (by have := S.small; have := S.mq.tn; omega)).mono ?_
  rintro r h1 ⟨A', c', rfl, o1, x1⟩
  exact ⟨A', c', sents, by rw [hl]; rfl, o1.row encSent_len, hl, ok, x1⟩
theorem eLog_spec (H : EPs h B F e v n t 0 T) : HCalls Tryz.prog 21 #[.pointer (some ⟨e.eb, 0, none⟩)] h (fun r h' => ∃ A c, r = .slice A (2 * t) c ∧ Ext h h') := by
  obtain ⟨sents, x, ok, ⟨M, S, _⟩, hn, hl⟩ := H
  have raw := S.raw
  have hs := S.xl
  obtain ⟨l, ol, hll⟩ := S.logs
  obtain ⟨f', p, who, nb, next, act, mem, sA, sn, sc, lA, ln, lc, since⟩ := x
  simp only at hs
  subst hs
  refine xcalls env0 Tryz.func21 rfl (by kernel_rfl) rfl (by kernel_rfl) ?_
  repeat (first | refine ⟨_, cell_blk (raw) rfl, ?_⟩)
  refine (hClone_spec ol hll (by have := S.small; have := S.mq.tn; omega)).mono ?_
  rintro r h1 ⟨A', c', rfl, o1, x1⟩
  exact ⟨A', c', rfl, x1⟩
theorem rfBound_spec {p : Nat} (hp : p ≤ 64) : HCalls Tryz.prog 14 #[.int .i64 p] h (fun r h' => r = .int .i64 ((32 + 8 * p : Nat) : Int) ∧ h' = h) := by
  refine xcalls env0 Tryz.func14 rfl (by kernel_rfl) rfl (by kernel_rfl) ?_
  refine ⟨congrArg (Value.int .i64) ?_, rfl⟩
  rw [wrap_i64 (x := 8 * (p : Int)) (by omega) (by omega), wrap_i64 (by omega) (by omega)]
  omega
theorem eBound_spec (H : FabAt h F) : HCalls Tryz.prog 22 #[.pointer (some ⟨F.fb, 0, none⟩)] h (fun r h' => r = .int .i64 ((32 + 8 * F.P : Nat) : Int) ∧ Ext h h') := by
  have p2 := H.p2
  refine xcalls env0 Tryz.func22 rfl (by kernel_rfl) rfl (by kernel_rfl) ?_
  refine (cPlan_spec H).mono ?_
  rintro r h1 ⟨A', c', B', d', rfl, o1, o2, x1⟩
  refine ⟨congrArg (Value.int .i64) ?_, x1⟩
  rw [wrap_i64 (x := 8 * (F.P : Int)) (by omega) (by omega), wrap_i64 (by omega) (by omega)]
  omega
end
end Go.Proofs.YthoikbogkhpciaaGreatE
