/- An order with a log of more than one entry; a port's rings are emptied. Conditions: none. -/
import Derived.Test.YtjjempefncgfhaaGreatDoorXGA
set_option linter.unusedVariables false
set_option linter.unusedSimpArgs false
set_option maxRecDepth 100000
namespace Go.Proofs.YtjjempefncgfhaaGreatDoorE
open Go Go.Proofs
def env_aEmpty : Nat → Ann
  | 2 => ⟨.op 0 [] <| .op 1 [] <| .op 2 [] <| .op 3 [] <| .op 4 [] <| .op 5 [] <| .op 6 [] <| .op 7 [] <| .op 8 [] <| .op 9 [] <| .op 10 [] <| .op 11 [] <| .op 12 [] <| .op 13 [] <| .op 14 [] <| .op 15 [] <| .op 16 [] <| .op 17 [] <| .op 18 [] <| .op 19 [] <| .op 20 [] <| .op 21 [] <| .op 22 [] <| .op 23 [] <| .op 24 [] <| .nil, [0, 0, 2, 6, 14, 30, 62, 126, 0, 256, 768, 1792, 4094, 8190, 0, 16384, 49152, 114688, 245760, 524286, 1048574, 2097150, 4194303, 8388607, 16777215], false⟩
  | 3 => ⟨.op 0 [] <| .op 1 [] <| .op 2 [] <| .op 3 [] <| .op 4 [] <| .op 5 [] <| .op 6 [] <| .op 7 [] <| .op 8 [] <| .op 9 [] <| .op 10 [] <| .op 11 [] <| .op 12 [] <| .op 13 [] <| .op 14 [] <| .op 15 [] <| .op 17 [] <| .op 18 [] <| .op 19 [] <| .op 20 [] <| .op 21 [] <| .op 22 [] <| .op 23 [] <| .op 24 [] <| .op 25 [] <| .op 26 [] <| .op 16 [4, 8, 20, 25] <| .op 27 [] <| .op 28 [4] <| .op 29 [] <| .op 30 [] <| .op 31 [] <| .op 32 [] <| .nil, [0, 0, 2, 6, 14, 0, 32, 96, 224, 0, 512, 1536, 3584, 7680, 15872, 32256, 65024, 0, 131072, 393216, 917504, 0, 2097152, 6291456, 14680064, 31457280, 66977792, 134217696, 268435424, 536870910, 1073741823, 2147483647, 4294967295], false⟩
  | 4 => ⟨.nil, [], true⟩
  | 6 => ⟨.op 0 [] <| .op 1 [] <| .op 2 [] <| .op 3 [] <| .op 4 [] <| .op 5 [] <| .op 6 [] <| .op 7 [] <| .op 8 [] <| .op 9 [] <| .op 10 [] <| .op 11 [] <| .nil, [0, 1, 3, 7, 0, 16, 48, 112, 240, 496, 1023, 2047], false⟩
  | 8 => ⟨.op 0 [] <| .op 1 [] <| .op 2 [] <| .op 3 [] <| .op 4 [] <| .op 5 [] <| .op 6 [] <| .op 8 [] <| .op 9 [] <| .op 10 [] <| .op 11 [] <| .op 12 [] <| .op 13 [] <| .op 14 [] <| .op 16 [] <| .op 17 [] <| .op 18 [] <| .op 19 [] <| .op 7 [11, 14, 19] <| .op 15 [19] <| .op 20 [] <| .op 21 [] <| .op 22 [] <| .op 23 [] <| .op 24 [] <| .op 25 [] <| .op 26 [] <| .op 27 [] <| .op 28 [] <| .op 29 [] <| .op 30 [] <| .nil, [0, 0, 0, 0, 8, 24, 56, 120, 0, 256, 768, 1792, 3840, 7936, 16128, 32760, 0, 65536, 196608, 458752, 1048568, 2097144, 2097145, 6291449, 14680057, 31457275, 65011707, 132120571, 268435455, 536870911, 1073741823], false⟩
  | 9 => ⟨.op 0 [] <| .op 1 [] <| .op 2 [] <| .op 3 [] <| .op 4 [] <| .op 5 [] <| .op 6 [] <| .op 7 [] <| .op 8 [] <| .op 9 [] <| .op 10 [] <| .op 11 [] <| .op 12 [] <| .op 13 [] <| .op 14 [] <| .nil, [0, 0, 2, 6, 14, 0, 32, 96, 224, 480, 992, 2046, 4095, 8191, 16383], false⟩
  | 11 => ⟨.nil, [], true⟩
  | 12 => ⟨.op 0 [] <| .op 1 [] <| .op 2 [] <| .op 3 [] <| .op 4 [] <| .op 5 [] <| .op 6 [] <| .op 7 [] <| .op 8 [] <| .op 9 [] <| .op 10 [] <| .op 11 [] <| .op 12 [] <| .nil, [0, 1, 3, 7, 0, 16, 48, 112, 240, 496, 1008, 2032, 4095], false⟩
  | _ => ⟨.nil, [], false⟩
def env_aUnlock2 : Nat → Ann
  | 2 => ⟨.op 0 [] <| .op 1 [] <| .op 2 [] <| .op 3 [] <| .op 4 [] <| .op 5 [] <| .op 6 [] <| .op 7 [] <| .op 8 [] <| .op 9 [] <| .op 10 [] <| .op 11 [] <| .op 12 [] <| .op 13 [] <| .op 14 [] <| .op 15 [] <| .op 16 [] <| .op 17 [] <| .op 18 [] <| .nil, [0, 1, 3, 7, 0, 16, 48, 112, 0, 256, 768, 1792, 4080, 8176, 0, 16384, 49152, 114688, 262143], false⟩
  | _ => ⟨.nil, [], false⟩
theorem OwnA.cut {α : Type} {enc : α → List Value} {sz : Nat} {T : TypeId} {base : Nat} {h : Heap} {A : Option Addr} {c : Nat} {xs ys : List α} (o : OwnA enc sz T base h A c (xs ++ ys)) (hl : ∀ x, (enc x).length = sz) : OwnA enc sz T base h A c xs := by
  rcases o with ⟨a, b, d⟩ | ⟨b, rest, rfl, hg, hb, hr, hc⟩
  · exact .inl ⟨a, (List.append_eq_nil_iff.1 b).1, d⟩
  · rw [List.length_append] at hr hc
    refine .inr ⟨b, ys.flatMap enc ++ rest, rfl, hg, ?_, ?_, by omega⟩
    · rw [hb, List.flatMap_append, List.append_assoc]
    · rw [List.length_append, flat_len fun x _ => hl x, hr, show c - xs.length = ys.length + (c - (xs.length + ys.length)) by omega, Nat.add_mul]
def TyD : List TypeId := 380 :: 252 :: TyC
theorem FabAt.chgD {l : List (Nat × TypeId)} {h h' : Heap} {F : Fb} (H : FabAt h F) (c : Chg l h h') (hl : ∀ p ∈ l, p.2 ∈ TyD) : FabAt h' F :=
  H.chgT (c.chgT (B := 0) (Nat.zero_le _) fun p hp => ⟨Nat.zero_le _, hl p hp⟩) (by decide) (by decide) (by decide) (by decide) (by decide)
/-- An order, its log, its locks, and the switch's memory. -/
structure CaL (h : Heap) (B : Nat) (F : Fb) (ab : Nat) (x : CaV) (ls : List Nat) (M : MemS) (es : List He) : Prop where
  raw : CaRaw h ab x
  xf : x.f = F.fb
  kn : x.kn = ls.length
  keys : OwnA encI 1 3 B h x.kA x.kc (lsI ls)
  kne : ∀ b, x.kA = some ⟨b, 0, none⟩ → b ≠ F.lb
  gn : x.gn = es.length
  log : OwnA encHe 19 150 B h x.gA x.gc es
  fab : FabAt h F
  mem : MemAt h F.mb F.cb F.lb M
  b0 : B ≤ ab
  b1 : B ≤ F.mb
  b2 : B ≤ F.cb
  b3 : B ≤ F.lb
  hB : B ≤ h.size
  w0 : 0 ≤ x.who
  small : ls.length ≤ 64
  prot : ∀ p ∈ F.prot, h[p.1]? = some (.cells p.2 3 (0, 0)) ∧ p.1 ≠ F.lb
theorem CaS.toL {h : Heap} {B : Nat} {F : Fb} {ab : Nat} {x : CaV} {ls : List Nat} {M : MemS} {E : He} (S : CaS h B F ab x ls M E) : CaL h B F ab x ls M [E] :=
  ⟨S.raw, S.xf, S.kn, S.keys, S.kne, S.gn, S.log, S.fab, S.mem, S.b0, S.b1, S.b2, S.b3, S.hB, S.w0, S.small, S.prot⟩
section
variable {h h' : Heap} {B : Nat} {F : Fb} {ab : Nat} {x : CaV} {ls : List Nat} {M : MemS} {es : List He}
/-- The memory goes on, and other things. -/
theorem CaL.chg (S : CaL h B F ab x ls M es) {l : List (Nat × TypeId)} (c : Chg l h h') (hl : ∀ p ∈ l, p.2 ∈ TyD) (n1 : ∀ k, (k, 200) ∉ l) (n2 : ∀ k, (k, 150) ∉ l) (n3 : ∀ k, (k, 3) ∈ l → k = F.lb) {M' : MemS} (m : MemAt h' F.mb F.cb F.lb M') : CaL h' B F ab x ls M' es :=
  ⟨c.blk S.raw (n1 _), S.xf, S.kn, S.keys.chg c (fun b hb hm => S.kne b hb (n3 _ hm)), S.kne, S.gn, S.log.chg c (fun b _ => n2 _), S.fab.chgD c hl, m, S.b0, S.b1, S.b2, S.b3, Nat.le_trans S.hB c.size, S.w0, S.small, fun p hp => ⟨c.blk (S.prot p hp).1 (fun hm => (S.prot p hp).2 (n3 _ hm)), (S.prot p hp).2⟩⟩
theorem CaL.memory (S : CaL h B F ab x ls M es) (c : Chg (ML F.mb F.cb F.lb) h h') {M' : MemS} (m : MemAt h' F.mb F.cb F.lb M') : CaL h' B F ab x ls M' es :=
  S.chg c (by simp [ML, TyD, TyC]) (by simp [ML]) (by simp [ML]) (by simp [ML]) m
theorem CaL.ext (S : CaL h B F ab x ls M es) (e : Ext h h') : CaL h' B F ab x ls M es := S.memory (e.chg _) (S.mem.ext e)
/-- Another field. -/
theorem CaL.field (S : CaL h B F ab x ls M es) {x' : CaV} (c : Chg [(ab, 200)] h h') (r : CaRaw h' ab x') (e1 : x'.f = x.f) (e2 : x'.kn = x.kn) (e3 : x'.kA = x.kA) (e4 : x'.kc = x.kc) (e5 : x'.gn = x.gn) (e6 : x'.gA = x.gA) (e7 : x'.gc = x.gc) (e8 : x'.who = x.who) : CaL h' B F ab x' ls M es :=
  ⟨r, by rw [e1]; exact S.xf, by rw [e2]; exact S.kn, by rw [e3, e4]; exact S.keys.chg c (fun b _ => by simp), by rw [e3]; exact S.kne, by rw [e5]; exact S.gn, by rw [e6, e7]; exact S.log.chg c (fun b _ => by simp), S.fab.chgC c (by simp [TyC]), S.mem.chg c (by simp) (by simp) (by simp), S.b0, S.b1, S.b2, S.b3, Nat.le_trans S.hB c.size, by rw [e8]; exact S.w0, S.small, fun p hp => ⟨c.blk (S.prot p hp).1 (by simp), (S.prot p hp).2⟩⟩
theorem CaL.fr (S : CaL h B F ab x ls M es) {l : List (Nat × TypeId)} (c : Chg l h h') (hl : ∀ p ∈ l, B ≤ p.1 ∧ p.2 ∈ TyD) : ChgT B TyD h h' := c.chgT S.hB hl
theorem CaL.frM (S : CaL h B F ab x ls M es) (c : Chg (ML F.mb F.cb F.lb) h h') : ChgT B TyD h h' := S.fr c fun p hp => by
  simp [ML] at hp
  rcases hp with rfl | rfl | rfl
  · exact ⟨S.b1, by simp [TyD, TyC]⟩
  · exact ⟨S.b2, by simp [TyD, TyC]⟩
  · exact ⟨S.b3, by simp [TyD, TyC]⟩
theorem CaL.frF (S : CaL h B F ab x ls M es) (c : Chg [(ab, 200)] h h') : ChgT B TyD h h' := S.fr c fun p hp => by
  simp at hp
  subst hp
  exact ⟨S.b0, by simp [TyD, TyC]⟩
theorem ChgT.toD (c : ChgT B TyC h h') : ChgT B TyD h h' := c.mono fun T hT => .tail _ (.tail _ hT)
theorem CaL.next (S : CaL h B F ab x ls M es) {nx : Value} (r : CaRaw h' ab { x with next := nx }) (c : Chg [(ab, 200)] h h') : CaL h' B F ab { x with next := nx } ls M es := S.field c r rfl rfl rfl rfl rfl rfl rfl rfl
/-- A field of an entry is stored. -/
theorem CaL.entry (S : CaL h B F ab x ls M es) {lb : Nat} (hg : x.gA = some ⟨lb, 0, none⟩) {i j : Nat} {vs : List Value} {E E' : He} (s : Stored h ⟨lb, i * 19 + j, none⟩ vs h') (hi : es[i]? = some E) (hj : j + vs.length ≤ 19) (he : encHe E' = lset (encHe E) j vs) : CaL h' B F ab x ls M (es.set i E') ∧ Chg [(lb, 150)] h h' ∧ B ≤ lb := by
  have ol := S.log
  rw [hg] at ol
  obtain ⟨cs, hb⟩ := ol.block
  have c : Chg [(lb, 150)] h h' := s.chg hb (.head _)
  have o' := ol.put encHe_len (x' := E') rfl s hi hj he
  refine ⟨⟨c.blk S.raw (by simp), S.xf, S.kn, S.keys.chg c (fun b _ => by simp), S.kne, by rw [List.length_set]; exact S.gn, ?_, S.fab.chgC c (by simp [TyC]), S.mem.chg c (by simp) (by simp) (by simp), S.b0, S.b1, S.b2, S.b3, Nat.le_trans S.hB c.size, S.w0, S.small, fun p hp => ⟨c.blk (S.prot p hp).1 (by simp), (S.prot p hp).2⟩⟩, c, ol.ge _ rfl⟩
  rw [hg]; exact o'
theorem CaL.csE (S : CaL h B F ab x ls M es) {lb : Nat} (hg : x.gA = some ⟨lb, 0, none⟩) {i j : Nat} (hi : i < es.length) (hj : j + 1 ≤ 19) : CanSet h ⟨lb, i * 19 + j, none⟩ 1 := by
  have ol := S.log
  rw [hg] at ol
  obtain ⟨b, e, _, cs⟩ := ol.canset encHe_len (i := i) (j := j) (n := 1) hi hj
  cases e
  exact cs
/-- The last lock is left. -/
theorem aUnlock_log {k : Nat} (S : CaL h B F ab x ls M es) (hh : x.held = k + 1) {p : Nat} (hk : ls[k]? = some p) (hp : p < F.P) (hl : M.locks[p]? = some x.who) (ht : M.t < 900000) :
    HCalls Tryz.prog 224 #[.pointer (some ⟨ab, 0, none⟩)] h (fun v h' => v = (if 0 < k then .func (.func 224) #[] #[] else .nilFunc) ∧
      CaL h' B F ab { x with held := k } ls { M with locks := M.locks.set p (-1), t := M.t + 1 } es ∧ ∃ h1, Chg [(ab, 200)] h h1 ∧ Chg (ML F.mb F.cb F.lb) h1 h') := by
  obtain ⟨f', who, o, next, gA, gn, gc, kA, kn, kc, held, from_, pop, act⟩ := x
  have raw := S.raw
  have hf := S.xf
  have hkn := S.kn
  have small := S.small
  simp only at hf hkn hh
  subst hf hkn hh
  have hkl : k < ls.length := (List.getElem?_eq_some_iff.1 hk).1
  refine xcalls env_aUnlock2 Tryz.func224 rfl (by kernel_rfl) rfl (by kernel_rfl) ?_
  repeat (first | refine ⟨_, cell_blk (raw) rfl, ?_⟩)
  refine ⟨rfl, rfl, canset_blk raw rfl, fun h1 s1 => ?_⟩
  have raw1 : CaRaw h1 ab ⟨F.fb, who, o, next, gA, gn, gc, kA, ls.length, kc, k, from_, pop, act⟩ := by
    have := s1.put raw
    rw [show IntKind.i64.wrap (((k + 1 : Nat) : Int) - 1) = (k : Int) by rw [wrap_i64 (by omega) (by omega)]; omega] at this
    exact this
  have c1 : Chg [(ab, 200)] h h1 := s1.chg raw (.head _)
  have S1 := S.field c1 raw1 rfl rfl rfl rfl rfl rfl rfl rfl
  obtain ⟨a, ha, hrd⟩ := S1.keys.row encI_len k p (lsI_get hk)
  repeat (first | refine ⟨_, cell_blk (raw1) rfl, ?_⟩)
  refine ⟨a, ha, Int.natCast_nonneg k, Int.ofNat_lt.2 hkl, _, hrd.cons, ?_⟩
  repeat (first | refine ⟨_, cell_blk (raw1) rfl, ?_⟩)
  refine (cFree_spec S1.fab S1.mem hp hl S.w0 (by omega)).mono ?_
  rintro v h2 ⟨rfl, m2, c2⟩
  have S2 := S1.memory c2 m2
  have raw2 := S2.raw
  repeat (first | refine ⟨_, cell_blk (raw2) rfl, ?_⟩)
  refine xif_of (fun g => ?_) (fun g => ?_)
  · have g : (k : Int) > 0 := of_decide_eq_true g
    exact ⟨by rw [if_pos (show 0 < k by omega)]; rfl, S2, h1, c1, c2⟩
  · have g : ¬ (k : Int) > 0 := of_decide_eq_false g
    exact ⟨by rw [if_neg (show ¬ 0 < k by omega)]; rfl, S2, h1, c1, c2⟩
end
/-- A taking that is begun, in the log. -/
def gotH (who t : Int) (j q : Nat) (mk fin ans : Int) : He := ⟨who, t, mk, fin, ⟨11, (j : Int), (q : Int), 0, 0, 0, 0, 0, 0, 0, 0, 0, 0, 0⟩, ans⟩
/-- What is alike as long as a port is emptied. -/
structure EmpX (q : Nat) (who : Int) (o : Op17) (j : Nat) (x : CaV) : Prop where
  xo : x.o = o
  xw : x.who = who
  port : o.port = (q : Int)
  held : x.held = 1
  from_ : x.from_ = (j : Int)
/-- A taking is under way: from ring j, by its phase; es is what was noted ahead of it. -/
def EmpP (h : Heap) (B : Nat) (F : Fb) (ab q : Nat) (who : Int) (o : Op17) (M : MemS) (L : Nat → Nat → List Int) (j p : Nat) (es : List He) (x : CaV) : Prop :=
  EmpX q who o j x ∧ ∃ pb nx val T0, x.pop = some pb ∧ B ≤ pb ∧ CaL h B F ab x [q] M (es ++ [gotH who T0 j q 0 0 0]) ∧ ActAt h pb ⟨F.rb j q, 6, nx, val, false, 0, false⟩ ∧ PopPh p nx val (L j q) ∧ Rings h B F M L no2 (up2 no2 j q true)
/-- None is under way. -/
def EmpN (h : Heap) (B : Nat) (F : Fb) (ab q : Nat) (who : Int) (o : Op17) (M : MemS) (L : Nat → Nat → List Int) (j : Nat) (es : List He) (x : CaV) : Prop :=
  EmpX q who o j x ∧ x.pop = none ∧ CaL h B F ab x [q] M es ∧ Rings h B F M L no2 no2
section
variable {h h' : Heap} {B : Nat} {F : Fb} {ab q j p : Nat} {who : Int} {o : Op17} {x : CaV} {M : MemS} {L : Nat → Nat → List Int} {es : List He}
theorem frR {pb rb : Nat} {ls : List Nat} (g1 : B ≤ pb) (g2 : B ≤ rb) (S : CaL h B F ab x ls M es) : ∀ p ∈ ((pb, 380) :: (rb, 252) :: ML F.mb F.cb F.lb), B ≤ p.1 ∧ p.2 ∈ TyD := by
  intro p hp
  simp [ML] at hp
  rcases hp with rfl | rfl | rfl | rfl | rfl
  · exact ⟨g1, by simp [TyD]⟩
  · exact ⟨g2, by simp [TyD]⟩
  · exact ⟨S.b1, by simp [TyD, TyC]⟩
  · exact ⟨S.b2, by simp [TyD, TyC]⟩
  · exact ⟨S.b3, by simp [TyD, TyC]⟩
theorem aEmpty_spec (H : (p = 0 ∧ EmpN h B F ab q who o M L j es x) ∨ (0 < p ∧ EmpP h B F ab q who o M L j p es x)) (hj : j < F.P) (hq : q < F.P) (hlen : es.length ≤ 10000) (ht : M.t < 900000) :
    HCalls Tryz.prog 228 #[.pointer (some ⟨ab, 0, none⟩)] h (fun v h' => ∃ x' M', CaRaw h' ab x' ∧ Near F M M' ∧ ChgT B TyD h h' ∧
      ((v = .func (.func 228) #[] #[] ∧ L j q ≠ [] ∧ EmpP h' B F ab q who o M' L j (p + 1) es x') ∨
       (v = .func (.func (if j + 1 < F.P then 228 else 224)) #[] #[] ∧ p = 0 ∧ L j q = [] ∧ EmpN h' B F ab q who o M' L (j + 1) es x') ∨
       (v = .func (.func 228) #[] #[] ∧ p = 2 ∧ ∃ y r T0, L j q = y :: r ∧ EmpN h' B F ab q who o M' (up2 L j q r) j (es ++ [gotH who T0 j q ((M.t + 1 : Nat) : Int) ((M.t + 1 : Nat) : Int) (IntKind.i64.wrap y)]) x'))) := by
  have raw : CaRaw h ab x := by rcases H with ⟨_, _, _, H, _⟩ | ⟨_, _, _, _, _, _, _, _, H, _⟩ <;> exact H.raw
  have p2 : F.P ≤ 64 := by rcases H with ⟨_, _, _, H, _⟩ | ⟨_, _, _, _, _, _, _, _, H, _⟩ <;> exact H.fab.p2
  refine xcalls env_aEmpty Tryz.func228 rfl (by kernel_rfl) rfl (by kernel_rfl) ?_
  refine ⟨Unit, fun _ => [(0, .pointer (some ⟨ab, 0, none⟩))], fun _ h' => (∃ x', EmpP h' B F ab q who o M L j p es x') ∧ ChgT B TyD h h', ?_, ?_⟩
  · rcases H with ⟨rfl, E⟩ | ⟨hp, E⟩
    · obtain ⟨X, hpop, S, W⟩ := E
      obtain ⟨R, HR, Q, small, hi, hob⟩ := W.ring j q hj hq
      have hf := S.xf
      have hgn := S.gn
      have log := S.log
      have xo := X.xo
      have xw := X.xw
      have xp := X.port
      have xh := X.held
      have xf := X.from_
      obtain ⟨RA, rc, hb', rows, ow, hl, hr⟩ := S.fab.blk
      obtain ⟨row, hrow⟩ : ∃ row, rows[j]? = some row := ⟨rows[j]'(by omega), List.getElem?_eq_getElem (by omega)⟩
      obtain ⟨a1, hA1, hrd1⟩ := ow.row encSl_len j row hrow
      obtain ⟨rn, ro⟩ := hr j row hrow
      obtain ⟨a2, hA2, hrd2⟩ := ro.row encPtr_len q (F.rb j q) (by rw [List.getElem?_map, List.getElem?_range hq]; rfl)
      obtain ⟨f', who', od, next, gA, gn, gc, kA, kn, kc, held, from_, pop, act⟩ := x
      simp only at hf hgn hpop log xo xw xh xf
      subst hf hgn hpop xo xw xh xf
      repeat (first | refine ⟨_, cell_blk (raw) rfl, ?_⟩ | refine ⟨_, cell_blk (hb') rfl, ?_⟩)
      refine ⟨a1, hA1, Int.natCast_nonneg j, Int.ofNat_lt.2 hj, _, hrd1.cons, ?_⟩
      repeat (first | refine ⟨_, cell_blk (raw) rfl, ?_⟩)
      refine ⟨a2, hA2, ?_, ?_, .pointer (some ⟨F.rb j q, 0, none⟩), ?_, ?_⟩
      · rw [xp]; exact Int.natCast_nonneg q
      · rw [xp, rn]; exact Int.ofNat_lt.2 hq
      · rw [xp]; exact hrd2.cons
      refine (rPop_spec HR (hob.trans rfl)).mono ?_
      rintro v h1 ⟨pb, rfl, gpb, A1, R1, c1⟩
      have raw1 := c1.blk raw (by simp)
      have S1 := S.chg c1 (by simp [TyD]) (by simp) (by simp) (by simp) (S.mem.chg c1 (by simp) (by simp) (by simp))
      have W1 := W.one (M' := M) (q' := L j q) (i' := false) (o' := true) c1 hj hq (by simp) R1 rfl (fun _ _ => rfl) ⟨Q.base, Q.size, Q.len, Q.ic, Q.oa, Q.ia, Q.cp, Q.ct, Q.cx⟩ small hi rfl
      rw [up2_id rfl, up2_id (show no2 j q = false from rfl)] at W1
      have f1 := S.fr c1 (fun p hp => by simp at hp; subst hp; exact ⟨W.ge _ _ hj hq, by simp [TyD]⟩)
      refine ⟨rfl, rfl, canset_blk raw1 rfl, fun h2 s2 => ?_⟩
      have raw2 : CaRaw h2 ab ⟨F.fb, who', od, next, gA, es.length, gc, kA, kn, kc, 1, (j : Int), some pb, act⟩ := s2.put raw1
      have c2 : Chg [(ab, 200)] h1 h2 := s2.chg raw1 (.head _)
      have S2 := S1.field c2 raw2 rfl rfl rfl rfl rfl rfl rfl rfl
      obtain ⟨RA2, rc2, hb2, _⟩ := S2.fab.blk
      have A2 := c2.blk A1 (by simp)
      have W2 := W1.same (M' := M) c2 (by simp) rfl (fun _ _ => rfl)
      have f2 := f1.trans (S1.frF c2)
      repeat (first | refine ⟨_, cell_blk (raw2) rfl, ?_⟩ | refine ⟨_, cell_blk (hb2) rfl, ?_⟩)
      refine (mTime_spec S2.mem).mono ?_
      rintro v h3 ⟨rfl, rfl⟩
      try (refine ⟨by ((repeat (first | refine ⟨cell_blk (raw2) rfl, ?_⟩ | refine ⟨cell_blk (hb2) rfl, ?_⟩)); exact trivial), ?_⟩)
      repeat (first | refine ⟨_, cell_blk (raw2) rfl, ?_⟩ | refine ⟨_, cell_blk (hb2) rfl, ?_⟩)
      intro gb h4 n4
      have raw4 := n4.ext.blk raw2
      try (refine ⟨by ((repeat (first | refine ⟨cell_blk (raw4) rfl, ?_⟩)); exact trivial), ?_⟩)
      have S4 := S2.ext n4.ext
      have n4' : New h3 h4 gb (.cells (encHe (gotH who' (M.t : Int) j q 0 0 0)).toArray 150) := by
        have e : (od.port : Int) = (q : Int) := xp
        have := n4
        rw [e] at this
        exact this
      refine xappend_one' hsInfo hsZero rfl (by decide) encHe_len encHe_one S2.log n4' rfl (by show (es.length + 1) * 144 ≤ 140737488355328; omega) S2.hB fun A' c' h5 o5 K5 hA5 => ?_
      obtain ⟨l5, c5, hl5⟩ := K5.toChg S2.log
      have nin : ∀ k T', T' ≠ 150 → (k, T') ∉ l5 := fun k T' ne hm => ne (hl5 _ hm).1
      have raw5 := c5.blk raw2 (nin _ _ (by decide))
      refine ⟨rfl, rfl, canset_blk raw5 rfl, fun h6 s6 => ?_⟩
      have raw6 : CaRaw h6 ab ⟨F.fb, who', od, next, A', es.length + 1, c', kA, kn, kc, 1, (j : Int), some pb, act⟩ := s6.put raw5
      have c6 : Chg [(ab, 200)] h5 h6 := s6.chg raw5 (.head _)
      have S6 : CaL h6 B F ab ⟨F.fb, who', od, next, A', es.length + 1, c', kA, kn, kc, 1, (j : Int), some pb, act⟩ [q] M (es ++ [gotH who' (M.t : Int) j q 0 0 0]) :=
        ⟨raw6, rfl, S2.kn, (S2.keys.chg c5 (fun b _ => nin _ _ (by decide))).chg c6 (fun b _ => by simp), S2.kne, by rw [List.length_append]; rfl, o5.chg c6 (fun b _ => by simp), (S2.fab.chgD c5 (fun p hp => by rw [(hl5 _ hp).1]; simp [TyD, TyC])).chgC c6 (by simp [TyC]), (S2.mem.chg c5 (nin _ _ (by decide)) (nin _ _ (by decide)) (nin _ _ (by decide))).chg c6 (by simp) (by simp) (by simp), S2.b0, S2.b1, S2.b2, S2.b3, Nat.le_trans S2.hB (Nat.le_trans c5.size c6.size), S2.w0, S2.small, fun p hp => ⟨c6.blk (c5.blk (S2.prot p hp).1 (nin _ _ (by decide))) (by simp), (S2.prot p hp).2⟩⟩
      have A6 := c6.blk (c5.blk A2 (nin _ _ (by decide))) (by simp)
      have W6 := (W2.same (M' := M) c5 (fun k => nin _ _ (by decide)) rfl (fun _ _ => rfl)).same (M' := M) c6 (by simp) rfl (fun _ _ => rfl)
      have f5 : ChgT B TyD h3 h5 := c5.chgT S2.hB fun p hp => ⟨(hl5 _ hp).2, by rw [(hl5 _ hp).1]; simp [TyD, TyC]⟩
      have f6 : ChgT B TyD h5 h6 := c6.chgT (Nat.le_trans S2.hB c5.size) fun p hp => by simp at hp; subst hp; exact ⟨S2.b0, by simp [TyD, TyC]⟩
      exact ⟨(), ⟨rfl, trivial⟩, ⟨_, ⟨rfl, rfl, xp, rfl, rfl⟩, pb, 273, 0, (M.t : Int), rfl, Nat.le_trans S.hB gpb, S6, A6, .inl ⟨rfl, rfl⟩, W6⟩, (f2.trans f5).trans f6⟩
    · obtain ⟨pb, hpop⟩ : ∃ pb, x.pop = some pb := by obtain ⟨_, pb, _, _, _, e, _⟩ := E; exact ⟨pb, e⟩
      obtain ⟨f', who', od, next, gA, gn, gc, kA, kn, kc, held, from_, pop, act⟩ := x
      simp only at hpop
      subst hpop
      repeat (first | refine ⟨_, cell_blk (raw) rfl, ?_⟩)
      exact ⟨(), ⟨rfl, trivial⟩, ⟨_, E⟩, ChgT.refl _⟩
  · rintro _ h1 ⟨⟨x, X, pb, nx, val, T0, hpop, gpb, S, A, ph, W⟩, f1⟩
    have raw1 := S.raw
    have hf := S.xf
    have hgn := S.gn
    have log := S.log
    have xo := X.xo
    have xw := X.xw
    have xp := X.port
    have xh := X.held
    have xf := X.from_
    obtain ⟨f', who', od, next, gA, gn, gc, kA, kn, kc, held, from_, pop, act⟩ := x
    simp only at hf hgn hpop log xo xw xh xf
    subst hf hgn hpop xo xw xh xf
    repeat (first | refine ⟨_, cell_blk (raw1) rfl, ?_⟩)
    refine (pop_step W hj hq up2_self S.mem (by omega) S.fab.s2 A ph).mono ?_
    rintro v h2 ⟨M2, N2, m2, c2, ⟨rfl, hne, ⟨nx2, val2, ph2, A2⟩, W2⟩ | ⟨rfl, p0, hL, ⟨A', A2, hok⟩, W2⟩ | ⟨rfl, p2', y, r, hL, ⟨A', A2, hok, hval, hmk⟩, W2⟩⟩
    · have S2 := S.chg c2 (by simp [ML, TyD, TyC]) (by simp [ML]) (by simp [ML]) (by simp [ML]) m2
      have f2 := f1.trans (S.fr c2 (frR gpb (W.ge _ _ hj hq) S))
      exact ⟨_, M2, S2.raw, N2, f2, .inl ⟨rfl, hne, ⟨rfl, rfl, xp, rfl, rfl⟩, pb, nx2, val2, T0, rfl, gpb, S2, A2, ph2, W2⟩⟩
    · have S2 := S.chg c2 (by simp [ML, TyD, TyC]) (by simp [ML]) (by simp [ML]) (by simp [ML]) m2
      have f2 := f1.trans (S.fr c2 (frR gpb (W.ge _ _ hj hq) S))
      have raw2 := S2.raw
      obtain ⟨lb, hg⟩ : ∃ lb, gA = some ⟨lb, 0, none⟩ := by
        rcases S2.log with ⟨_, h1, _⟩ | ⟨b, _, h1, _⟩
        · exact absurd h1 (by simp)
        · exact ⟨b, h1⟩
      subst hg
      have hl : IntKind.i64.wrap (((es ++ [gotH who' T0 j q 0 0 0]).length : Int) - 1) = (es.length : Int) := by
        rw [List.length_append, List.length_singleton, wrap_i64 (by omega) (by omega)]; omega
      repeat (first | refine ⟨_, cell_blk (raw2) rfl, ?_⟩)
      repeat (first | refine ⟨_, cell_blk (raw2) rfl, ?_⟩)
      refine ⟨⟨lb, 0, none⟩, rfl, ?_, ?_, ?_⟩
      · show 0 ≤ IntKind.i64.wrap (((es ++ [gotH who' T0 j q 0 0 0]).length : Int) - 1)
        rw [hl]; omega
      · show IntKind.i64.wrap (((es ++ [gotH who' T0 j q 0 0 0]).length : Int) - 1) < (((es ++ [gotH who' T0 j q 0 0 0]).length : Nat) : Int)
        rw [hl, List.length_append, List.length_singleton]; omega
      refine ⟨Unit, fun _ => [(0, .pointer (some ⟨ab, 0, none⟩))], fun _ h' => (∃ x', EmpX q who' od (j + 1) x' ∧ CaL h' B F ab x' [q] M2 es) ∧ Rings h' B F M2 L no2 no2 ∧ ChgT B TyD h h', ?_, ?_⟩
      · repeat (first | refine ⟨_, cell_blk (raw2) rfl, ?_⟩)
        refine (rOk_spec A2).mono ?_
        rintro v h3 ⟨rfl, rfl⟩
        rw [hok]
        repeat (first | refine ⟨_, cell_blk (raw2) rfl, ?_⟩)
        repeat (first | refine ⟨_, cell_blk (raw2) rfl, ?_⟩)
        have hgc : (es ++ [gotH who' T0 j q 0 0 0]).length ≤ gc := by
          rcases S2.log with ⟨_, h1, _⟩ | ⟨b, _, _, _, _, _, h1⟩
          · exact absurd h1 (by simp)
          · exact h1
        rw [List.length_append, List.length_singleton] at hgc
        have ev : Value.slice (if ((gc : Nat) : Int).toNat = Int.toNat 0 then (some ⟨lb, 0, none⟩ : Option Addr) else Option.map (fun (x : Addr) => x.add (Int.toNat 0 * 19)) (some ⟨lb, 0, none⟩)) ((IntKind.i64.wrap (((es ++ [gotH who' T0 j q 0 0 0]).length : Int) - 1)).toNat - Int.toNat 0) (((gc : Nat) : Int).toNat - Int.toNat 0) = Value.slice (some ⟨lb, 0, none⟩) es.length gc := by
          rw [hl, Int.toNat_natCast, Int.toNat_natCast]
          split
          · simp
          · rw [Option.map_some, add_lit]; simp
        refine ⟨fun g => absurd g (by decide), Int.le_refl _, ?_, ?_, Int.le_refl _, rfl, rfl, canset_blk raw2 rfl, fun h4 s4 => ?_⟩
        · show 0 ≤ IntKind.i64.wrap (((es ++ [gotH who' T0 j q 0 0 0]).length : Int) - 1)
          rw [hl]; omega
        · show IntKind.i64.wrap (((es ++ [gotH who' T0 j q 0 0 0]).length : Int) - 1) ≤ (gc : Int)
          rw [hl]; omega
        have s4' : Stored h3 ⟨ab, 17, none⟩ [Value.slice (some ⟨lb, 0, none⟩) es.length gc] h4 := by rw [← ev]; exact s4
        have raw4 : CaRaw h4 ab ⟨F.fb, who', od, next, some ⟨lb, 0, none⟩, es.length, gc, kA, kn, kc, 1, (j : Int), some pb, act⟩ := s4'.put raw2
        have c4 : Chg [(ab, 200)] h3 h4 := s4'.chg raw2 (.head _)
        have S4 : CaL h4 B F ab ⟨F.fb, who', od, next, some ⟨lb, 0, none⟩, es.length, gc, kA, kn, kc, 1, (j : Int), some pb, act⟩ [q] M2 es :=
          ⟨raw4, rfl, S2.kn, S2.keys.chg c4 (fun b _ => by simp), S2.kne, rfl, (S2.log.cut encHe_len).chg c4 (fun b _ => by simp), S2.fab.chgC c4 (by simp [TyC]), S2.mem.chg c4 (by simp) (by simp) (by simp), S2.b0, S2.b1, S2.b2, S2.b3, Nat.le_trans S2.hB c4.size, S2.w0, S2.small, fun p hp => ⟨c4.blk (S2.prot p hp).1 (by simp), (S2.prot p hp).2⟩⟩
        repeat (first | refine ⟨_, cell_blk (raw4) rfl, ?_⟩)
        refine ⟨rfl, rfl, canset_blk raw4 rfl, fun h5 s5 => ?_⟩
        have raw5 : CaRaw h5 ab ⟨F.fb, who', od, next, some ⟨lb, 0, none⟩, es.length, gc, kA, kn, kc, 1, ((j + 1 : Nat) : Int), some pb, act⟩ := by
          have := s5.put raw4
          rw [wrap_add1 j (by omega)] at this
          exact this
        have c5 : Chg [(ab, 200)] h4 h5 := s5.chg raw4 (.head _)
        have S5 := S4.field c5 raw5 rfl rfl rfl rfl rfl rfl rfl rfl
        have W5 := (W2.same (M' := M2) c4 (by simp) rfl (fun _ _ => rfl)).same (M' := M2) c5 (by simp) rfl (fun _ _ => rfl)
        rw [up2_up2, up2_id (show no2 j q = false from rfl)] at W5
        exact ⟨(), ⟨rfl, trivial⟩, ⟨_, ⟨rfl, rfl, xp, rfl, rfl⟩, S5⟩, W5, (f2.trans (S2.frF c4)).trans (S4.frF c5)⟩
      · rintro _ h3 ⟨⟨x3, X3, S3⟩, W3, f3⟩
        have raw3 := S3.raw
        have hf := S3.xf
        have xf := X3.from_
        obtain ⟨g3, g1, g2, g4, g5⟩ := X3
        obtain ⟨f', who', od, next, gA, gn, gc, kA, kn, kc, held, from_, pop, act⟩ := x3
        simp only at hf xf
        subst hf xf
        refine ⟨rfl, rfl, canset_blk raw3 rfl, fun h4 s4 => ?_⟩
        have raw4 : CaRaw h4 ab ⟨F.fb, who', od, next, gA, gn, gc, kA, kn, kc, held, ((j + 1 : Nat) : Int), none, act⟩ := s4.put raw3
        have c4 : Chg [(ab, 200)] h3 h4 := s4.chg raw3 (.head _)
        have S4 := S3.field c4 raw4 rfl rfl rfl rfl rfl rfl rfl rfl
        obtain ⟨RA4, rc4, hb4, _⟩ := S4.fab.blk
        have W4 := W3.same (M' := M2) c4 (by simp) rfl (fun _ _ => rfl)
        repeat (first | refine ⟨_, cell_blk (raw4) rfl, ?_⟩ | refine ⟨_, cell_blk (hb4) rfl, ?_⟩)
        have f4 := f3.trans (S3.frF c4)
        refine xif_of (fun g => ?_) (fun g => ?_)
        · have g : ((j + 1 : Nat) : Int) < (F.P : Int) := of_decide_eq_true g
          refine ⟨_, M2, raw4, N2, f4, .inr (.inl ⟨?_, p0, hL, ⟨g3, g1, g2, g4, rfl⟩, rfl, S4, W4⟩)⟩
          rw [if_pos (show j + 1 < F.P by omega)]; rfl
        · have g : ¬ ((j + 1 : Nat) : Int) < (F.P : Int) := of_decide_eq_false g
          refine ⟨_, M2, raw4, N2, f4, .inr (.inl ⟨?_, p0, hL, ⟨g3, g1, g2, g4, rfl⟩, rfl, S4, W4⟩)⟩
          rw [if_neg (show ¬ (j + 1 < F.P) by omega)]; rfl
    · have S2 := S.chg c2 (by simp [ML, TyD, TyC]) (by simp [ML]) (by simp [ML]) (by simp [ML]) m2
      have f2 := f1.trans (S.fr c2 (frR gpb (W.ge _ _ hj hq) S))
      have raw2 := S2.raw
      obtain ⟨lb, hg⟩ : ∃ lb, gA = some ⟨lb, 0, none⟩ := by
        rcases S2.log with ⟨_, h1, _⟩ | ⟨b, _, h1, _⟩
        · exact absurd h1 (by simp)
        · exact ⟨b, h1⟩
      subst hg
      have hl : IntKind.i64.wrap (((es ++ [gotH who' T0 j q 0 0 0]).length : Int) - 1) = (es.length : Int) := by
        rw [List.length_append, List.length_singleton, wrap_i64 (by omega) (by omega)]; omega
      repeat (first | refine ⟨_, cell_blk (raw2) rfl, ?_⟩)
      repeat (first | refine ⟨_, cell_blk (raw2) rfl, ?_⟩)
      refine ⟨⟨lb, 0, none⟩, rfl, ?_, ?_, ?_⟩
      · show 0 ≤ IntKind.i64.wrap (((es ++ [gotH who' T0 j q 0 0 0]).length : Int) - 1)
        rw [hl]; omega
      · show IntKind.i64.wrap (((es ++ [gotH who' T0 j q 0 0 0]).length : Int) - 1) < (((es ++ [gotH who' T0 j q 0 0 0]).length : Nat) : Int)
        rw [hl, List.length_append, List.length_singleton]; omega
      refine ⟨Unit, fun _ => [(0, .pointer (some ⟨ab, 0, none⟩))], fun _ h' => (∃ x', EmpX q who' od j x' ∧ CaL h' B F ab x' [q] M2 (es ++ [gotH who' T0 j q ((M.t + 1 : Nat) : Int) ((M.t + 1 : Nat) : Int) (IntKind.i64.wrap y)])) ∧ Rings h' B F M2 (up2 L j q r) no2 no2 ∧ ChgT B TyD h h', ?_, ?_⟩
      · repeat (first | refine ⟨_, cell_blk (raw2) rfl, ?_⟩)
        refine (rOk_spec A2).mono ?_
        rintro v h3 ⟨rfl, rfl⟩
        rw [hok]
        repeat (first | refine ⟨_, cell_blk (raw2) rfl, ?_⟩)
        obtain ⟨RA2, rc2, hb2, _⟩ := S2.fab.blk
        repeat (first | refine ⟨_, cell_blk (raw2) rfl, ?_⟩ | refine ⟨_, cell_blk (hb2) rfl, ?_⟩)
        refine (rMark_spec A2).mono ?_
        rintro v h3 ⟨rfl, rfl⟩
        try (refine ⟨by ((repeat (first | refine ⟨cell_blk (raw2) rfl, ?_⟩ | refine ⟨cell_blk (hb2) rfl, ?_⟩)); exact trivial), ?_⟩)
        refine (mTime_spec S2.mem).mono ?_
        rintro v h3 ⟨rfl, rfl⟩
        try (refine ⟨by ((repeat (first | refine ⟨cell_blk (raw2) rfl, ?_⟩ | refine ⟨cell_blk (hb2) rfl, ?_⟩)); exact trivial), ?_⟩)
        refine (rValue_spec A2).mono ?_
        rintro v h3 ⟨rfl, rfl⟩
        try (refine ⟨by ((repeat (first | refine ⟨cell_blk (raw2) rfl, ?_⟩ | refine ⟨cell_blk (hb2) rfl, ?_⟩)); exact trivial), ?_⟩)
        rw [hok, hval, hmk]
        have ha : ∀ f : Nat, (((⟨lb, 0, none⟩ : Addr).add ((IntKind.i64.wrap (((es ++ [gotH who' T0 j q 0 0 0]).length : Int) - 1)).toNat * 19)).add f) = ⟨lb, es.length * 19 + f, none⟩ := fun f => by
          rw [hl, Int.toNat_natCast, add_lit, add_lit, Nat.zero_add]
        have hlen1 : ∀ e : He, es.length < (es ++ [e]).length := fun e => by rw [List.length_append, List.length_singleton]; omega
        have hget : ∀ e : He, (es ++ [e])[es.length]? = some e := fun e => by rw [List.getElem?_append_right (Nat.le_refl _), Nat.sub_self]; rfl
        have hset : ∀ e e' : He, (es ++ [e]).set es.length e' = es ++ [e'] := fun e e' => by rw [List.set_append_right _ _ (Nat.le_refl _), Nat.sub_self]; rfl
        refine ⟨rfl, rfl, ?_, fun h4 s4 => ?_⟩
        · show CanSet _ (((⟨lb, 0, none⟩ : Addr).add ((IntKind.i64.wrap (((es ++ [gotH who' T0 j q 0 0 0]).length : Int) - 1)).toNat * 19)).add 2) 1
          rw [ha]; exact S2.csE rfl (hlen1 _) (by decide)
        have s4' : Stored _ (((⟨lb, 0, none⟩ : Addr).add ((IntKind.i64.wrap (((es ++ [gotH who' T0 j q 0 0 0]).length : Int) - 1)).toNat * 19)).add 2) [.int .i64 ((M.t + 1 : Nat) : Int)] h4 := s4
        rw [ha] at s4'
        obtain ⟨S4, c4, glb⟩ := S2.entry rfl (E' := gotH who' T0 j q ((M.t + 1 : Nat) : Int) 0 0) s4' (hget _) (by show 2 + 1 ≤ 19; decide) rfl
        rw [hset] at S4
        refine ⟨rfl, rfl, ?_, fun h5 s5 => ?_⟩
        · show CanSet _ (((⟨lb, 0, none⟩ : Addr).add ((IntKind.i64.wrap (((es ++ [gotH who' T0 j q 0 0 0]).length : Int) - 1)).toNat * 19)).add 3) 1
          rw [ha]; exact S4.csE rfl (hlen1 _) (by decide)
        have s5' : Stored _ (((⟨lb, 0, none⟩ : Addr).add ((IntKind.i64.wrap (((es ++ [gotH who' T0 j q 0 0 0]).length : Int) - 1)).toNat * 19)).add 3) [.int .i64 (M2.t : Int)] h5 := s5
        rw [ha] at s5'
        obtain ⟨S5, c5, _⟩ := S4.entry rfl (E' := gotH who' T0 j q ((M.t + 1 : Nat) : Int) (M2.t : Int) 0) s5' (hget _) (by show 3 + 1 ≤ 19; decide) rfl
        rw [hset] at S5
        refine ⟨rfl, rfl, ?_, fun h6 s6 => ?_⟩
        · show CanSet _ (((⟨lb, 0, none⟩ : Addr).add ((IntKind.i64.wrap (((es ++ [gotH who' T0 j q 0 0 0]).length : Int) - 1)).toNat * 19)).add 18) 1
          rw [ha]; exact S5.csE rfl (hlen1 _) (by decide)
        have s6' : Stored _ (((⟨lb, 0, none⟩ : Addr).add ((IntKind.i64.wrap (((es ++ [gotH who' T0 j q 0 0 0]).length : Int) - 1)).toNat * 19)).add 18) [.int .i64 (IntKind.i64.wrap y)] h6 := s6
        rw [ha] at s6'
        obtain ⟨S6, c6, _⟩ := S5.entry rfl (E' := gotH who' T0 j q ((M.t + 1 : Nat) : Int) (M2.t : Int) (IntKind.i64.wrap y)) s6' (hget _) (by show 18 + 1 ≤ 19; decide) rfl
        rw [hset] at S6
        have hM2 : (M2.t : Int) = ((M.t + 1 : Nat) : Int) := by rw [N2.t]
        rw [hM2] at S6
        have c := (c4.trans c5).trans c6
        have W6 := W2.same (M' := M2) c (by simp) rfl (fun _ _ => rfl)
        rw [up2_up2, up2_id (show no2 j q = false from rfl)] at W6
        exact ⟨(), ⟨rfl, trivial⟩, ⟨_, ⟨rfl, rfl, xp, rfl, rfl⟩, S6⟩, W6, f2.trans (S2.fr c fun p hp => by simp at hp; subst hp; exact ⟨glb, by simp [TyD, TyC]⟩)⟩
      · rintro _ h3 ⟨⟨x3, X3, S3⟩, W3, f3⟩
        have raw3 := S3.raw
        have hf := S3.xf
        have xf := X3.from_
        obtain ⟨g3, g1, g2, g4, g5⟩ := X3
        obtain ⟨f', who', od, next, gA, gn, gc, kA, kn, kc, held, from_, pop, act⟩ := x3
        simp only at hf xf
        subst hf xf
        refine ⟨rfl, rfl, canset_blk raw3 rfl, fun h4 s4 => ?_⟩
        have raw4 : CaRaw h4 ab ⟨F.fb, who', od, next, gA, gn, gc, kA, kn, kc, held, (j : Int), none, act⟩ := s4.put raw3
        have c4 : Chg [(ab, 200)] h3 h4 := s4.chg raw3 (.head _)
        have S4 := S3.field c4 raw4 rfl rfl rfl rfl rfl rfl rfl rfl
        obtain ⟨RA4, rc4, hb4, _⟩ := S4.fab.blk
        have W4 := W3.same (M' := M2) c4 (by simp) rfl (fun _ _ => rfl)
        repeat (first | refine ⟨_, cell_blk (raw4) rfl, ?_⟩ | refine ⟨_, cell_blk (hb4) rfl, ?_⟩)
        have f4 := f3.trans (S3.frF c4)
        refine xif_true (decide_eq_true ?_) ?_
        · show (j : Int) < (F.P : Int)
          omega
        exact ⟨_, M2, raw4, N2, f4, .inr (.inr ⟨rfl, p2', y, r, T0, hL, ⟨g3, g1, g2, g4, rfl⟩, rfl, S4, W4⟩)⟩
end
end Go.Proofs.YtjjempefncgfhaaGreatDoorE
