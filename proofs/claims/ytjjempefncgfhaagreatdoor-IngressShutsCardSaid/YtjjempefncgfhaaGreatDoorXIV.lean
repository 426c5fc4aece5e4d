/- An order that sets a port, alone, to its end; the document's model does it too. Conditions: nothing waits. -/
import Derived.Test.YtjjempefncgfhaaGreatDoorXSW
import Derived.Test.YtjjempefncgfhaaGreatDoorXGC
import Derived.Test.YtjjempefncgfhaaGreatDoorXG5
import Derived.Test.YtjjempefncgfhaaGreatDoorXIT
set_option linter.unusedVariables false
set_option linter.unusedSimpArgs false
set_option maxRecDepth 100000
namespace Go.Proofs.YtjjempefncgfhaaGreatDoorE
open Go Go.Proofs
def env_lOrder20 : Nat → Ann
  | 1 => ⟨.op 0 [] <| .op 1 [] <| .op 2 [] <| .op 3 [] <| .op 4 [] <| .op 5 [] <| .op 6 [] <| .nil, [0, 0, 2, 6, 14, 31, 63], false⟩
  | _ => ⟨.nil, [], false⟩
def env_l17FromV : Nat → Ann
  | 1 => ⟨.op 0 [] <| .op 1 [] <| .op 2 [] <| .op 3 [] <| .op 4 [] <| .op 5 [] <| .op 6 [] <| .op 7 [] <| .op 8 [] <| .op 9 [] <| .op 10 [] <| .op 11 [] <| .op 13 [] <| .op 14 [] <| .op 15 [] <| .op 16 [] <| .op 17 [] <| .op 18 [] <| .op 19 [] <| .op 20 [] <| .op 21 [] <| .op 22 [] <| .op 23 [] <| .op 24 [] <| .op 25 [] <| .op 26 [] <| .op 12 [1, 3, 5, 7, 9, 14, 16, 18, 20, 22, 24, 26] <| .op 27 [] <| .op 28 [] <| .nil, [0, 1, 0, 4, 0, 16, 0, 64, 0, 256, 0, 1024, 3072, 0, 8192, 0, 32768, 0, 131072, 0, 524288, 0, 2097152, 0, 8388608, 0, 33554432, 134217727, 268435455], false⟩
  | _ => ⟨.nil, [], false⟩
/-- All that changes by an order, and by the model's doing it. -/
def TyV : List TypeId := TyD ++ TyW
theorem ChgT.toV {B : Nat} {h h' : Heap} (c : ChgT B TyD h h') : ChgT B TyV h h' := c.mono fun T hT => List.mem_append.2 (.inl hT)
theorem ChgT.wV {B : Nat} {h h' : Heap} (c : ChgT B TyW h h') : ChgT B TyV h h' := c.mono fun T hT => List.mem_append.2 (.inr hT)
/-- A plan that was made to be one, as it came. -/
structure Pin where
  P : Int
  rules : List Ru
  vls : List Vl
  s : Sz
  tries : Int
  ring : Int
  normal : Int
  short : Int
  A : Option Addr
  ca : Nat
  B : Option Addr
  cb : Nat
def Pin.pl (I : Pin) : Pl := ⟨fixPorts I.P, fixSz I.s, fixTries I.tries, fixRing I.ring, I.normal, I.short⟩
def Pin.pv (I : Pin) : List Value := planV (fixPorts I.P) (.slice I.A (fixPorts I.P).toNat I.ca) (.slice I.B (fixVlans I.P I.vls).length I.cb) (fixSz I.s) (fixTries I.tries) (fixRing I.ring) I.normal I.short
def Pin.pvF (I : Pin) (P : Nat) : List Value := planV (P : Int) (.slice I.A (P : Int).toNat I.ca) (.slice I.B (fixVlans I.P I.vls).length I.cb) (fixSz I.s) (fixTries I.tries) (fixRing I.ring) I.normal I.short
/-- A fabric and the document's model, side by side. -/
structure Cx (h : Heap) (I : Pin) (B Bm m : Nat) (F : Fb) (M : MemS) (G : Nat → Prop) (D : Dat) (Md : Md) : Prop where
  fab : FabAt h F
  mem : MemAt h F.mb F.cb F.lb M
  b1 : B ≤ F.mb
  b2 : B ≤ F.cb
  b3 : B ≤ F.lb
  hB : B ≤ Bm
  hm : Bm ≤ h.size
  bb : F.P ≤ F.b0
  lbm : F.lb < Bm
  W : MdR Bm G h m D I.pl Md
  K : MdOk I.pl Md
  vn : Md.vlans.length ≤ 1000
  oR : OwnA encRu 2 117 0 h I.A I.ca (fixRules I.P I.rules)
  oV : OwnA encVl 3 120 0 h I.B I.cb (fixVlans I.P I.vls)
  lV : ∀ b, I.B = some ⟨b, 0, none⟩ → b < Bm
  wf : ∀ v ∈ I.vls, SetWf v.mem ∧ SetWf v.unt
  eP : fixPorts I.P = F.P
  eS : fixRing I.ring = F.S
  p8 : F.P ≤ 8
  dr : D.rules = .slice I.A (fixPorts I.P).toNat I.ca
  dv : D.pvl = .slice I.B (fixVlans I.P I.vls).length I.cb
section
variable {h : Heap} {B Bm m : Nat} {F : Fb} {M : MemS} {G : Nat → Prop} {D : Dat} {Md : Md}
theorem OwnA.lowT {α : Type} {enc : α → List Value} {sz : Nat} {T : TypeId} {base c B : Nat} {TY : List TypeId} {A : Option Addr} {xs : List α} {h h' : Heap} (o : OwnA enc sz T base h A c xs) (x : ChgT B TY h h') (hb : ∀ b, A = some ⟨b, 0, none⟩ → b < B) : OwnA enc sz T base h' A c xs := by
  rcases o with ⟨a, b, d⟩ | ⟨b, rest, rfl, hg, hb', hr, hc⟩
  · exact .inl ⟨a, b, d⟩
  · exact .inr ⟨b, rest, rfl, hg, (x.low b (hb b rfl)).trans hb', hr, hc⟩
theorem Cx.ext {h h' : Heap} {I : Pin} (C : Cx h I B Bm m F M G D Md) (x : Ext h h') : Cx h' I B Bm m F M G D Md :=
  ⟨C.fab.ext x, C.mem.ext x, C.b1, C.b2, C.b3, C.hB, Nat.le_trans C.hm x.size, C.bb, C.lbm, C.W.ext x, C.K, C.vn, C.oR.ext x, C.oV.ext x, C.lV, C.wf, C.eP, C.eS, C.p8, C.dr, C.dv⟩
theorem pin_ok (I : Pin) : I.pl.Ok := by
  have pr := fixPorts_range I.P
  have rr := fixRing_range I.ring
  exact ⟨by show 2 ≤ fixPorts I.P; omega, by show fixPorts I.P ≤ 64; omega, fixSz_ok I.s, by show 1 ≤ fixRing I.ring; omega, by show fixRing I.ring ≤ 64; omega⟩
theorem Cx.planF {I : Pin} (C : Cx h I B Bm m F M G D Md) : Reads h ⟨m, 0, none⟩ (I.pvF F.P) := by
  have := C.W.blk
  rw [C.dr, C.dv] at this
  have r : Reads h ⟨m, 0, none⟩ I.pv := reads_at this rfl
  have e : I.pvF F.P = I.pv := by unfold Pin.pvF Pin.pv; rw [← C.eP]
  rw [e]
  exact r
theorem Cx.plan {I : Pin} (C : Cx h I B Bm m F M G D Md) : Reads h ⟨m, 0, none⟩ I.pv := by
  have := C.W.blk
  rw [C.dr, C.dv] at this
  exact reads_at this rfl
theorem l17FromV_spec (o : Op17) : HCalls Tryz.prog 58 #[.agg (encO17 o).toArray] h (fun v h' => v = .agg (encO17 o).toArray ∧ Ext h h') := by
  refine xcalls env_l17FromV Tryz.func58 rfl (by kernel_rfl) rfl (by kernel_rfl) ?_
  intro ib h1 n1 rb h2 n2
  have hib : h2[ib]? = some (.cells (encO17 o).toArray 107 (0, 0)) := n2.ext.blk n1.this
  have x02 := n1.ext.trans n2.ext
  refine ⟨_, cell_blk hib rfl, _, cell_blk hib rfl, _, cell_blk hib rfl, _, cell_blk hib rfl, _, cell_blk hib rfl, [.int .i64 o.kvid, .int .u64 o.mac], rfl, reads_at hib rfl, _, cell_blk hib rfl, _, cell_blk hib rfl, _, cell_blk hib rfl, _, cell_blk hib rfl, _, cell_blk hib rfl, _, cell_blk hib rfl, _, cell_blk hib rfl, ?_⟩
  refine (l8From_spec _ _ _).mono ?_
  rintro v h3 ⟨rfl, x3⟩
  have b3 := x3.blk hib
  refine ⟨⟨cell_blk b3 rfl, cell_blk b3 rfl, cell_blk b3 rfl, cell_blk b3 rfl, cell_blk b3 rfl, cell_blk b3 rfl, cell_blk b3 rfl, cell_blk b3 rfl, cell_blk b3 rfl, cell_blk b3 rfl, cell_blk b3 rfl, cell_blk b3 rfl, trivial⟩, ?_⟩
  have r3 := x3.blk n2.this
  refine ⟨rfl, rfl, canset_blk r3 rfl, fun h4 s4 => ?_⟩
  have hr : h4[rb]? = some (.cells (encO17 o).toArray 56 (0, 0)) := s4.fill0 r3 rfl
  exact ⟨_, rfl, reads_all hr, rfl, (x02.trans x3).stored s4 (n2.ge n1.ext)⟩
theorem ChgT.base {B B' : Nat} {TY : List TypeId} {h h' : Heap} (x : ChgT B' TY h h') (hb : B ≤ B') : ChgT B TY h h' := ⟨x.size, fun k hk => x.low k (Nat.lt_of_lt_of_le hk hb), x.typ⟩
theorem do17_8v {p : Pl} {x : Op17} (h8 : x.kind = 8) : (do17 p Md x).1.vlans = Md.vlans := by
  unfold do17
  by_cases hm : mayO p x = false
  · rw [if_pos hm]
  rw [if_neg hm, if_neg (by omega), if_neg (by omega), if_neg (by omega), if_neg (by omega), if_neg (by omega), if_neg (by omega), if_neg (by omega), if_neg (by omega), if_pos h8]
  split <;> rfl
/-- An order that sets a port. -/
theorem lOrder20_set {I : Pin} (C : Cx h I B Bm m F M G D Md) (R : Rings h B F M (fun _ _ => []) no2 no2) {q : Nat} (hq : q < F.P) {st0 ep0 : Int} (hs0 : rightSt st0 = true) (he0 : 0 ≤ ep0) (he1 : ep0 < 4294967296) (hz : M.cells[q]? = some (standW st0 ep0)) (hl : M.locks[q]? = some (-1)) (ht : M.t < 700000)
    {o o8 : Op17} (ho : fixOp F.P (fixVlans I.P I.vls) o = o8) (kw : KeyWf o.kvid o.mac) (h8 : o8.kind = 8) (hp8 : o8.port = (q : Int)) (hs8 : rightSt o8.state = true) (w8 : o8.Wf) :
    HCalls Tryz.prog 19 #[.pointer (some ⟨F.fb, 0, none⟩), .pointer (some ⟨m, 0, none⟩), .agg (encO17 o).toArray] h (fun v h' => v = .bool true ∧ ∃ M' G', Cx h' I B Bm m F M' G' D (do17 I.pl Md o8).1 ∧ Rings h' B F M' (fun _ _ => []) no2 no2 ∧ LowG F q (standW o8.state (upE ep0)) M M' ∧ M'.locks = M.locks ∧ M.t ≤ M'.t ∧ M'.t ≤ M.t + 70 ∧ ChgT B TyV h h') := by
  have pr := fixPorts_range I.P
  refine xcalls env_lOrder20 Tryz.func19 rfl (by kernel_rfl) rfl (by kernel_rfl) ?_
  intro ob h1 n1
  have hob : h1[ob]? = some (.cells (encO17 o).toArray 56 (0, 0)) := n1.this
  have C1 := C.ext n1.ext
  refine ⟨_, rfl, reads_all hob, I.pvF F.P, rfl, C1.planF, ?_⟩
  refine (lFix19_spec (P := F.P) (rules := []) (A := I.A) (na := (F.P : Int).toNat) (ca := I.ca) (B := I.B) (cb := I.cb) (s := fixSz I.s) (tries := fixTries I.tries) (ring := fixRing I.ring) (normal := I.normal) (short := I.short) (C1.oV.row encVl_len) rfl (by have := fixVlans_len I.P I.vls; omega) (by omega) (by have := C.p8; omega) kw).mono ?_
  rintro v h2 ⟨rfl, x2⟩
  rw [ho]
  have hob2 := x2.blk hob
  refine ⟨rfl, rfl, canset_blk hob2 rfl, fun h3 s3 => ?_⟩
  have hob3 : h3[ob]? = some (.cells (encO17 o8).toArray 56 (0, 0)) := s3.put hob2
  have x3 : Ext h h3 := (n1.ext.trans x2).stored s3 (n1.ge (Ext.refl _))
  have C3 := C.ext x3
  have R3 := R.ext x3
  refine ⟨_, rfl, reads_all hob3, ?_⟩
  refine (l17Op_spec o8).mono ?_
  rintro v h4 ⟨rfl, x4⟩
  have C4 := C3.ext x4
  obtain ⟨pl, G2, W4, hpl, hG2⟩ := C4.W.prot
  refine (cCommand_port (F := { F with prot := pl }) (B := B) (who := 60) (p := q) (o := o8) (C4.fab.withP pl) C4.mem C.b1 C.b2 C.b3 (Nat.le_trans C.hB C4.hm) (fun p hp => ⟨(hpl p hp).1, fun e => by have := (hpl p hp).2; have e : p.1 = F.lb := e; have := C.lbm; omega⟩) (by decide) h8 hp8 hq hs8 (by omega)).mono ?_
  rintro v h5 ⟨ab, x, rfl, S, xo, xw, xh, xf, xp, xn, x5⟩
  have x45 := x4.trans x5
  have C5 := C3.ext x45
  have W5 := W4.ext x5
  have Q0 : SetG h5 B { F with prot := pl } ab q 60 o8 st0 ep0 M (fun _ _ => []) 0 h5 := ⟨ChgT.refl _, x, M, rfl, xo, xw, .inl ⟨by omega, S, ((R3.ext x4).ext x5).withP pl, rfl, xp, xf, xh, rfl, .inl ⟨rfl, xn⟩⟩⟩
  have hrem : ∀ m j, remE (fun _ _ => ([] : List Int)) q m j = m := by
    intro m
    induction m with
    | zero => intro j; rfl
    | succ m ih => intro j; rw [remE_succ, ih]; show 3 * 0 + 1 + m = m + 1; omega
  have hpend : ∀ m j, pendK (fun _ _ => ([] : List Int)) q m j = [] := by
    intro m
    induction m with
    | zero => intro j; rfl
    | succ m ih => intro j; rw [pendK_succ, ih]; rfl
  have hpend : pendK (fun _ _ => ([] : List Int)) q F.P 0 = [] := hpend _ _
  have hsn : 4 ≤ stepsD (fun _ _ => []) q F.P o8.state ∧ stepsD (fun _ _ => []) q F.P o8.state ≤ 12 := by
    have := C.p8
    unfold stepsD
    split
    · omega
    · rw [hrem]; omega
  obtain ⟨n, hn⟩ : ∃ n, stepsD (fun _ _ => []) q F.P o8.state = n := ⟨_, rfl⟩
  rw [hn] at hsn
  refine ⟨Nat, fun i => [(0, .pointer (some ⟨F.fb, 0, none⟩)), (1, .pointer (some ⟨m, 0, none⟩)), (7, .pointer (some ⟨ab, 0, none⟩)), (8, .int .i64 i)], fun i h' => i < n ∧ SetG h5 B { F with prot := pl } ab q 60 o8 st0 ep0 M (fun _ _ => []) i h', fun i => n - i, 0, ⟨rfl, rfl, rfl, rfl, trivial⟩, ⟨by omega, Q0⟩, ?_⟩
  have keepW : ∀ (g : Heap) k, SetG h5 B { F with prot := pl } ab q 60 o8 st0 ep0 M (fun _ _ => []) k g → MdR Bm G2 g m D I.pl Md ∧ OwnA encRu 2 117 0 g I.A I.ca (fixRules I.P I.rules) ∧ OwnA encVl 3 120 0 g I.B I.cb (fixVlans I.P I.vls) ∧ ChgT B TyD h5 g := by
    intro g k Q
    have c := Q.1
    refine ⟨MdR.chgP W5 c (fun b hb => ?_) (by decide) (by decide) (by decide) (by decide) (by decide) (by decide) (by decide) (by decide), C5.oR.chgT c (by decide), C5.oV.chgT c (by decide), c⟩
    obtain ⟨cs, hm⟩ := hG2 b hb
    rw [setG_prot Q _ hm, x5.blk (hpl _ hm).1]
  have hqS := fun (k : Nat) (hk : k < n) (g : Heap) (Q : SetG h5 B { F with prot := pl } ab q 60 o8 st0 ep0 M (fun _ _ => []) k g) => setG_step (F := { F with prot := pl }) hq C.bb hp8 h8 hs8 hl hs0 he0 he1 hz (by show (pendK (fun _ _ => []) q F.P 0).length ≤ 9000; rw [hpend]; exact Nat.zero_le _) (by omega) (by rw [show stepsD (fun _ _ => []) q ({ F with prot := pl } : Fb).P o8.state = n from hn]; exact hk) Q
  rintro i g6 ⟨hi, Q6⟩
  obtain ⟨W6, oR6, oV6, c6⟩ := keepW g6 i Q6
  have pl6 : Reads g6 ⟨m, 0, none⟩ I.pv := by
    have := W6.blk
    rw [C.dr, C.dv] at this
    exact reads_at this rfl
  refine ⟨I.pv, rfl, pl6, ?_⟩
  refine (rBound19_big (oR6.row encRu_len) (oV6.row encVl_len) C.wf).mono ?_
  rintro v g7 ⟨b, b0, b1, b2, rfl, y7⟩
  refine xif_true (decide_eq_true (show (i : Int) < (b : Int) by omega)) ?_
  refine (hqS i hi g7 (setG_ext Q6 y7)).mono ?_
  rintro v g8 ⟨rfl, Q8⟩
  have hnn : stepsD (fun _ _ => []) q ({ F with prot := pl } : Fb).P o8.state = n := hn
  rw [hnn]
  by_cases e : i + 1 = n
  rotate_left
  · rw [show (i + 1 == n) = false from beq_eq_false_iff_ne.2 e]
    exact ⟨i + 1, ⟨rfl, rfl, rfl, slot_inc (by omega), trivial⟩, ⟨by omega, Q8⟩, by show n - (i + 1) < n - i; omega⟩
  rw [show (i + 1 == n) = true from beq_iff_eq.2 e]
  rw [e, ← hnn] at Q8
  obtain ⟨W8, oR8, oV8, c8⟩ := keepW g8 _ Q8
  obtain ⟨_, y, M2, L2, es, yn, hT2, hlk2, low2, D2, S8, R8⟩ := setG_over Q8
  have D2 : FinG (setE 60 o8 M.t (upE ep0)) q (fun _ _ => []) L2 F.P o8.state es := D2
  have hes : es = [setE 60 o8 M.t (upE ep0)] := by
    obtain ⟨gs, e1, _, e3⟩ := D2.log
    have e4 : gs.map keyH = [] := by
      rw [e3]
      split
      · rfl
      · exact hpend
    have : gs = [] := by simpa using e4
    rw [e1, this]
  subst hes
  have hL2 : ∀ a b, a < F.P → b < F.P → L2 a b = [] := fun a b ha hb => by
    by_cases e : b = q
    · subst e
      by_cases e4 : o8.state = 4
      · rw [D2.all e4]
      · exact D2.low e4 a ha
    · exact D2.oth a b e
  have R8' : Rings g8 B F M2 (fun _ _ => []) no2 no2 := ⟨fun a b ha hb => by
    have := R8.ring a b ha hb
    rw [hL2 a b ha hb] at this
    exact this, R8.inj, R8.ge, R8.len, R8.big⟩
  refine (aLog_all S8 (by simp [setE]; omega) (by simp) (by simp)).mono ?_
  rintro v g9 ⟨A, cp, rfl, o9, y9⟩
  refine ⟨Nat, fun i => [(0, .pointer (some ⟨F.fb, 0, none⟩)), (1, .pointer (some ⟨m, 0, none⟩)), (7, .pointer (some ⟨ab, 0, none⟩)), (9, .slice A 1 cp), (10, .int .i64 i)], fun i h' => (i = 0 ∧ h' = g9) ∨ (i = 1 ∧ ∃ G', MdR Bm G' h' m D I.pl (do17 I.pl Md o8).1 ∧ ChgT Bm TyW g9 h'), fun i => 1 - i, 0, ⟨rfl, rfl, rfl, rfl, rfl, trivial⟩, .inl ⟨rfl, rfl⟩, ?_⟩
  have W9 := W8.ext y9
  rintro i g10 (⟨rfl, rfl⟩ | ⟨rfl, G', W10, c10⟩)
  · obtain ⟨a, ha, hrd⟩ := o9.row encHe_len 0 _ rfl
    refine ⟨a, ha, by decide, by decide, encO17 o8, rfl, hrd.sub 4 rfl, ?_⟩
    refine (l17FromV_spec o8).mono ?_
    rintro v g11 ⟨rfl, y11⟩
    refine (rDo17_spec (pin_ok I) C.K C.vn (W9.ext y11) w8).mono ?_
    rintro v g12 ⟨_, d12⟩
    have c12 := DidR.chgT (W9.ext y11) (Nat.le_refl _) d12
    obtain ⟨G', _, W12, _⟩ := d12
    exact ⟨1, ⟨rfl, rfl, rfl, rfl, rfl, trivial⟩, .inr ⟨rfl, G', W12, (y11.chgT (by have := W9.ge; have := blk_lt W9.blk; omega)).trans c12⟩, by decide⟩
  have hm9 : Bm ≤ g9.size := by have := W9.ge; have := blk_lt W9.blk; omega
  have raw10 := c10.typ _ _ _ _ (y9.blk S8.raw) (by decide)
  refine (aOver_nil raw10 yn).mono ?_
  rintro v g11 ⟨rfl, rfl⟩
  have hlq : q < M.locks.length := (List.getElem?_eq_some_iff.1 hl).1
  have hT2' : M2.t = M.t + n := by rw [hT2]; exact congrArg (M.t + ·) hnn
  have hlk : M2.locks = M.locks := by
    rw [hlk2, List.set_set]
    exact set_same hl
  have fab8 : FabAt g8 F := ⟨S8.fab.blk, S8.fab.rules, S8.fab.vls, S8.fab.p1, S8.fab.p2, S8.fab.s1, S8.fab.s2, S8.fab.r1, S8.fab.v1⟩
  have hb8 : B ≤ g8.size := S8.hB
  have cAll : ChgT B TyV h g11 := ((((x3.trans x45).chgT (Nat.le_trans C.hB C.hm)).trans c8.toV).trans (y9.chgT hb8)).trans (c10.base C.hB).wV
  have low2' : LowG F q (standW o8.state (upE ep0)) M M2 := low2
  refine ⟨rfl, M2, G', ⟨(fab8.ext y9).chgT c10 (by decide) (by decide) (by decide) (by decide) (by decide), MemAt.ci (F := F) (base := Bm) (S8.mem.ext y9) c10 (by decide) (by decide) (by decide), C.b1, C.b2, C.b3, C.hB, Nat.le_trans hm9 c10.size, C.bb, C.lbm, W10, mdok_do (pin_ok I) C.K w8, ?_, (oR8.ext y9).chgT c10 (by decide), (oV8.ext y9).lowT c10 C.lV, C.lV, C.wf, C.eP, C.eS, C.p8, C.dr, C.dv⟩, ((R8'.ext y9).typ (M' := M2) c10 (by decide) rfl (fun _ _ => rfl)), low2', hlk, by omega, by omega, cAll⟩
  rw [do17_8v h8]
  exact C.vn
end
end Go.Proofs.YtjjempefncgfhaaGreatDoorE
