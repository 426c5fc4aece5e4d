/- A frame that comes in at a port that doesn't learn, from its beginning to its end. Conditions: the port's state is none that learns. -/
import Derived.Test.YtjjempefncgfhaaGreatDoorXIT
import Derived.Test.YtjjempefncgfhaaGreatDoorXSH
import Derived.Test.YtjjempefncgfhaaGreatDoorXIV
set_option linter.unusedVariables false
set_option linter.unusedSimpArgs false
set_option maxRecDepth 100000
namespace Go.Proofs.YtjjempefncgfhaaGreatDoorE
open Go Go.Proofs
/-- How a fabric stands for a frame that comes in at port p. -/
structure ShutAt (F : Fb) (M : MemS) (p : Nat) : Prop where
  vl : ∀ i, i < F.vls.length → ∃ y, M.cells[F.P + 2 * i]? = some y ∧ SetWf y
  st : ∃ st ep, rightSt st = true ∧ st ≠ 3 ∧ st ≠ 4 ∧ 0 ≤ ep ∧ ep < 4294967296 ∧ M.cells[p]? = some (standW st ep)
  rl : p < F.rules.length
/-- A frame that went nowhere, and why. -/
def Lost (y : DnV) : Prop := y.why ≠ 0 ∧ y.learned = -1 ∧ y.found = -2
structure FrS (base : Nat) (h0 : Heap) (F : Fb) (xb : Nat) (c : IgC) (M : MemS) (ds : List DnV) (e0 k : Nat) (h : Heap) : Prop where
  fab : FabAt h F
  mem : ∃ t, MemAt h F.mb F.cb F.lb { M with t := t } ∧ M.t ≤ t ∧ t ≤ M.t + k
  chg : ChgT base TyI h0 h
  ph : ∃ d es, es.length ≤ e0 + k ∧ d.learned = -1 ∧ d.found = -2 ∧
    ((k = 0 ∧ IgOk base h F xb c (.func (.func 50) #[] #[]) d ds es ∧ ∃ bs, OwnA encU8 1 5 base h d.bA d.bc bs ∧ bs.length = d.bn ∧ bs.length ≤ 100000 ∧ IsB bs) ∨
     (k = 1 ∧ IgOk base h F xb c (.func (.func 106) #[] #[]) d ds es ∧ (∃ i : Nat, findV d.vid F.vls 0 = (i : Int) ∧ i < F.vls.length) ∧ 0 ≤ d.dst ∧ d.dst < 18446744073709551616) ∨
     (k = 2 ∧ IgOk base h F xb c (.func (.func 172) #[] #[]) d ds es))
structure FrE (base : Nat) (h0 : Heap) (F : Fb) (xb : Nat) (c : IgC) (M : MemS) (ds : List DnV) (e0 : Nat) (h : Heap) : Prop where
  fab : FabAt h F
  mem : ∃ t, MemAt h F.mb F.cb F.lb { M with t := t } ∧ M.t ≤ t ∧ t ≤ M.t + 3
  chg : ChgT base TyI h0 h
  ph : ∃ d es y, es.length ≤ e0 + 3 ∧ Lost y ∧ IgOk base h F xb c .nilFunc d (ds ++ [y]) es
section
variable {h0 h : Heap} {F : Fb} {base xb : Nat} {c : IgC} {M : MemS} {ds : List DnV} {e0 k : Nat}
theorem FrS.ext {h' : Heap} (Q : FrS base h0 F xb c M ds e0 k h) (y : Ext h h') : FrS base h0 F xb c M ds e0 k h' := by
  obtain ⟨HF, ⟨t, HM, t1, t2⟩, ch, d, es, hes, hl, hf, ph⟩ := Q
  have hB : base ≤ h.size := by rcases ph with ⟨_, S, _⟩ | ⟨_, S, _⟩ | ⟨_, S⟩ <;> exact S.hB
  refine ⟨HF.ext y, ⟨t, HM.ext y, t1, t2⟩, ch.trans (y.chgT hB), d, es, hes, hl, hf, ?_⟩
  rcases ph with ⟨e, S, bs, o, r⟩ | ⟨e, S, r⟩ | ⟨e, S⟩
  · exact .inl ⟨e, S.ext y, bs, o.ext y, r⟩
  · exact .inr (.inl ⟨e, S.ext y, r⟩)
  · exact .inr (.inr ⟨e, S.ext y⟩)
theorem frS_step (Q : FrS base h0 F xb c M ds e0 k h) (T : ShutAt F M c.p) (hb : base ≤ F.mb) (hv : F.vls.length ≤ 1000) (hd : ds.length < 10000) (he : e0 < 9000) (ht : M.t < 800000) :
    HCalls Tryz.prog 12 #[.pointer (some ⟨xb, 0, none⟩)] h (fun r h' => (r = .bool true ∧ FrE base h0 F xb c M ds e0 h') ∨ (r = .bool false ∧ k < 2 ∧ FrS base h0 F xb c M ds e0 (k + 1) h')) := by
  obtain ⟨HF, ⟨t, HM, t1, t2⟩, ch, d, es, hes, hl, hf, ph⟩ := Q
  have tin : ∀ {g g'}, ChgT base [144, 66] g g' → ChgT base TyI g g' := fun c => c.mono (by simp [TyI])
  have fin : ∀ (g g' : Heap) (M' : MemS), MemAt g F.mb F.cb F.lb M' → FabAt g F → ChgT base [144, 66] g g' → MemAt g' F.mb F.cb F.lb M' ∧ FabAt g' F := fun g g' M' m f c => ⟨m.ci c (by decide) (by decide) (by decide), f.ci (tin c)⟩
  rcases ph with ⟨rfl, S, bs, ob, bl, bn, hB⟩ | ⟨rfl, S, ⟨i, hi, hiv⟩, d0, d1⟩ | ⟨rfl, S⟩
  · obtain ⟨r, hr⟩ : ∃ r, F.rules[c.p]? = some r := ⟨_, List.getElem?_eq_getElem T.rl⟩
    refine (iStepQ_spec (Q := fun v d' es' h' => es' = es ∧ MemAt h' F.mb F.cb F.lb { M with t := t } ∧ ChgT base TyI h h' ∧
      ((v = .nilFunc ∧ Lost d'.dn_) ∨ (v = .func (.func 106) #[] #[] ∧ d'.learned = -1 ∧ d'.found = -2 ∧ (∃ i : Nat, findV d'.vid F.vls 0 = (i : Int) ∧ i < F.vls.length) ∧ 0 ≤ d'.dst ∧ d'.dst < 18446744073709551616))) S hd ((iClassQ_spec S HM ob bl bn hB hr hv).mono ?_)).mono ?_
    · rintro v h1 ⟨d', S1, M1, c1, ⟨rfl, hw, rfl⟩ | ⟨rfl, w0, f0, tg, tc, ty, A, n, cp, rfl⟩⟩
      · refine ⟨.inl rfl, _, _, S1, rfl, M1, c1, .inl ⟨rfl, ?_, hl, hf⟩⟩
        show (if (classM bs r).2 ≠ 0 then (classM bs r).2 else 7) ≠ 0
        split
        · assumption
        · decide
      · have hm := macN_range hB
        refine ⟨.inr ⟨_, rfl⟩, _, _, S1, rfl, M1, c1, .inr ⟨rfl, hl, hf, ?_, hm.1, by show macN bs < _; omega⟩⟩
        rcases findV_range (vid := (classM bs r).1) F.vls 0 with e | ⟨e1, e2⟩
        · exact absurd (show findV (classM bs r).1 F.vls 0 < 0 by rw [e]; decide) f0
        · exact ⟨(findV (classM bs r).1 F.vls 0).toNat, by show findV (classM bs r).1 F.vls 0 = _; omega, by omega⟩
    · rintro v h' ⟨w, d', es', h1, ⟨rfl, M1, c1, hw⟩, c2, hr'⟩
      have hS : FabAt h1 F := HF.ci c1
      obtain ⟨M2, F2⟩ := fin h1 h' _ M1 hS c2
      have cc := (ch.trans c1).trans (tin c2)
      rcases hw with ⟨rfl, lo⟩ | ⟨rfl, l1, l2, l3, l4, l5⟩
      · rcases hr' with ⟨_, rfl, A, cp, S2⟩ | ⟨_, e, _⟩
        · exact .inl ⟨rfl, F2, ⟨t, M2, t1, by omega⟩, cc, _, _, _, by omega, lo, S2⟩
        · cases e
      · rcases hr' with ⟨e, _⟩ | ⟨k', e, rfl, S2⟩
        · cases e
        · exact .inr ⟨rfl, by decide, F2, ⟨t, M2, t1, by omega⟩, cc, d', es', by omega, l1, l2, .inr (.inl ⟨rfl, S2, l3, l4, l5⟩)⟩
  · obtain ⟨y, hy, wy⟩ := T.vl i hiv
    refine (iStepQ_spec (Q := fun v d' es' h' => es'.length = es.length + 1 ∧ MemAt h' F.mb F.cb F.lb { M with t := t + 1 } ∧ ChgT base TyI h h' ∧ d'.learned = -1 ∧ d'.found = -2 ∧
      ((v = .nilFunc ∧ d'.why ≠ 0) ∨ v = .func (.func 172) #[] #[])) S hd ((iMembersQ_spec (M := { M with t := t }) S HF HM hb (by omega) hi (by omega) hy wy (by show t < 900000; omega) d0 d1).mono ?_)).mono ?_
    · rintro v h1 ⟨d', A, cp, S1, M1, c1, hw⟩
      have hlen : (es ++ [(⟨c.who, (t : Int), ((t + 1 : Nat) : Int), ((t + 1 : Nat) : Int), askOp 1 0 d.vid, IntKind.i64.wrap y⟩ : He)]).length = es.length + 1 := by rw [List.length_append]; rfl
      rcases hw with ⟨rfl, _, rfl⟩ | ⟨rfl, _, _, rfl⟩ | ⟨_, _, r, ok, ⟨_, rfl, rfl⟩ | ⟨_, rfl, rfl⟩⟩
      · exact ⟨.inl rfl, _, _, S1, hlen, M1, c1, hl, hf, .inl ⟨rfl, by show (8 : Int) ≠ 0; decide⟩⟩
      · exact ⟨.inr ⟨_, rfl⟩, _, _, S1, hlen, M1, c1, hl, hf, .inr rfl⟩
      · exact ⟨.inr ⟨_, rfl⟩, _, _, S1, hlen, M1, c1, hl, hf, .inr rfl⟩
      · exact ⟨.inl rfl, _, _, S1, hlen, M1, c1, hl, hf, .inl ⟨rfl, by show (10 : Int) ≠ 0; decide⟩⟩
    · rintro v h' ⟨w, d', es', h1, ⟨hel, M1, c1, l1, l2, hw⟩, c2, hr'⟩
      have hS : FabAt h1 F := HF.ci c1
      obtain ⟨M2, F2⟩ := fin h1 h' _ M1 hS c2
      have cc := (ch.trans c1).trans (tin c2)
      rcases hw with ⟨rfl, lo⟩ | rfl
      · rcases hr' with ⟨_, rfl, A, cp, S2⟩ | ⟨_, e, _⟩
        · exact .inl ⟨rfl, F2, ⟨t + 1, M2, by omega, by omega⟩, cc, _, _, _, by omega, ⟨lo, l1, l2⟩, S2⟩
        · cases e
      · rcases hr' with ⟨e, _⟩ | ⟨k', e, rfl, S2⟩
        · cases e
        · exact .inr ⟨rfl, by decide, F2, ⟨t + 1, M2, by omega, by omega⟩, cc, d', es', by omega, l1, l2, .inr (.inr ⟨rfl, S2⟩)⟩
  · obtain ⟨st, ep, s1, s2, s3, s4, s5, s6⟩ := T.st
    refine (iStepQ_spec (Q := fun v d' es' h' => es'.length = es.length + 1 ∧ MemAt h' F.mb F.cb F.lb { M with t := t + 1 } ∧ ChgT base TyI h h' ∧ d'.learned = -1 ∧ d'.found = -2 ∧ v = .nilFunc ∧ d'.why ≠ 0) S hd ((iStandQ_shut (M := { M with t := t }) S HF HM hb (by omega) s1 s2 s3 s4 s5 s6 (by show t < 900000; omega)).mono ?_)).mono ?_
    · rintro v h1 ⟨A, cp, rfl, S1, M1, c1⟩
      exact ⟨.inl rfl, _, _, S1, by rw [List.length_append]; rfl, M1, c1, hl, hf, rfl, by show (9 : Int) ≠ 0; decide⟩
    · rintro v h' ⟨w, d', es', h1, ⟨hel, M1, c1, l1, l2, rfl, lo⟩, c2, hr'⟩
      have hS : FabAt h1 F := HF.ci c1
      obtain ⟨M2, F2⟩ := fin h1 h' _ M1 hS c2
      have cc := (ch.trans c1).trans (tin c2)
      rcases hr' with ⟨_, rfl, A, cp, S2⟩ | ⟨_, e, _⟩
      · exact .inl ⟨rfl, F2, ⟨t + 1, M2, by omega, by omega⟩, cc, _, _, _, by omega, ⟨lo, l1, l2⟩, S2⟩
      · cases e
end
end Go.Proofs.YtjjempefncgfhaaGreatDoorE
/- What stands in a fabric is what the document's model has: when it is made, and when a port is set. Conditions: none. -/
set_option linter.unusedVariables false
set_option linter.unusedSimpArgs false
set_option maxRecDepth 100000
namespace Go.Proofs.YtjjempefncgfhaaGreatDoorE
open Go Go.Proofs
theorem book_ix {b0 nv sh bk w sl i j N : Nat} (hw : w = 1 + 2 * sl) (hi : i < N) (hj : j < sl) : nv + i * w + 2 + 2 * j < nv + N * w := by
  have h1 : (i + 1) * w ≤ N * w := Nat.mul_le_mul_right _ hi
  rw [Nat.succ_mul] at h1
  omega
section
variable {h0 h : Heap} {F : Fb} {M M' : MemS} {L : Nat → Nat → List Int} {S : Md}
/-- Where a bucket's cells are. -/
theorem bk_low {i j l : Nat} (hbz : (F.b0 : Int) = ((F.P + 2 * F.vls.length : Nat) : Int) + szCells F.s) (hl : (l : Int) = F.s.sl) (hi : (i : Int) < F.s.sh * F.s.bk) (hj : j < l) : F.P + 2 * F.vls.length + i * (1 + 2 * l) + 2 + 2 * j < F.b0 := by
  obtain ⟨N, hN⟩ : ∃ N : Nat, F.s.sh * F.s.bk = N := ⟨(F.s.sh * F.s.bk).toNat, by omega⟩
  have e : szCells F.s = ((N * (1 + 2 * l) : Nat) : Int) := by unfold szCells; rw [hN, ← hl]; push_cast; rfl
  have := book_ix (b0 := 0) (sh := 0) (bk := 0) (nv := F.P + 2 * F.vls.length) (w := 1 + 2 * l) (sl := l) (i := i) (j := j) (N := N) rfl (by omega) hj
  omega
theorem stood_new (Fr : Fresh h0 h F M) {I : Pin} (eP : fixPorts I.P = F.P) (eV : F.vls = fixVlans I.P I.vls) (eZ : F.s = fixSz I.s) : Stood F M (fun _ _ => []) (newM I.pl (fixVlans I.P I.vls)) := by
  have o := Fr.sok
  have hpp : I.pl.ports = F.P := eP
  have hsz : I.pl.size = F.s := eZ.symm
  obtain ⟨o1, o2, o3, o4, o5, o6⟩ := o
  have hpos : 0 ≤ F.s.sh * F.s.bk := Int.mul_nonneg (by omega) (by omega)
  refine ⟨?_, fun p x hx => ?_, ?_, fun i v w hv hw => ?_, ?_, fun i l hl => ?_, fun _ _ _ _ => rfl⟩
  · show (List.replicate I.pl.ports.toNat (⟨0, 0⟩ : Stn)).length = F.P
    rw [List.length_replicate, hpp, Int.toNat_natCast]
  · have hx : (List.replicate I.pl.ports.toNat (⟨0, 0⟩ : Stn))[p]? = some x := hx
    have hlt := (List.getElem?_eq_some_iff.1 hx).1
    rw [List.length_replicate, hpp, Int.toNat_natCast] at hlt
    have := (List.mem_replicate.1 (List.mem_of_getElem? hx)).2
    subst this
    exact ⟨by decide, by decide, by decide, Fr.low p hlt⟩
  · show (fixVlans I.P I.vls).length = F.vls.length
    rw [eV]
  · have hw : (fixVlans I.P I.vls)[i]? = some w := hw
    rw [← eV, hv] at hw
    cases hw
    exact ⟨rfl, Fr.vl i v hv⟩
  · show ((List.replicate (I.pl.size.sh * I.pl.size.bk).toNat _).length : Int) = _
    rw [List.length_replicate, hsz]
    omega
  · have hl' : (List.replicate (I.pl.size.sh * I.pl.size.bk).toNat (List.replicate I.pl.size.sl.toNat Place.none))[i]? = some l := hl
    have hlt := (List.getElem?_eq_some_iff.1 hl').1
    rw [List.length_replicate, hsz] at hlt
    have := (List.mem_replicate.1 (List.mem_of_getElem? hl')).2
    rw [hsz] at this
    have hll : (l.length : Int) = F.s.sl := by rw [this, List.length_replicate]; omega
    refine ⟨hll, fun j pl hpl => ?_⟩
    have hj := (List.getElem?_eq_some_iff.1 hpl).1
    rw [this] at hpl
    have e2 := (List.mem_replicate.1 (List.mem_of_getElem? hpl)).2
    subst e2
    have hb := bk_low (i := i) (j := j) Fr.bz hll (by omega) hj
    have hc := Fr.len
    exact ⟨0, 0, Fr.mid _ (by omega) (by omega), Fr.mid _ (by omega) (by omega), slotOk_zero⟩
theorem do17_8 {p : Pl} {x : Op17} (h8 : x.kind = 8) (hm : mayO p x = true) (hs : rightSt x.state = true) : (do17 p S x).1 = { S with stands := S.stands.set x.port.toNat ⟨x.state, IntKind.u32.wrap ((S.stands.getD x.port.toNat ⟨0, 0⟩).ep + 1)⟩ } := by
  unfold do17
  rw [if_neg (by rw [hm]; decide), if_neg (by omega), if_neg (by omega), if_neg (by omega), if_neg (by omega), if_neg (by omega), if_neg (by omega), if_neg (by omega), if_neg (by omega), if_pos h8, if_neg (by rw [hs]; decide)]
/-- A port is set. -/
theorem Stood.set (T : Stood F M L S) (hbz : (F.b0 : Int) = ((F.P + 2 * F.vls.length : Nat) : Int) + szCells F.s) (hbv : F.P + 2 * F.vls.length ≤ F.b0) {q : Nat} {st0 ep s : Int} (low : LowG F q (standW s (upE ep)) M M') (hq : q < F.P) (hst : S.stands[q]? = some ⟨st0, ep⟩) (rs : rightSt s = true) (hlc : F.b0 ≤ M.cells.length) :
    Stood F M' L { S with stands := S.stands.set q ⟨s, upE ep⟩ } := by
  have oth : ∀ i, i < F.b0 → i ≠ q → M'.cells[i]? = M.cells[i]? := fun i hi hn => by rw [low i hi, List.getElem?_set_ne (by omega)]
  refine ⟨by rw [List.length_set]; exact T.sn, fun p x hx => ?_, T.vn, fun i v w hv hw => ?_, T.bn, fun i l hl => ?_, T.q⟩
  · have hlen := (List.getElem?_eq_some_iff.1 hx).1
    rw [List.length_set, T.sn] at hlen
    by_cases e : p = q
    · subst e
      have hx : (S.stands.set p ⟨s, upE ep⟩)[p]? = some x := hx
      rw [List.getElem?_set_self (by rw [T.sn]; exact hlen)] at hx
      cases hx
      refine ⟨rs, (upE_range ep).1, (upE_range ep).2, ?_⟩
      rw [low p (by omega)]
      exact List.getElem?_set_self (by omega)
    · have hx : (S.stands.set q ⟨s, upE ep⟩)[p]? = some x := hx
      rw [List.getElem?_set_ne (fun e' => e e'.symm)] at hx
      obtain ⟨a, b, c, d⟩ := T.st p x hx
      exact ⟨a, b, c, by rw [oth p (by omega) e]; exact d⟩
  · obtain ⟨a, b, c⟩ := T.vl i v w hv hw
    have hi := (List.getElem?_eq_some_iff.1 hv).1
    exact ⟨a, by rw [oth _ (by omega) (by omega)]; exact b, by rw [oth _ (by omega) (by omega)]; exact c⟩
  · obtain ⟨a, b⟩ := T.bk i l hl
    have hi := (List.getElem?_eq_some_iff.1 hl).1
    refine ⟨a, fun j pl hpl => ?_⟩
    have hj := (List.getElem?_eq_some_iff.1 hpl).1
    have hb := bk_low (i := i) (j := j) hbz a (by have := T.bn; have : (S.book.length : Int) = F.s.sh * F.s.bk := this; have hi : i < S.book.length := hi; omega) hj
    obtain ⟨x, y, c, d, e⟩ := b j pl hpl
    exact ⟨x, y, by rw [oth _ (by omega) (by omega)]; exact c, by rw [oth _ (by omega) (by omega)]; exact d, e⟩
end
theorem rings_freshS {h0 h : Heap} {F : Fb} {M : MemS} (Fr : Fresh h0 h F M) : Rings h h0.size F M (fun _ _ => []) no2 no2 := by
  refine ⟨fun a b ha hb => ⟨R0 F.b0 F.P F.S a b, (Fr.ring a b ha hb).1, ?_, Nat.zero_le _, rfl, rfl⟩, Fr.inj, fun a b ha hb => (Fr.ring a b ha hb).2, Fr.len, Fr.big⟩
  have hc : ∀ o, o < F.S + 2 → M.cells[bs F.b0 F.P F.S b a + o]? = some 0 := by
    intro o ho
    refine Fr.high _ (by unfold bs; omega) ?_
    have := bs_in (b0 := F.b0) ha hb ho
    have := Fr.len
    omega
  have hs := Fr.fab.s1
  exact ⟨rfl, rfl, Nat.zero_le _, rfl, by show 0 < F.S; omega, (Nat.zero_mod _).symm, hc 0 (by omega), hc 1 (by omega), fun i x hx => by simp at hx⟩
end Go.Proofs.YtjjempefncgfhaaGreatDoorE
