/- An egress, step by step. Conditions: something waits at the ring that is next. -/
import Derived.Test.YthoikbogkhpciaaGreatXF5
set_option linter.unusedVariables false
set_option linter.unusedSimpArgs false
set_option maxRecDepth 100000
namespace Go.Proofs.YthoikbogkhpciaaGreatE
open Go Go.Proofs
def env_eLock : Nat → Ann
  | 1 => ⟨.op 0 [] <| .op 1 [] <| .op 2 [] <| .op 3 [] <| .op 4 [] <| .op 5 [] <| .op 6 [] <| .op 7 [] <| .op 8 [] <| .op 9 [] <| .op 10 [] <| .op 11 [] <| .op 12 [] <| .op 13 [] <| .nil, [0, 1, 3, 7, 0, 16, 48, 112, 0, 256, 768, 1792, 4095, 8191], false⟩
  | _ => ⟨.nil, [], false⟩
def env_eTake : Nat → Ann
  | 5 => ⟨.op 0 [] <| .op 1 [] <| .op 2 [] <| .op 3 [] <| .op 6 [] <| .op 7 [] <| .op 8 [] <| .op 9 [] <| .op 4 [9] <| .op 5 [] <| .op 10 [] <| .op 11 [] <| .op 12 [] <| .nil, [0, 1, 3, 7, 15, 31, 0, 64, 192, 448, 991, 2047, 4095], false⟩
  | 7 => ⟨.op 0 [] <| .op 1 [] <| .op 2 [] <| .op 3 [] <| .op 4 [] <| .alt (.op 5 [3] <| .op 6 [] <| .op 7 [3] <| .op 8 [] <| .nil) (.op 7 [3] <| .op 5 [3] <| .op 6 [] <| .op 8 [] <| .nil), [0, 1, 3, 7, 0, 16, 63, 0, 255], false⟩
  | 8 => ⟨.op 0 [] <| .op 1 [] <| .op 2 [] <| .op 3 [] <| .op 4 [] <| .op 5 [] <| .op 6 [] <| .op 7 [] <| .op 8 [] <| .op 9 [] <| .op 10 [] <| .op 11 [] <| .op 12 [] <| .op 13 [] <| .op 14 [] <| .op 15 [] <| .op 16 [] <| .op 18 [] <| .op 20 [] <| .op 21 [] <| .op 23 [] <| .op 24 [] <| .op 25 [] <| .op 26 [] <| .op 27 [] <| .op 29 [] <| .op 17 [4, 8, 12, 20, 26, 29] <| .op 19 [4, 8, 12, 20, 26, 29] <| .op 22 [] <| .op 28 [4, 8, 12, 20, 26, 29] <| .op 30 [] <| .op 31 [4] <| .op 32 [] <| .op 33 [] <| .op 34 [] <| .op 35 [] <| .nil, [0, 0, 2, 6, 14, 0, 32, 96, 224, 0, 512, 1536, 3584, 0, 8192, 24576, 57344, 122880, 0, 516096, 0, 0, 4194272, 0, 8388608, 25165824, 58720256, 0, 135258112, 0, 1066393600, 2147483616, 4294967294, 8589934591, 17179869183, 34359738367], false⟩
  | _ => ⟨.nil, [], false⟩
section
variable {h h' : Heap} {B : Nat} {F : Fb} {e : Eg} {v n t T : Nat} {sents : List Sn} {x : EgV}
theorem eLock_spec (Z : ZP h B F e v n t sents T x) (hlt : t < n) (hT : T < 900000) : HCalls Tryz.prog 62 #[.pointer (some ⟨e.eb, 0, none⟩)] h (fun r h' => r = .func (.func 109) #[] #[] ∧ ∃ x', EgRaw h' e.eb x' ∧ TP h' B F e v n t sents (T + 1) 180 0 x' ∧ ChgT B TyE h h') := by
  obtain ⟨M, S, ha, hl, ht⟩ := Z
  have hP := S.mq.P0
  have hm := Nat.mod_lt t hP
  obtain ⟨f', p, who, nb, next, act, mem, sA, sn, sc, lA, ln, lc, since⟩ := x
  obtain ⟨raw, xf, xp, xw, xn, xs, xl, own, logs, lane, rows, mq, b1, b2, hB, hwho, small, vs⟩ := S
  simp only at xf xp xw xn xs xl own logs lane ha
  subst xf xp xw xn xs xl
  have S : EgS h B F e v ⟨F.fb, e.q, e.who, e.nb, next, act, mem, sA, sents.length, sc, lA, 2 * t, lc, since⟩ M n t noB (t % F.P) sents (2 * t) := ⟨raw, rfl, rfl, rfl, rfl, rfl, rfl, own, logs, lane, rows, mq, b1, b2, hB, hwho, small, vs⟩
  refine xcalls env_eLock Tryz.func62 rfl (by kernel_rfl) rfl (by kernel_rfl) ?_
  repeat (first | refine ⟨_, cell_blk (raw) rfl, ?_⟩)
  refine (cTake_spec mq.fab mq.mem mq.hq hl hwho (by omega)).mono ?_
  rintro r h1 ⟨rfl, M1, c1⟩
  have raw1 := c1.blk raw (by first | (simp; done) | (intro p hp; simp [hp]; done) | (simp [ML]; done) | (intro p hp; simp [ML] at hp ⊢; rcases hp with h | h | h <;> simp [h]; done))
  have lane1 := c1.blk lane (by first | (simp; done) | (intro p hp; simp [hp]; done) | (simp [ML]; done) | (intro p hp; simp [ML] at hp ⊢; rcases hp with h | h | h <;> simp [h]; done))
  have Q1 : MemQ h1 B F e.q v { M with locks := M.locks.set e.q e.who, t := M.t + 1 } n t (fun _ => false) noB := mq.time c1 (by simp [ML, TyE]) (by simp [ML]) M1 rfl
  try (refine ⟨by ((repeat (first | refine ⟨cell_blk (raw1) rfl, ?_⟩)); exact trivial), ?_⟩)
  repeat (first | refine ⟨_, cell_blk (raw1) rfl, ?_⟩)
  refine (nNext_spec (rbs := (List.range F.P).map fun j => F.rb j e.q) (rb := F.rb (t % F.P) e.q) lane1 ?_ ((rows.chg c1 (fun b _ => by first | (simp; done) | (intro p hp; simp [hp]; done) | (simp [ML]; done) | (intro p hp; simp [ML] at hp ⊢; rcases hp with h | h | h <;> simp [h]; done))).base0) (by simp) mq.fab.p2 (by rw [List.getElem?_map, List.getElem?_range hm]; rfl) (Q1.rings _ hm) rfl).mono ?_
  · rcases ha with ha | ⟨tb, a, g1, g2, g3⟩
    · exact .inl ha
    · exact .inr ⟨tb, a, g1, c1.blk g2 (by first | (simp; done) | (intro p hp; simp [hp]; done) | (simp [ML]; done) | (intro p hp; simp [ML] at hp ⊢; rcases hp with h | h | h <;> simp [h]; done)), g3⟩
  rintro r h2 ⟨tb, pb, rfl, gt, gp, lane2, L2, A2, R2, c2⟩
  have raw2 := c2.blk raw1 (by simp)
  have S1 : EgS h1 B F e v ⟨F.fb, e.q, e.who, e.nb, next, act, mem, sA, sents.length, sc, lA, 2 * t, lc, since⟩ _ n t noB (t % F.P) sents (2 * t) := S.upd c1 (by simp [ML]) (by simp [ML]) (by simp [ML]) (by simp [ML]) Q1 lane1 small
  have Q2 : MemQ h2 B F e.q v { M with locks := M.locks.set e.q e.who, t := M.t + 1 } n t (fun _ => false) (fun j => j == t % F.P) := by
    refine Q1.upd c2 (by simp [TyE]) (M1.chg c2 (by simp) (by simp) (by simp)) Q1.cells (fun j hj => ?_) Q1.tn rfl
    by_cases e' : j = t % F.P
    · subst e'
      have := R2
      simp only [beq_self_eq_true]
      exact this
    · have hne : F.rb j e.q ≠ F.rb (t % F.P) e.q := fun q => e' (mq.inj j _ hj hm q)
      have := c2.blk (Q1.rings j hj) (by simp [hne])
      rw [show (j == t % F.P) = false from beq_eq_false_iff_ne.2 e']
      exact this
  refine (eTime_spec raw2 rfl Q2.fab Q2.mem).mono ?_
  rintro r h3 ⟨rfl, rfl⟩
  refine ⟨rfl, rfl, canset_blk raw2 rfl, fun h4 s4 => ?_⟩
  have raw4 : EgRaw h4 e.eb ⟨F.fb, e.q, e.who, e.nb, next, some tb, mem, sA, sents.length, sc, lA, 2 * t, lc, since⟩ := s4.put raw2
  have c4 : Chg [(e.eb, 131)] _ h4 := s4.chg raw2 (.head _)
  refine ⟨rfl, rfl, canset_blk raw4 rfl, fun h5 s5 => ?_⟩
  have raw5 : EgRaw h5 e.eb ⟨F.fb, e.q, e.who, e.nb, next, some tb, mem, sA, sents.length, sc, lA, 2 * t, lc, ((M.t + 1 : Nat) : Int)⟩ := s5.put raw4
  have c5 : Chg [(e.eb, 131)] _ h5 := s5.chg raw4 (.head _)
  have c45 := c4.trans c5
  obtain ⟨l, ol, hll⟩ := S1.logs
  have g1 := c1.size
  have g2 := c2.size
  refine ⟨rfl, _, raw5, ⟨_, tb, pb, ⟨raw5, rfl, rfl, rfl, rfl, rfl, rfl, (S1.own.chg c2 (fun b _ => by simp)).chg c45 (fun b _ => by simp), ⟨l, (ol.chg c2 (fun b _ => by simp)).chg c45 (fun b _ => by simp), hll⟩, c45.blk lane2 (by simp), (S1.rows.chg c2 (fun b _ => by simp)).chg c45 (fun b _ => by simp), Q2.chg c45 (by simp [TyE]) (by simp) (by simp) (by simp) (by simp), b1, b2, by have := c45.size; omega, hwho, small, vs⟩, rfl, c45.blk L2 (by simp), c45.blk A2 (by simp), ?_, ?_, by omega, by omega⟩, ?_⟩
  · show (M.locks.set e.q e.who)[e.q]? = some e.who
    rw [List.getElem?_set_self (List.getElem?_eq_some_iff.1 hl).1]
  · show M.t + 1 = T + 1
    omega
  · refine ((c1.chgT hB ?_).trans (c2.chgT (Nat.le_trans hB g1) ?_)).trans (c45.chgT (by omega) ?_)
    · intro p hp
      simp [ML] at hp
      rcases hp with rfl | rfl | rfl
      · exact ⟨mq.b1, by simp [TyE]⟩
      · exact ⟨mq.b2, by simp [TyE]⟩
      · exact ⟨mq.b3, by simp [TyE]⟩
    · intro p hp
      simp at hp
      rcases hp with rfl | rfl
      · exact ⟨b2, by simp [TyE]⟩
      · exact ⟨mq.b4 _ hm, by simp [TyE]⟩
    · intro p hp
      simp at hp
      subst hp
      exact ⟨b1, by simp [TyE]⟩
/-- The first two steps of a taking. -/
theorem eTake_go {nx nx' : Nat} {val val' : Int} (Z : TP h B F e v n t sents T nx val x) (hs : ∀ (M : MemS) (pb : Nat), M.t = T → MemQ h B F e.q v M n t (fun _ => false) (fun j => j == t % F.P) → ActAt h pb ⟨F.rb (t % F.P) e.q, 6, nx, val, false, 0, false⟩ →
      HCalls Tryz.prog nx #[.pointer (some ⟨pb, 0, none⟩)] h (fun r h' => r = .bool false ∧ ActAt h' pb ⟨F.rb (t % F.P) e.q, 6, nx', val', false, 0, false⟩ ∧ MemAt h' F.mb F.cb F.lb { M with t := M.t + 1 } ∧ Chg [(pb, 182), (F.mb, 176)] h h')) :
    HCalls Tryz.prog 109 #[.pointer (some ⟨e.eb, 0, none⟩)] h (fun r h' => r = .func (.func 109) #[] #[] ∧ ∃ x', EgRaw h' e.eb x' ∧ TP h' B F e v n t sents (T + 1) nx' val' x' ∧ ChgT B TyE h h') := by
  obtain ⟨M, tb, pb, S, ha, hL, hA, hl, ht, gt, gp⟩ := Z
  have raw := S.raw
  have inner : HCalls Tryz.prog 150 #[.pointer (some ⟨tb, 0, none⟩)] h (fun r h' => r = .bool false ∧ (ActAt h' pb ⟨F.rb (t % F.P) e.q, 6, nx', val', false, 0, false⟩ ∧ MemAt h' F.mb F.cb F.lb { M with t := M.t + 1 } ∧ Chg [(pb, 182), (F.mb, 176)] h h')) := by
    refine nStep_go hL rfl ?_
    refine (rStep_go (K := fun h' => ActAt h' pb ⟨F.rb (t % F.P) e.q, 6, nx', val', false, 0, false⟩ ∧ MemAt h' F.mb F.cb F.lb { M with t := M.t + 1 } ∧ Chg [(pb, 182), (F.mb, 176)] h h') hA rfl ((hs M pb ht S.mq hA).mono ?_)).mono ?_
    · rintro r h1 ⟨rfl, a1, m1, c1⟩
      exact ⟨rfl, ⟨_, rfl, a1⟩, a1, m1, c1⟩
    · rintro r h1 ⟨rfl, a1, m1, c1⟩
      exact ⟨rfl, c1.blk hL (by simp), a1, m1, c1⟩
  obtain ⟨f', p, who, nb, next, act, mem, sA, sn, sc, lA, ln, lc, since⟩ := x
  simp only at ha
  subst ha
  refine xcalls env_eTake Tryz.func109 rfl (by kernel_rfl) rfl (by kernel_rfl) ?_
  repeat (first | refine ⟨_, cell_blk (raw) rfl, ?_⟩)
  refine inner.mono ?_
  rintro r h1 ⟨rfl, a1, m1, c1⟩
  have Q1 := S.mq.time c1 (by simp [TyE]) (by simp) m1 rfl
  have S1 := S.upd c1 (by simp) (by simp) (by simp) (by simp) Q1 (c1.blk S.lane (by simp)) S.small
  refine ⟨rfl, _, S1.raw, ⟨_, tb, pb, S1, rfl, c1.blk hL (by simp), a1, hl, by show M.t + 1 = T + 1; omega, gt, gp⟩, c1.chgT S.hB ?_⟩
  intro p hp
  simp at hp
  rcases hp with rfl | rfl
  · exact ⟨gp, by simp [TyE]⟩
  · exact ⟨S.mq.b1, by simp [TyE]⟩
theorem eTake_some (Z : TP h B F e v n t sents T 180 0 x) (hlt : t < n) (hT : T < 900000) : HCalls Tryz.prog 109 #[.pointer (some ⟨e.eb, 0, none⟩)] h (fun r h' => r = .func (.func 109) #[] #[] ∧ ∃ x', EgRaw h' e.eb x' ∧ TP h' B F e v n t sents (T + 1) 204 0 x' ∧ ChgT B TyE h h') := by
  refine eTake_go Z fun M pb ht Q hA => ?_
  have hP := Q.P0
  have hm := Nat.mod_lt t hP
  exact rSome_spec hA (Q.rings _ hm) Q.mem rfl (Q.cells.put _ hm) (cN_lt hP hlt) (by have := Q.big; omega) (by omega)
theorem eTake_get (Z : TP h B F e v n t sents T 204 0 x) (hlt : t < n) (hT : T < 900000) : HCalls Tryz.prog 109 #[.pointer (some ⟨e.eb, 0, none⟩)] h (fun r h' => r = .func (.func 109) #[] #[] ∧ ∃ x', EgRaw h' e.eb x' ∧ TP h' B F e v n t sents (T + 1) 211 (tik v t) x' ∧ ChgT B TyE h h') := by
  refine eTake_go Z fun M pb ht Q hA => ?_
  have hP := Q.P0
  have hm := Nat.mod_lt t hP
  refine rGet_spec hA (Q.rings _ hm) Q.mem rfl ?_ (by have := Q.big; omega) (by omega)
  have hS : t / F.P < F.S := (Nat.div_lt_iff_lt_mul hP).2 (Nat.lt_of_lt_of_le hlt Q.cells.fit)
  show M.cells[bs F.b0 F.P F.S e.q (t % F.P) + (2 + cN F.P (t % F.P) t % F.S)]? = some (tik v t)
  rw [cN_at, Nat.mod_eq_of_lt hS]
  exact Q.cells.val t hlt
end
end Go.Proofs.YthoikbogkhpciaaGreatE
