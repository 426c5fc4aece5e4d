/- CtlWaits: an order for a port whose lock another one has waits for it: nothing changes till it is free; a VLAN's order waits for every port's. Conditions: the arguments are of their types. -/
import Derived.Test.YthoikbogkhpciaaGreatXGE
import Derived.Test.YthoikbogkhpciaaGreatXG7
set_option linter.unusedVariables false
set_option linter.unusedSimpArgs false
set_option maxRecDepth 100000
namespace Go.Proofs.YthoikbogkhpciaaGreatE
open Go Go.Proofs
def env_lWaits : Nat → Ann
  | 8 => ⟨.nil, [], true⟩
  | _ => ⟨.nil, [], false⟩
/-- An order for a port, or for a VLAN. -/
def WaitO (F : Fb) (q : Nat) (o : Op17) (ls : List Nat) (d : Nat) : Prop :=
  (o.kind = 8 ∧ rightSt o.state = true ∧ ls = [q] ∧ d = 0) ∨ (o.kind = 9 ∧ (∃ j : Nat, findV o.vid F.vls 0 = (j : Int) ∧ j < F.vls.length) ∧ ls = List.range F.P ∧ d = q)
theorem WaitO.get {F : Fb} {q d : Nat} {o : Op17} {ls : List Nat} (H : WaitO F q o ls d) (hq : q < F.P) : (∀ i, i < d → ls[i]? = some i) ∧ ls[d]? = some q ∧ d ≤ q := by
  rcases H with ⟨_, _, rfl, rfl⟩ | ⟨_, _, rfl, rfl⟩
  · exact ⟨fun i h => absurd h (Nat.not_lt_zero i), rfl, Nat.zero_le _⟩
  · exact ⟨fun i h => List.getElem?_range (by omega), List.getElem?_range hq, Nat.le_refl _⟩
section
variable {h h' : Heap} {B : Nat} {F : Fb} {M : MemS} {q : Nat} {o : Op17}
theorem wait_begin (H : FabAt h F) (HM : MemAt h F.mb F.cb F.lb M) (b1 : B ≤ F.mb) (b2 : B ≤ F.cb) (b3 : B ≤ F.lb) (hB : B ≤ h.size) (hpr : ∀ p ∈ F.prot, h[p.1]? = some (.cells p.2 3 (0, 0)) ∧ p.1 ≠ F.lb) {who : Int} (hw : 0 ≤ who) (hq : q < F.P) (hpo : o.port = (q : Int)) (ht : M.t < 900000)
    (hk : (o.kind = 8 ∧ rightSt o.state = true) ∨ (o.kind = 9 ∧ ∃ j : Nat, findV o.vid F.vls 0 = (j : Int) ∧ j < F.vls.length)) (hlk : ∀ p, p < F.P → M.locks[p]? = some (if p = q then 70 else -1)) :
    HCalls Tryz.prog 26 #[.pointer (some ⟨F.fb, 0, none⟩), .int .i64 who, .agg (encO17 o).toArray] h (fun v h' => ∃ ab ls d, v = .pointer (some ⟨ab, 0, none⟩) ∧ WaitO F q o ls d ∧ WaitS h' B F ab q d who o ls M ⟨who, M.t, 0, 0, o, 0⟩ 0 h' ∧ Ext h h') := by
  have lk : ∀ (hd : Nat), hd = 0 → ∀ p, p < F.P → M.locks[p]? = some (if p = q then 70 else if p < hd then who else -1) := fun hd e p hp => by
    rw [hlk p hp, e]
    by_cases g : p = q
    · rw [if_pos g, if_pos g]
    · rw [if_neg g, if_neg g, if_neg (Nat.not_lt_zero p)]
  rcases hk with ⟨k8, hs⟩ | ⟨k9, j, hj, hjl⟩
  · refine (cCommand_port H HM b1 b2 b3 hB hpr hw k8 hpo hq hs ht).mono ?_
    rintro v h1 ⟨ab, x, rfl, S, xo, xw, xh, xf, xp, xn, x1⟩
    exact ⟨ab, [q], 0, rfl, .inl ⟨k8, hs, rfl, rfl⟩, ⟨ChgT.refl _, x, M, S, xo, xw, fun _ => ⟨xf, xp⟩, xn, by omega, rfl, rfl, rfl, lk _ xh⟩, x1⟩
  · refine (cCommand_vlan H HM b1 b2 b3 hB hpr hw k9 hj ht).mono ?_
    rintro v h1 ⟨ab, x, rfl, S, xo, xw, xh, xn, x1⟩
    exact ⟨ab, _, q, rfl, .inr ⟨k9, ⟨j, hj, hjl⟩, rfl, rfl⟩, ⟨ChgT.refl _, x, M, S, xo, xw, fun g => by omega, xn, by omega, rfl, rfl, rfl, lk _ xh⟩, x1⟩
theorem WaitS.ext {h0 : Heap} {ab d i : Nat} {who : Int} {ls : List Nat} {E : He} (H : WaitS h0 B F ab q d who o ls M E i h) (e : Ext h h') : WaitS h0 B F ab q d who o ls M E i h' := by
  obtain ⟨c0, x, M', S, r⟩ := H
  exact ⟨c0.trans (e.chgT S.hB), x, M', S.ext e, r⟩
/-- An order that waited goes to its end. -/
theorem wait_end {ab d n : Nat} {who : Int} {ls : List Nat} {E : He} {x : CaV} (H : WaitO F q o ls d) (hq : q < F.P) (hb0 : F.P ≤ F.b0) (hv : F.P + 2 * F.vls.length ≤ M.cells.length) (hw : 0 ≤ who) (hpo : o.port = (q : Int)) (wm : SetWf o.mem) (wu : SetWf o.unt)
    (S : CaS h B F ab x ls M E) (W : Rings h B F M (fun _ _ => []) no2 no2) (xo : x.o = o) (xw : x.who = who) (xf : o.kind = 8 → x.from_ = 0 ∧ x.pop = none) (xn : x.next = .func (.func 69) #[] #[]) (xh : x.held = d) (hlk : ∀ p, p < F.P → M.locks[p]? = some (if p < d then who else -1)) (hz : M.cells[q]? = some 0) (ht0 : d ≤ M.t) (ht : M.t < 500000) (h8 : F.P ≤ 8) (n0 : 64 ≤ n) (n1 : n < 100000) :
    HCalls Tryz.prog 33 #[.pointer (some ⟨ab, 0, none⟩), .int .i64 n] h (fun v h' => v = .bool true ∧ ChgT B TyD h h' ∧ ∃ x' M' es, CaL h' B F ab x' ls M' es ∧ 0 < es.length ∧ es.length ≤ 100 ∧ (∀ e ∈ es, 0 < e.mark) ∧ M'.locks[q]? = some (-1) ∧ M'.t < 600000) := by
  have p1 := S.fab.p1
  rcases H with ⟨k8, hs, rfl, rfl⟩ | ⟨k9, ⟨j, hj, hjl⟩, rfl, rfl⟩
  · have hlq : M.locks[q]? = some (-1) := by rw [hlk q hq, if_neg (Nat.not_lt_zero q)]
    have hlt : q < M.locks.length := (List.getElem?_eq_some_iff.1 hlq).1
    have pk : ∀ m j, pendK (fun _ _ => []) q m j = [] := by
      intro m
      induction m with
      | zero => intro j; rfl
      | succ m ih => intro j; unfold pendK; rw [ih]; rfl
    have rm : ∀ m j, remE (fun _ _ => []) q m j = m := by
      intro m
      induction m with
      | zero => intro j; rfl
      | succ m ih => intro j; unfold remE; rw [ih]; simp; omega
    have hst : stepsD (fun _ _ => []) q F.P o.state ≤ 12 := by
      unfold stepsD
      rw [rm]
      split <;> omega
    have hst4 : 4 ≤ stepsD (fun _ _ => []) q F.P o.state := by
      unfold stepsD
      split <;> omega
    have Q0 : SetD h B F ab q who o M (fun _ _ => []) 0 h := ⟨ChgT.refl _, x, M, rfl, xo, xw, .inl ⟨by omega, ⟨E, S⟩, W, rfl, (xf k8).2, (xf k8).1, xh, rfl, .inl ⟨rfl, xn⟩⟩⟩
    have over : ∀ g, SetD h B F ab q who o M (fun _ _ => []) (stepsD (fun _ _ => []) q F.P o.state) g → ChgT B TyD h g ∧ ∃ x' M' es, CaL g B F ab x' [q] M' es ∧ x'.next = .nilFunc ∧ 0 < es.length ∧ es.length ≤ 100 ∧ (∀ e ∈ es, 0 < e.mark) ∧ M'.locks[q]? = some (-1) ∧ M'.t < 600000 := by
      rintro g ⟨cg, y, M', hT, _, _, H⟩
      rcases H with ⟨hk2, _⟩ | ⟨_, _, _, j, p, L, es, hj, hp2, D, hrem, H⟩ | ⟨_, _, _, hk1, _⟩ | ⟨hl, hn, _, L, es, D, S', W'⟩
      · omega
      · exfalso
        have : 1 ≤ remE L q (F.P - j) j := by
          obtain ⟨m, hm⟩ : ∃ m, F.P - j = m + 1 := ⟨F.P - j - 1, by omega⟩
          rw [hm]; unfold remE; omega
        rcases H with ⟨rfl, _⟩ | ⟨hp, _, _, _, _, _, _, _, _, _, ph, _⟩
        · omega
        · have : L j q ≠ [] := by
            rcases ph with ⟨g, _⟩ | ⟨_, _, g⟩ | ⟨_, _, y, r, g, _⟩
            · omega
            · exact g
            · rw [g]; simp
          have : 0 < (L j q).length := List.length_pos_iff.2 this
          have : 4 ≤ remE L q (F.P - j) j := by
            obtain ⟨m, hm⟩ : ∃ m, F.P - j = m + 1 := ⟨F.P - j - 1, by omega⟩
            rw [hm]; unfold remE; omega
          omega
      · omega
      · obtain ⟨E0, gs, rfl, e1, e2, e3, e4⟩ := D.log
        have hg : gs = [] := by
          rw [pk] at e4
          simpa using e4
        subst hg
        refine ⟨cg, y, M', _, S', hn, by simp, by simp, ?_, ?_, by omega⟩
        · intro e he
          rw [List.mem_singleton] at he
          subst he
          exact e1
        · rw [hl]
          exact List.getElem?_set_self (by rw [List.length_set]; exact hlt)
    refine (lFinish_spec (n := stepsD (fun _ _ => []) q F.P o.state) (by omega) (by omega) n1 Q0 (fun k hk g Q => setD_step hq hb0 hpo k8 hs hlq hz (by rw [pk]; decide) (by omega) hk Q) (fun g Q => ?_)).mono ?_
    · obtain ⟨_, y, M', es, S', hn, _⟩ := over g Q
      exact aOver_nil S'.raw hn
    · rintro v h1 ⟨rfl, Q⟩
      obtain ⟨c1, y, M', es, S', hn, r⟩ := over h1 Q
      exact ⟨rfl, c1, y, M', es, S', r⟩
  · have hjb : F.P + 2 * j + 1 < M.cells.length := by omega
    have Q0 : SetV h B F ab { M with t := M.t - d } o who j d h :=
      ⟨ChgT.refl _, x, M, _, S, xo, xw, by show M.t = M.t - d + d; omega, rfl, fun p hp => by rw [hlk p hp, xh], .inl ⟨by omega, xh, rfl, by rw [xn, if_pos hq]⟩⟩
    have over : ∀ g, SetV h B F ab { M with t := M.t - d } o who j (d + (2 * F.P + 2 - d)) g → ∃ x' M' E', ChgT B TyC h g ∧ CaS g B F ab x' (List.range F.P) M' E' ∧ x'.next = .nilFunc ∧ 0 < E'.mark ∧ M'.t < 600000 ∧ M'.locks[d]? = some (-1) := by
      rintro g ⟨cg, y, M', E', Sg, _, _, hTg, _, hlg, H⟩
      have hTg : M'.t = M.t - d + (d + (2 * F.P + 2 - d)) := hTg
      rcases H with ⟨hk, _⟩ | ⟨hk, _⟩ | ⟨hE, hcs, j', hk, hj', hh, hn⟩
      · omega
      · omega
      · have : j' = F.P := by omega
        subst this
        exact ⟨y, M', E', cg, Sg, by rw [hn, if_neg (Nat.lt_irrefl _)], hE.2, by omega, by rw [hlg d hq, if_neg (by omega)]⟩
    refine (lFinish_spec (Q := fun i g => SetV h B F ab { M with t := M.t - d } o who j (d + i) g) (n := 2 * F.P + 2 - d) (by omega) (by omega) n1 Q0 (fun k hk g Q => (setV_step (M := { M with t := M.t - d }) (k := d + k) hw k9 hj hjl wm wu hjb (by show M.t - d < 800000; omega) (by omega) Q).mono ?_) (fun g Q => ?_)).mono ?_
    · rintro v g' ⟨rfl, Q'⟩
      refine ⟨congrArg Value.bool ?_, Q'⟩
      rw [Bool.eq_iff_iff, beq_iff_eq, beq_iff_eq]
      omega
    · obtain ⟨y, M', E', _, Sg, hn, _⟩ := over g Q
      exact aOver_nil Sg.raw hn
    · rintro v h1 ⟨rfl, Q⟩
      obtain ⟨y, M', E', c1, S', hn, hm, hT, hl⟩ := over h1 Q
      exact ⟨rfl, c1.toD, y, M', _, S'.toL, by simp, by simp, fun e he => by rw [List.mem_singleton] at he; subst he; exact hm, hl, hT⟩
end
/-- What an order of any Op is turned into. -/
def waitZ (z : Op17) : Op17 := if z.kind ≠ 8 ∧ z.kind ≠ 9 then { z with kind := 8, state := 4 } else z
def waitOp (P : Int) (vls : List Vl) (o : Op17) : Op17 := { waitZ (fixOp P vls o) with port := (waitZ (fixOp P vls o)).port % 18446744073709551616 % P }
theorem waitOp_kind {F : Fb} {o : Op17} : ((waitOp F.P F.vls o).kind = 8 ∧ rightSt (waitOp F.P F.vls o).state = true) ∨ ((waitOp F.P F.vls o).kind = 9 ∧ ∃ j : Nat, findV (waitOp F.P F.vls o).vid F.vls 0 = (j : Int) ∧ j < F.vls.length) := by
  obtain ⟨z, hz⟩ : ∃ z, fixOp F.P F.vls o = z := ⟨_, rfl⟩
  unfold waitOp
  rw [hz]
  unfold waitZ
  have hst : 0 ≤ z.state ∧ z.state ≤ 4 := by
    rw [← hz]
    show 0 ≤ o.state % 18446744073709551616 % 5 ∧ o.state % 18446744073709551616 % 5 ≤ 4
    omega
  by_cases g : z.kind ≠ 8 ∧ z.kind ≠ 9
  · left
    rw [if_pos g]
    exact ⟨rfl, show rightSt 4 = true by decide⟩
  · rw [if_neg g]
    by_cases g8 : z.kind = 8
    · exact .inl ⟨g8, decide_eq_true hst⟩
    · have g9 : z.kind = 9 := by omega
      right
      refine ⟨g9, ?_⟩
      have e : fixK o = 9 ∧ 0 < F.vls.length := by
        rw [← hz] at g9
        have g9 : (if fixK o = 9 ∧ F.vls.length = 0 then 8 else fixK o) = 9 := g9
        by_cases c : fixK o = 9 ∧ F.vls.length = 0
        · rw [if_pos c] at g9; omega
        · rw [if_neg c] at g9; omega
      have hv : z.vid = (F.vls.getD (o.vid % 18446744073709551616 % F.vls.length).toNat ⟨0, 0, 0⟩).vid := by
        rw [← hz]
        show (if fixK o = 9 ∧ 0 < F.vls.length then _ else _) = _
        rw [if_pos e]
      have lp : (0 : Int) < F.vls.length := by omega
      have hml : (o.vid % 18446744073709551616 % (F.vls.length : Int)).toNat < F.vls.length := by have := Int.emod_lt_of_pos (o.vid % 18446744073709551616) lp; have := Int.emod_nonneg (o.vid % 18446744073709551616) (show (F.vls.length : Int) ≠ 0 by omega); omega
      have hm : ∃ w ∈ F.vls, w.vid = z.vid := ⟨F.vls[(o.vid % 18446744073709551616 % (F.vls.length : Int)).toNat], List.getElem_mem hml, by rw [hv, List.getD_eq_getElem?_getD, List.getElem?_eq_getElem hml]; rfl⟩
      have hne := findV_mem (vid := z.vid) F.vls 0 hm
      show ∃ j : Nat, findV z.vid F.vls 0 = (j : Int) ∧ j < F.vls.length
      rcases findV_range (vid := z.vid) F.vls 0 with h0 | ⟨h0, h1⟩
      · exact absurd h0 hne
      · exact ⟨(findV z.vid F.vls 0).toNat, by omega, by omega⟩
theorem lWaits_spec {h : Heap} {A B : Option Addr} {na ca nb cb : Nat} {rules : List Ru} {vls : List Vl} {P tries ring normal short who : Int} {s : Sz} {o : Op17}
    (hra : Row encRu 2 h A rules) (hla : rules.length = na) (hrb : Row encVl 3 h B vls) (hlb : vls.length = nb) (wf : ∀ v ∈ vls, SetWf v.mem ∧ SetWf v.unt) (wk : KeyWf o.kvid o.mac) (wm : SetWf o.mem) (wu : SetWf o.unt) :
    HCalls Tryz.prog 5 #[.agg (planV P (.slice A na ca) (.slice B nb cb) s tries ring normal short).toArray, .agg (encO17 o).toArray, .int .i64 who] h (fun v h' => v = .bool true ∧ Ext h h') := by
  refine xcalls env_lWaits Tryz.func5 rfl (by kernel_rfl) rfl (by kernel_rfl) ?_
  intro ib h1 n1 ob h2 n2
  have hob2 : h2[ob]? = some (.cells (encO17 o).toArray 58 (0, 0)) := n2.this
  have x2 := n1.ext.trans n2.ext
  refine ⟨_, rfl, reads_all (n2.ext.blk n1.this), ?_⟩
  refine (rPFix_spec (x2.row hra) hla (x2.row hrb) hlb wf).mono ?_
  rintro v h3 ⟨A1, c1, B1, d1, rfl, oR, oV, x3⟩
  have oR : OwnA encRu 2 _ h2.size h3 A1 c1 (fixRules P rules) := oR
  have oV : OwnA encVl 3 _ h2.size h3 B1 d1 (fixVlans P vls) := oV
  have hib3 := x3.blk (n2.ext.blk n1.this)
  have neo : ob ≠ ib := by have := n2.at_; have := blk_lt n1.this; omega
  refine ⟨rfl, rfl, canset_blk hib3 rfl, fun h4 s4 => ?_⟩
  have hib4 : h4[ib]? = some (.cells (planV (fixPorts P) (.slice A1 (fixPorts P).toNat c1) (.slice B1 (fixVlans P vls).length d1) (fixSz s) (fixTries tries) (fixRing ring) normal short).toArray 28 (0, 0)) := s4.put hib3
  have x4 : Ext h h4 := (x2.trans x3).stored s4 (n1.ge (Ext.refl _))
  have c4 : Chg [(ib, 28)] h3 h4 := s4.chg hib3 (.head _)
  have hob4 := c4.blk (x3.blk hob2) (by simp)
  have oR4 := oR.chg c4 (fun b _ => by simp)
  have oV4 := oV.chg c4 (fun b _ => by simp)
  refine ⟨_, rfl, reads_all hib4, ?_⟩
  refine (lMake_fix2 (oR4.row encRu_len) (oV4.row encVl_len) wf).mono ?_
  rintro v h5 ⟨F, M, rfl, eP, eS, p8, Fr0, eV⟩
  have Fr := Fr0.mono x4
  have x45 := Fr0.ext
  have p1 := Fr.fab.p1
  have Mt := Fr.t
  refine told19_spec.mono ?_
  rintro v h6 ⟨rfl, x6⟩
  have Fr6 := Fr.of_ext x6
  have x46 := x45.trans x6
  have hib6 := x46.blk hib4
  have hob6 := x46.blk hob4
  have oR6 := oR4.ext x46
  have oV6 := oV4.ext x46
  have wfv : ∀ v ∈ fixVlans P vls, SetWf v.mem ∧ SetWf v.unt := fun v hv => fixVl_wf _ _ (fun v hv => wf v (List.mem_of_mem_take hv)) v hv
  have vl8 := fixVlans_len P vls
  have hib6' := hib6
  rw [eP] at hib6'
  have rb : ∀ g : Heap, Row encRu 2 g A1 (fixRules P rules) → Row encVl 3 g B1 (fixVlans P vls) → HCalls Tryz.prog 28 #[.agg (planV (F.P : Int) (.slice A1 (F.P : Int).toNat c1) (.slice B1 (fixVlans P vls).length d1) (fixSz s) (fixTries tries) (fixRing ring) normal short).toArray] g (fun v h' => ∃ n : Nat, 64 ≤ n ∧ n < 100000 ∧ v = .int .i64 (n : Int) ∧ Ext g h') := fun g r1 r2 => by
    rw [← eP]
    exact rBound19_spec r1 r2 wf
  refine ⟨_, rfl, reads_all hob6, _, rfl, reads_all hib6', ?_⟩
  refine (lFix19_spec (rules := []) (oV6.row encVl_len) rfl (by omega) (by omega) (by omega) wk).mono ?_
  rintro v h7 ⟨rfl, x7⟩
  have hob7 := x7.blk hob6
  refine ⟨rfl, rfl, canset_blk hob7 rfl, fun h8 s8 => ?_⟩
  rw [← eV] at s8
  have hob8 : h8[ob]? = some (.cells (encO17 (fixOp F.P F.vls o)).toArray 58 (0, 0)) := s8.put hob7
  have c8 : Chg [(ob, 58)] h7 h8 := s8.chg hob7 (.head _)
  obtain ⟨z, hz⟩ : ∃ z, fixOp F.P F.vls o = z := ⟨_, rfl⟩
  rw [hz] at hob8
  have zm : z.mem = o.mem := by rw [← hz]; rfl
  have zu : z.unt = o.unt := by rw [← hz]; rfl
  refine ⟨Unit, fun _ => [(3, .pointer (some ⟨ib, 0, none⟩)), (4, .pointer (some ⟨ob, 0, none⟩)), (7, .pointer (some ⟨F.fb, 0, none⟩))], fun _ h' => h'[ob]? = some (.cells (encO17 (waitZ z)).toArray 58 (0, 0)) ∧ Chg [(ob, 58)] h7 h', ?_, ?_⟩
  · repeat (first | refine ⟨_, cell_blk (hob8) rfl, ?_⟩)
    refine xif_of (fun g => ?_) (fun g => ?_)
    · have g : (z.kind != 8) = true := g
      have g8 : z.kind ≠ 8 := by simpa using g
      repeat (first | refine ⟨_, cell_blk (hob8) rfl, ?_⟩)
      refine xif_of (fun g2 => ?_) (fun g2 => ?_)
      · have g2 : (z.kind != 9) = true := g2
        have g9 : z.kind ≠ 9 := by simpa using g2
        refine ⟨rfl, rfl, canset_blk hob8 rfl, fun h9 s9 => ?_⟩
        have hob9 : h9[ob]? = some (.cells (encO17 { z with kind := 8 }).toArray 58 (0, 0)) := s9.put hob8
        refine ⟨rfl, rfl, canset_blk hob9 rfl, fun h10 s10 => ?_⟩
        refine ⟨(), ⟨rfl, rfl, rfl, trivial⟩, ?_, (c8.trans (s9.chg hob8 (.head _))).trans (s10.chg hob9 (.head _))⟩
        unfold waitZ
        rw [if_pos ⟨g8, g9⟩]
        exact s10.put hob9
      · have g2 : (z.kind != 9) = false := g2
        have g9 : z.kind = 9 := by simpa using g2
        exact ⟨(), ⟨rfl, rfl, rfl, trivial⟩, by unfold waitZ; rw [if_neg (fun k => k.2 g9)]; exact hob8, c8⟩
    · have g : (z.kind != 8) = false := g
      have g8 : z.kind = 8 := by simpa using g
      exact ⟨(), ⟨rfl, rfl, rfl, trivial⟩, by unfold waitZ; rw [if_neg (fun k => k.1 g8)]; exact hob8, c8⟩
  rintro _ h9 ⟨hob9, c9⟩
  obtain ⟨z2, hz2⟩ : ∃ z2, waitZ z = z2 := ⟨_, rfl⟩
  have zm2 : z2.mem = o.mem := by rw [← hz2, ← zm]; unfold waitZ; split <;> rfl
  have zu2 : z2.unt = o.unt := by rw [← hz2, ← zu]; unfold waitZ; split <;> rfl
  rw [hz2] at hob9
  have hib7 := x7.blk hib6'
  have hib9 := c9.blk hib7 (by simp)
  repeat (first | refine ⟨_, cell_blk (hob9) rfl, ?_⟩ | refine ⟨_, cell_blk (hib9) rfl, ?_⟩)
  obtain ⟨q, hq⟩ : ∃ q : Nat, z2.port % 18446744073709551616 % (F.P : Int) = q := ⟨_, (Int.toNat_of_nonneg (Int.emod_nonneg _ (by omega))).symm⟩
  have hqP : q < F.P := by have := Int.emod_lt_of_pos (z2.port % 18446744073709551616) (show (0 : Int) < F.P by omega); omega
  refine ⟨?_, ?_⟩
  · rw [wrap_u64 (by omega) (by omega)]; omega
  refine ⟨rfl, rfl, canset_blk hob9 rfl, fun h10 s10 => ?_⟩
  have hob10 : h10[ob]? = some (.cells (encO17 { z2 with port := q }).toArray 58 (0, 0)) := by
    have := s10.put hob9
    rw [mod_put (by omega) (by omega) hq] at this
    exact this
  have ew : waitOp F.P F.vls o = { z2 with port := q } := by
    unfold waitOp
    rw [hz, hz2, hq]
  have hkind := waitOp_kind (F := F) (o := o)
  rw [ew] at hkind
  have c10 : Chg [(ob, 58)] h7 h10 := c9.trans (s10.chg hob9 (.head _))
  have hib10 := c10.blk hib7 (by simp)
  have x7a : Ext h h7 := (x4.trans x46).trans x7
  have Fr7 := Fr6.of_ext x7
  have x10 : Ext h h10 := by
    have c : ChgT h.size [58] h7 h10 := c10.chgT x7a.size fun p hp => by simp at hp; subst hp; exact ⟨n2.ge n1.ext, by simp⟩
    exact c.ext x7a
  have fab10 : FabAt h10 F := Fr7.fab.chgT (c10.chgT (B := 0) (TY := [58]) (Nat.zero_le _) fun p hp => by simp at hp; subst hp; exact ⟨Nat.zero_le _, by simp⟩) (by decide) (by decide) (by decide) (by decide) (by decide)
  have mem10 := Fr7.mem.chg c10 (by simp) (by simp) (by simp)
  have W10 := (rings_fresh Fr7).same (M' := M) c10 (by simp) rfl (fun _ _ => rfl)
  have oR10 := (oR6.ext x7).chg c10 (fun b _ => by simp)
  have oV10 := (oV6.ext x7).chg c10 (fun b _ => by simp)
  repeat (first | refine ⟨_, cell_blk (hob10) rfl, ?_⟩)
  have hlq : M.locks[q]? = some (-1) := Fr.locks q hqP
  have hllt : q < M.locks.length := (List.getElem?_eq_some_iff.1 hlq).1
  refine (cTake_spec fab10 mem10 hqP hlq (by decide) (by omega)).mono ?_
  rintro v h11 ⟨rfl, m11, c11⟩
  have frM : ∀ g g', Chg (ML F.mb F.cb F.lb) g g' → h.size ≤ g.size → ChgT h.size TyC g g' := fun g g' c hs => c.chgT hs fun p hp => by
    simp [ML] at hp
    rcases hp with rfl | rfl | rfl
    · exact ⟨Fr.g1, by simp [TyC]⟩
    · exact ⟨Fr.g2, by simp [TyC]⟩
    · exact ⟨Fr.g3, by simp [TyC]⟩
  have f11 := frM _ _ c11 x10.size
  have x11 := f11.ext x10
  have hob11 := c11.blk hob10 (by simp [ML])
  have hib11 := c11.blk hib10 (by simp [ML])
  refine ⟨_, rfl, reads_all hob11, ?_⟩
  refine (l17Op_spec _).mono ?_
  rintro v h12 ⟨rfl, x12⟩
  have fab11 : FabAt h11 F := fab10.chgT f11 (by decide) (by decide) (by decide) (by decide) (by decide)
  refine (wait_begin (B := h.size) (who := 5) (q := q) (o := { z2 with port := q }) (fab11.ext x12) (m11.ext x12) Fr.g1 Fr.g2 Fr.g3 (x11.trans x12).size (by rw [Fr.pr]; simp) (by decide) hqP rfl (by show M.t + 1 < 900000; omega) hkind (fun p hp => ?_)).mono ?_
  · show (M.locks.set q 70)[p]? = some (if p = q then 70 else -1)
    by_cases e : p = q
    · subst e
      rw [List.getElem?_set_self hllt, if_pos rfl]
    · rw [List.getElem?_set_ne (Ne.symm e), if_neg e]
      exact Fr.locks p hp
  rintro v h13 ⟨ab, ls, d, rfl, WO, Q0, x13⟩
  have x1213 := x12.trans x13
  have hib13 := x1213.blk hib11
  have x013 := x11.trans x1213
  obtain ⟨lsg, lsq, dq⟩ := WO.get hqP
  refine ⟨Nat, fun i => [(3, .pointer (some ⟨ib, 0, none⟩)), (7, .pointer (some ⟨F.fb, 0, none⟩)), (8, .int .i64 q), (9, .pointer (some ⟨ab, 0, none⟩)), (10, .int .i64 i)], fun i h' => i ≤ 200000 ∧ WaitS h13 h.size F ab q d 5 { z2 with port := q } ls { M with locks := M.locks.set q 70, t := M.t + 1 } ⟨5, ((M.t + 1 : Nat) : Int), 0, 0, { z2 with port := q }, 0⟩ i h', fun i => 200000 - i, 0, ⟨rfl, rfl, rfl, rfl, rfl, trivial⟩, ⟨by omega, Q0⟩, ?_⟩
  rintro i h14 ⟨hi, Q⟩
  have c14 := Q.1
  have hib14 := c14.typ _ _ _ _ hib13 (by decide)
  refine ⟨_, rfl, reads_all hib14, ?_⟩
  have oR14 := ((((oR10.chg c11 (fun b _ => by simp [ML])).ext x1213)).chgT c14 (by decide))
  have oV14 := ((((oV10.chg c11 (fun b _ => by simp [ML])).ext x1213)).chgT c14 (by decide))
  refine (rb _ (oR14.row encRu_len) (oV14.row encVl_len)).mono ?_
  rintro v h15 ⟨n, n0, n1, rfl, x15⟩
  have Q' := Q.ext x15
  have hw2 : IntKind.i64.wrap (2 * (n : Int)) = ((2 * n : Nat) : Int) := by rw [wrap_i64 (by omega) (by omega)]; omega
  refine xif_of (fun g => ?_) (fun g => ?_)
  · have g : (i : Int) < IntKind.i64.wrap (2 * (n : Int)) := of_decide_eq_true g
    rw [hw2] at g
    refine (wait_step hqP dq lsg lsq (by show M.t + 1 + i < 800000; omega) Q').mono ?_
    rintro v h16 ⟨rfl, Q1⟩
    exact ⟨i + 1, ⟨rfl, rfl, rfl, rfl, slot_inc (by omega), trivial⟩, ⟨by omega, Q1⟩, by show 200000 - (i + 1) < 200000 - i; omega⟩
  have g : ¬ (i : Int) < IntKind.i64.wrap (2 * (n : Int)) := of_decide_eq_false g
  rw [hw2] at g
  obtain ⟨c15, x, M', S, xo, xw, xf, xn, xh, hT, hC, hL, hlk⟩ := Q'
  have hT : M'.t = M.t + 1 + i := hT
  have hC : M'.cells = M.cells := hC
  have hz0 : M.cells[q]? = some 0 := Fr.low q hqP
  refine (cStand_spec S.fab S.mem hqP (by rw [hC]; exact hz0) (by omega)).mono ?_
  rintro v h16 ⟨rfl, m16, c16⟩
  have c16' : Chg (ML F.mb F.cb F.lb) h15 h16 := c16.mono (by first | (simp; done) | (intro p hp; simp [hp]; done) | (simp [ML]; done) | (intro p hp; simp [ML] at hp ⊢; rcases hp with h | h | h <;> simp [h]; done))
  have S16 := S.memory c16' m16
  refine (aLog_one S16).mono ?_
  rintro v h17 ⟨A17, k17, rfl, o17, x17⟩
  have S17 := S16.ext x17
  refine (aLog_one S17).mono ?_
  rintro v h18 ⟨A18, k18, rfl, o18, x18⟩
  have S18 := S17.ext x18
  obtain ⟨a, ha, hrd⟩ := o18.row encHe_len 0 _ rfl
  have rm : cell h18 ((a.add (0 * 19)).add 2) = some (.int .i64 0) := hrd.get 2 rfl
  refine ⟨a, ha, by decide, (by show (0 : Int) < ((1 : Nat) : Int); decide), _, rm, ?_⟩
  have hl70 : M'.locks[q]? = some 70 := by rw [hlk q hqP, if_pos rfl]
  refine (cTake_no S18.fab S18.mem hqP (a := 70) hl70 (by decide) (by decide) (by show M'.t + 1 < 1000000; omega)).mono ?_
  rintro v h19 ⟨rfl, m19, c19⟩
  have S19 := S18.memory c19 m19
  refine (cFree_spec S19.fab S19.mem (who := 70) hqP hl70 (by decide) (by show M'.t + 1 + 1 < 1000000; omega)).mono ?_
  rintro v h20 ⟨rfl, m20, c20⟩
  have S20 := S19.memory c20 m20
  have f20 : ChgT h.size TyC h13 h20 := (((((c15.trans (S.frM c16')).trans (x17.chgT S16.hB)).trans (x18.chgT S17.hB)).trans (S18.frM c19)).trans (S19.frM c20))
  have hib20 := f20.typ _ _ _ _ hib13 (by decide)
  have oR20 := ((((oR10.chg c11 (fun b _ => by simp [ML])).ext x1213)).chgT f20 (by decide))
  have oV20 := ((((oV10.chg c11 (fun b _ => by simp [ML])).ext x1213)).chgT f20 (by decide))
  have f1020 := f11.trans ((x1213.chgT x11.size).trans f20)
  have W20 := W10.typ (M' := { M' with locks := M'.locks.set q (-1), t := M'.t + 1 + 1 + 1 }) f1020 (by decide) (by show M'.cells.length = _; rw [hC]) (fun k _ => by show M'.cells[k]? = _; rw [hC]) (by show M.t ≤ M'.t + 1 + 1 + 1; omega)
  refine ⟨_, rfl, reads_all hib20, ?_⟩
  refine (rb _ (oR20.row encRu_len) (oV20.row encVl_len)).mono ?_
  rintro v h21 ⟨n', n0', n1', rfl, x21⟩
  have S21 := S20.ext x21
  have hlen := Fr.len
  have hbv := Fr.bv
  refine (wait_end (M := { M' with locks := M'.locks.set q (-1), t := M'.t + 1 + 1 + 1 }) WO hqP Fr.b0 (by show F.P + 2 * F.vls.length ≤ M'.cells.length; rw [hC]; omega) (by decide) rfl (by show SetWf z2.mem; rw [zm2]; exact wm) (by show SetWf z2.unt; rw [zu2]; exact wu) S21 (W20.ext x21) xo xw xf xn (by omega) (fun p hp => ?_) (by show M'.cells[q]? = some 0; rw [hC]; exact hz0) (by show d ≤ M'.t + 1 + 1 + 1; omega) (by show M'.t + 1 + 1 + 1 < 500000; omega) p8 n0' n1').mono ?_
  · show (M'.locks.set q (-1))[p]? = some (if p < d then 5 else -1)
    by_cases e : p = q
    · subst e
      rw [List.getElem?_set_self (List.getElem?_eq_some_iff.1 hl70).1, if_neg (by omega)]
    · rw [List.getElem?_set_ne (Ne.symm e), hlk p hp, if_neg e]
      congr 1
      have hd : x.held = d := by omega
      rw [hd]
  rintro v h22 ⟨rfl, c22, x', M2, es, S22, e0, e1, em, hl2, ht2⟩
  refine (aLog_all S22 em (by omega) e0).mono ?_
  rintro v h23 ⟨A23, k23, rfl, o23, x23⟩
  have S23 := S22.ext x23
  refine xif_true (decide_eq_true (show (es.length : Int) > 0 by omega)) ?_
  refine (aLog_all S23 em (by omega) e0).mono ?_
  rintro v h24 ⟨A24, k24, rfl, o24, x24⟩
  have S24 := S23.ext x24
  obtain ⟨E0, hE0⟩ : ∃ E0, es[0]? = some E0 := ⟨_, List.getElem?_eq_getElem e0⟩
  obtain ⟨a24, ha24, hrd24⟩ := o24.row encHe_len 0 E0 hE0
  have rm24 : cell h24 ((a24.add (0 * 19)).add 2) = some (.int .i64 E0.mark) := hrd24.get 2 rfl
  refine ⟨a24, ha24, by decide, (by show (0 : Int) < (es.length : Int); omega), _, rm24, ?_⟩
  have hpos := em E0 (List.mem_of_getElem? hE0)
  refine xif_true (decide_eq_true (show E0.mark > 0 by omega)) ?_
  refine (cTake_spec S24.fab S24.mem hqP hl2 (by decide) (by omega)).mono ?_
  rintro v h25 ⟨rfl, m25, c25⟩
  refine ⟨rfl, ?_⟩
  have g1 : ChgT h.size TyD h10 h24 := (((f1020.toD.trans (x21.chgT S20.hB)).trans c22).trans (x23.chgT S22.hB)).trans (x24.chgT S23.hB)
  exact (g1.trans (S24.frM c25)).ext x10
end Go.Proofs.YthoikbogkhpciaaGreatE
