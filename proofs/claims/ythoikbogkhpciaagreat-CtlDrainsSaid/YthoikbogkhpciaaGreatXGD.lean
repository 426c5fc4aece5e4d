/- An order waits for a lock; what was noted is told. Conditions: none. -/
import Derived.Test.YthoikbogkhpciaaGreatXGC
set_option linter.unusedVariables false
set_option linter.unusedSimpArgs false
set_option maxRecDepth 100000
namespace Go.Proofs.YthoikbogkhpciaaGreatE
open Go Go.Proofs
def env_aLock2 : Nat → Ann
  | 1 => ⟨.op 0 [] <| .op 1 [] <| .op 2 [] <| .op 3 [] <| .op 4 [] <| .op 5 [] <| .op 6 [] <| .op 7 [] <| .op 8 [] <| .op 9 [] <| .op 10 [] <| .op 11 [] <| .op 12 [] <| .op 13 [] <| .op 14 [] <| .op 15 [] <| .op 16 [] <| .op 17 [] <| .op 18 [] <| .op 19 [] <| .nil, [0, 1, 3, 7, 0, 16, 48, 112, 0, 256, 768, 1792, 4080, 8176, 0, 16384, 49152, 114688, 262143, 524287], false⟩
  | 4 => ⟨.op 0 [] <| .op 1 [] <| .op 2 [] <| .op 3 [] <| .op 4 [] <| .op 5 [] <| .op 6 [] <| .op 7 [] <| .op 8 [] <| .op 9 [] <| .op 10 [] <| .nil, [0, 1, 3, 7, 0, 16, 48, 112, 240, 511, 1023], false⟩
  | _ => ⟨.nil, [], false⟩
section
variable {h h' : Heap} {B : Nat} {F : Fb} {ab : Nat} {x : CaV} {ls : List Nat} {M : MemS} {E : He} {es : List He}
/-- The next lock isn't given. -/
theorem aLock_no (S : CaS h B F ab x ls M E) {p : Nat} {a : Int} (hk : ls[x.held]? = some p) (hp : p < F.P) (hl : M.locks[p]? = some a) (ha : a ≠ -1) (ht : M.t < 900000) :
    HCalls Tryz.prog 69 #[.pointer (some ⟨ab, 0, none⟩)] h (fun v h' => v = .func (.func 69) #[] #[] ∧ CaS h' B F ab x ls { M with t := M.t + 1 } E ∧ ChgT B TyC h h') := by
  obtain ⟨f', who, o, next, gA, gn, gc, kA, kn, kc, held, from_, pop, act⟩ := x
  have raw := S.raw
  have hf := S.xf
  have hkn := S.kn
  have keys := S.keys
  have small := S.small
  simp only at hf hkn hk keys
  subst hf hkn
  have hkl : held < ls.length := (List.getElem?_eq_some_iff.1 hk).1
  obtain ⟨a', ha', hrd⟩ := keys.row encI_len held p (lsI_get hk)
  refine xcalls env_aLock2 Tryz.func69 rfl (by kernel_rfl) rfl (by kernel_rfl) ?_
  repeat (first | refine ⟨_, cell_blk (raw) rfl, ?_⟩)
  refine ⟨a', ha', Int.natCast_nonneg held, Int.ofNat_lt.2 hkl, _, hrd.cons, ?_⟩
  repeat (first | refine ⟨_, cell_blk (raw) rfl, ?_⟩)
  refine (cTake_no S.fab S.mem hp hl ha S.w0 (by omega)).mono ?_
  rintro v h1 ⟨rfl, m1, c1⟩
  exact ⟨rfl, S.memory c1 m1, S.frM c1⟩
theorem aLog_all (S : CaL h B F ab x ls M es) (hm : ∀ e ∈ es, 0 < e.mark) (hlen : es.length ≤ 100000) (h0 : 0 < es.length) : HCalls Tryz.prog 31 #[.pointer (some ⟨ab, 0, none⟩)] h (fun v h' => ∃ A c, v = .slice A es.length c ∧ OwnA encHe 19 75 h.size h' A c es ∧ Ext h h') := by
  have raw := S.raw
  have hgn := S.gn
  have ol := S.log
  obtain ⟨f', who, o, next, gA, gn, gc, kA, kn, kc, held, from_, pop, act⟩ := x
  simp only at hgn ol
  subst hgn
  refine xcalls env0 Tryz.func31 rfl (by kernel_rfl) rfl (by kernel_rfl) ?_
  repeat (first | refine ⟨_, cell_blk (raw) rfl, ?_⟩)
  refine (hClone_spec ol rfl hlen).mono ?_
  rintro v h1 ⟨A', c', rfl, o1, x1⟩
  refine xif_of (fun g => ?_) (fun g => ?_)
  · have g : (es.length : Int) > 1 := of_decide_eq_true g
    obtain ⟨m, hm1⟩ : ∃ m, es.length = m + 1 := ⟨es.length - 1, by omega⟩
    obtain ⟨e, he⟩ : ∃ e, es[m]? = some e := ⟨_, List.getElem?_eq_getElem (by omega)⟩
    obtain ⟨a, ha, hrd⟩ := o1.row encHe_len m e he
    have hw : IntKind.i64.wrap ((es.length : Int) - 1) = (m : Int) := by rw [wrap_i64 (by omega) (by omega)]; omega
    have r3 : cell h1 ((a.add (m * 19)).add 3) = some (.int .i64 e.fin) := hrd.get 3 rfl
    have r2 : cell h1 ((a.add (m * 19)).add 2) = some (.int .i64 e.mark) := hrd.get 2 rfl
    have pos := hm e (List.mem_of_getElem? he)
    refine ⟨a, ha, by rw [hw]; omega, by rw [hw]; omega, .int .i64 e.fin, ?_, ?_⟩
    · show cell h1 ((a.add ((IntKind.i64.wrap ((es.length : Int) - 1)).toNat * 19)).add 3) = _
      rw [hw, Int.toNat_natCast]; exact r3
    refine xif_of (fun g2 => ?_) (fun g2 => ?_)
    · refine ⟨a, ha, by rw [hw]; omega, by rw [hw]; omega, .int .i64 e.mark, ?_, ?_⟩
      · show cell h1 ((a.add ((IntKind.i64.wrap ((es.length : Int) - 1)).toNat * 19)).add 2) = _
        rw [hw, Int.toNat_natCast]; exact r2
      refine xif_false (beq_eq_false_iff_ne.2 (show e.mark ≠ 0 by omega)) ?_
      exact ⟨A', c', rfl, o1, x1⟩
    · exact ⟨A', c', rfl, o1, x1⟩
  · exact ⟨A', c', rfl, o1, x1⟩
theorem aLog_one (S : CaS h B F ab x ls M E) : HCalls Tryz.prog 31 #[.pointer (some ⟨ab, 0, none⟩)] h (fun v h' => ∃ A c, v = .slice A 1 c ∧ OwnA encHe 19 75 h.size h' A c [E] ∧ Ext h h') := by
  have raw := S.raw
  have hgn := S.gn
  have ol := S.log
  obtain ⟨f', who, o, next, gA, gn, gc, kA, kn, kc, held, from_, pop, act⟩ := x
  simp only at hgn ol
  subst hgn
  refine xcalls env0 Tryz.func31 rfl (by kernel_rfl) rfl (by kernel_rfl) ?_
  repeat (first | refine ⟨_, cell_blk (raw) rfl, ?_⟩)
  refine (hClone_spec ol rfl (by show 1 ≤ 100000; decide)).mono ?_
  rintro v h1 ⟨A', c', rfl, o1, x1⟩
  exact ⟨A', c', rfl, o1, x1⟩
end
/-- An order waits: behind i steps. Its lock number d is port q's, which another one has. -/
def WaitS (h0 : Heap) (B : Nat) (F : Fb) (ab q d : Nat) (who : Int) (o : Op17) (ls : List Nat) (M0 : MemS) (E : He) (i : Nat) (h : Heap) : Prop :=
  ChgT B TyC h0 h ∧ ∃ x M, CaS h B F ab x ls M E ∧ x.o = o ∧ x.who = who ∧ (o.kind = 8 → x.from_ = 0 ∧ x.pop = none) ∧ x.next = .func (.func 69) #[] #[] ∧ x.held = min i d ∧ M.t = M0.t + i ∧ M.cells = M0.cells ∧ M.locks.length = M0.locks.length ∧ ∀ p, p < F.P → M.locks[p]? = some (if p = q then 70 else if p < x.held then who else -1)
theorem wait_step {h0 h : Heap} {B : Nat} {F : Fb} {ab q d i : Nat} {who : Int} {o : Op17} {ls : List Nat} {M0 : MemS} {E : He} (hq : q < F.P) (hd : d ≤ q) (hls : ∀ i, i < d → ls[i]? = some i) (hlq : ls[d]? = some q) (ht : M0.t + i < 800000) (H : WaitS h0 B F ab q d who o ls M0 E i h) :
    HCalls Tryz.prog 29 #[.pointer (some ⟨ab, 0, none⟩)] h (fun v h' => v = .bool false ∧ WaitS h0 B F ab q d who o ls M0 E (i + 1) h') := by
  obtain ⟨c0, x, M, S, xo, xw, xf, hn, hh, hT, hC, hL, hlk⟩ := H
  have hdl : d < ls.length := (List.getElem?_eq_some_iff.1 hlq).1
  rcases Nat.lt_or_ge i d with h1 | h1
  · have hh1 : x.held = i := by omega
    have hl : M.locks[i]? = some (-1) := by rw [hlk i (by omega), if_neg (by omega), if_neg (by omega)]
    refine (aStep_of (cap := []) (K := fun _ => True) (x' := { x with held := x.held + 1 }) (M' := { M with locks := M.locks.set i x.who, t := M.t + 1 }) (E' := E) (.func (.func 69) #[] #[]) false S hn (.inr ⟨_, _, rfl, rfl⟩) ((aLock_spec S (p := i) (by rw [hh1]; exact hls i h1) (by omega) hl (by omega)).mono ?_) (fun _ _ _ _ => trivial)).mono ?_
    · rintro v h2 ⟨rfl, S1, c1⟩
      refine ⟨?_, S1, c1, trivial⟩
      rw [if_pos (by omega)]
    · rintro v h2 ⟨rfl, S1, c1, _⟩
      refine ⟨rfl, c0.trans c1, _, _, S1, xo, xw, xf, rfl, by show x.held + 1 = _; omega, by show M.t + 1 = _; omega, hC, by show (M.locks.set i x.who).length = _; rw [List.length_set]; exact hL, fun p hp => ?_⟩
      show (M.locks.set i x.who)[p]? = some (if p = q then 70 else if p < x.held + 1 then who else -1)
      by_cases e : p = i
      · subst e
        rw [List.getElem?_set_self (List.getElem?_eq_some_iff.1 hl).1, if_neg (by omega), if_pos (by omega), xw]
      · rw [List.getElem?_set_ne (Ne.symm e), hlk p hp]
        congr 1
        by_cases g : p = q
        · rw [if_pos g, if_pos g]
        · rw [if_neg g, if_neg g]
          by_cases g2 : p < x.held
          · rw [if_pos g2, if_pos (by omega)]
          · rw [if_neg g2, if_neg (by omega)]
  · have hh1 : x.held = d := by omega
    have hl : M.locks[q]? = some 70 := by rw [hlk q hq, if_pos rfl]
    refine (aStep_of (cap := []) (K := fun _ => True) (x' := x) (M' := { M with t := M.t + 1 }) (E' := E) (.func (.func 69) #[] #[]) false S hn (.inr ⟨_, _, rfl, rfl⟩) ((aLock_no S (p := q) (by rw [hh1]; exact hlq) hq hl (by decide) (by omega)).mono ?_) (fun _ _ _ _ => trivial)).mono ?_
    · rintro v h2 ⟨rfl, S1, c1⟩
      exact ⟨rfl, S1, c1, trivial⟩
    · rintro v h2 ⟨rfl, S1, c1, _⟩
      exact ⟨rfl, c0.trans c1, _, _, S1, xo, xw, xf, rfl, by show x.held = _; omega, by show M.t + 1 = _; omega, hC, hL, hlk⟩
end Go.Proofs.YthoikbogkhpciaaGreatE
