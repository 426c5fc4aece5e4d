/- What the law's own look of layer 19 answers. Conditions: none. -/
import Derived.Test.YthoikbogkhpciaaGreatXG5
import Derived.Test.YthoikbogkhpciaaGreatXQ1
set_option linter.unusedVariables false
set_option linter.unusedSimpArgs false
set_option maxRecDepth 100000
namespace Go.Proofs.YthoikbogkhpciaaGreatE
open Go Go.Proofs
def env_rBound19 : Nat → Ann
  | 3 => ⟨.op 0 [] <| .op 1 [] <| .op 2 [] <| .op 3 [] <| .op 6 [] <| .op 7 [] <| .op 8 [] <| .op 9 [] <| .op 10 [] <| .op 11 [] <| .op 12 [] <| .op 4 [7, 9] <| .op 5 [] <| .op 13 [] <| .op 14 [] <| .nil, [0, 1, 0, 4, 15, 31, 0, 64, 0, 256, 768, 1792, 4032, 8191, 16383], false⟩
  | _ => ⟨.nil, [], false⟩
section
variable {h h' : Heap} {B : Nat} {F : Fb} {ab : Nat} {x : CaV} {ls : List Nat} {M : MemS} {E : He}
theorem r12Bound_spec {s : Sz} (o : s.Ok) {tries : Int} (t1 : 1 ≤ tries) (t2 : tries ≤ 8) : HCalls Tryz.prog 74 #[.agg #[.int .i64 s.sh, .int .i64 s.bk, .int .i64 s.sl], .int .i64 tries] h (fun v h' => ∃ n : Int, 1 ≤ n ∧ n ≤ 20000 ∧ v = .int .i64 n ∧ Ext h h') := by
  refine xcalls env0 Tryz.func74 rfl (by kernel_rfl) rfl (by kernel_rfl) ?_
  intro zb h1 n1
  refine ⟨_, rfl, reads_all n1.this, ?_⟩
  refine (rbRight_spec s).mono ?_
  rintro v h2 ⟨rfl, x2⟩
  refine xif_false (by rw [o.right]; rfl) ?_
  refine xif_false (decide_eq_false ?_) ?_
  · show ¬ tries < 1
    omega
  refine xif_false (decide_eq_false ?_) ?_
  · show ¬ tries > 8
    omega
  have hz := x2.blk n1.this
  repeat (first | refine ⟨_, cell_blk (hz) rfl, ?_⟩)
  obtain ⟨a, b, c, d, e, f⟩ := o
  obtain ⟨p1, p2⟩ := mul_bd (a := tries) (b := 4 + 4 * s.sl) (m := 8) (n := 36) (by omega) t2 (by omega) (by omega)
  obtain ⟨q1, q2⟩ := mul_bd (a := s.bk) (b := 8 + 8 * s.sl) (m := 16) (n := 72) (by omega) (by omega) (by omega) (by omega)
  obtain ⟨r1, r2⟩ := mul_bd (a := s.sh) (b := 4 + s.bk * (8 + 8 * s.sl)) (m := 8) (n := 4 + 16 * 72) (by omega) (by omega) (by omega) (by omega)
  refine ⟨16 + tries * (4 + 4 * s.sl) + s.sh * (4 + s.bk * (8 + 8 * s.sl)), by omega, by omega, congrArg (Value.int .i64) ?_, n1.ext.trans x2⟩
  rw [wrap_i64 (x := 4 * s.sl) (by omega) (by omega), wrap_i64 (x := 4 + 4 * s.sl) (by omega) (by omega), wrap_i64 (x := tries * (4 + 4 * s.sl)) (by omega) (by omega), wrap_i64 (x := 16 + tries * (4 + 4 * s.sl)) (by omega) (by omega), wrap_i64 (x := 8 * s.sl) (by omega) (by omega), wrap_i64 (x := 8 + 8 * s.sl) (by omega) (by omega), wrap_i64 (x := s.bk * (8 + 8 * s.sl)) (by omega) (by omega), wrap_i64 (x := 4 + s.bk * (8 + 8 * s.sl)) (by omega) (by omega), wrap_i64 (x := s.sh * (4 + s.bk * (8 + 8 * s.sl))) (by omega) (by omega), wrap_i64 (by omega) (by omega)]
/-- Enough steps for a plan that was made to be one. -/
theorem rBound19_spec {A B : Option Addr} {ca cb : Nat} {rules : List Ru} {vls : List Vl} {s : Sz} {P tries ring normal short : Int} (hra : Row encRu 2 h A (fixRules P rules)) (hrb : Row encVl 3 h B (fixVlans P vls)) (wf : ∀ v ∈ vls, SetWf v.mem ∧ SetWf v.unt) :
    HCalls Tryz.prog 28 #[.agg (planV (fixPorts P) (.slice A (fixPorts P).toNat ca) (.slice B (fixVlans P vls).length cb) (fixSz s) (fixTries tries) (fixRing ring) normal short).toArray] h (fun v h' => ∃ n : Nat, 64 ≤ n ∧ n < 100000 ∧ v = .int .i64 (n : Int) ∧ Ext h h') := by
  have pr := fixPorts_range P
  have tr := fixTries_range tries
  have rr := fixRing_range ring
  have hrl : (fixRules P rules).length = (fixPorts P).toNat := by unfold fixRules; simp
  have vl8 := fixVlans_len P vls
  have wfv : ∀ v ∈ fixVlans P vls, SetWf v.mem ∧ SetWf v.unt := fun v hv => fixVl_wf _ _ (fun v hv => wf v (List.mem_of_mem_take hv)) v hv
  refine xcalls env_rBound19 Tryz.func28 rfl (by kernel_rfl) rfl (by kernel_rfl) ?_
  intro zb h1 n1
  refine ⟨_, rfl, reads_all n1.this, ?_⟩
  refine (r17Check_spec (n1.ext.row hra) hrl (n1.ext.row hrb) rfl (by omega) (by omega) wfv).mono ?_
  rintro v h2 ⟨rfl, x2⟩
  rw [fix_check]
  have hz := x2.blk n1.this
  refine ⟨[.int .i64 (fixSz s).sh, .int .i64 (fixSz s).bk, .int .i64 (fixSz s).sl], rfl, reads_at hz rfl, ?_⟩
  repeat (first | refine ⟨_, cell_blk (hz) rfl, ?_⟩)
  refine (r12Bound_spec (fixSz_ok s) tr.1 tr.2).mono ?_
  rintro v h3 ⟨n, n1', n2', rfl, x3⟩
  have hz3 := x3.blk hz
  try (refine ⟨by ((repeat (first | refine ⟨cell_blk (hz3) rfl, ?_⟩)); exact trivial), ?_⟩)
  obtain ⟨q1, q2⟩ := mul_bd (a := fixPorts P) (b := 16 + 8 * fixRing ring) (m := 8) (n := 528) (by omega) (by omega) (by omega) (by omega)
  obtain ⟨m, hm⟩ : ∃ m : Nat, n + 64 + fixPorts P * (16 + 8 * fixRing ring) = m := ⟨_, (Int.toNat_of_nonneg (by omega)).symm⟩
  refine ⟨m, by omega, by omega, ?_, (n1.ext.trans x2).trans x3⟩
  show Value.int .i64 _ = _
  rw [wrap_i64 (x := n + 64) (by omega) (by omega), wrap_i64 (x := 8 * fixRing ring) (by omega) (by omega), wrap_i64 (x := 16 + 8 * fixRing ring) (by omega) (by omega), wrap_i64 (x := fixPorts P * (16 + 8 * fixRing ring)) (by omega) (by omega), wrap_i64 (by omega) (by omega), hm]
end
theorem told19_spec {h : Heap} : HCalls Tryz.prog 23 #[] h (fun v h' => v = .bool true ∧ Ext h h') := by
  refine xcalls env0 Tryz.func23 rfl (by kernel_rfl) rfl (by kernel_rfl) ?_
  refine (rPFix_spec (A := none) (B := none) (ca := 0) (cb := 0) (P := 0) (tries := 0) (ring := 0) (normal := 0) (short := 0) (s := ⟨0, 0, 0⟩) (rules := []) (vls := []) Row.nil rfl Row.nil rfl (by simp)).mono ?_
  rintro v h1 ⟨A1, c1, B1, d1, rfl, oR, oV, x1⟩
  have oR : OwnA encRu 2 _ h.size h1 A1 c1 (fixRules 0 []) := oR
  have oV : OwnA encVl 3 _ h.size h1 B1 d1 (fixVlans 0 []) := oV
  intro ib h2 n2
  refine ⟨rfl, rfl, canset_blk n2.this rfl, fun h3 s3 => ?_⟩
  have hib : h3[ib]? = some (.cells (planV (fixPorts 0) (.slice A1 (fixPorts 0).toNat c1) (.slice B1 (fixVlans 0 []).length d1) (fixSz ⟨0, 0, 0⟩) (fixTries 0) (fixRing 0) 0 0).toArray 28 (0, 0)) := n2.fill rfl s3
  have x13 : Ext h1 h3 := n2.ext.stored s3 (n2.ge (Ext.refl _))
  refine ⟨_, rfl, reads_all hib, ?_⟩
  refine (lMake_fix ((oR.ext x13).row encRu_len) ((oV.ext x13).row encVl_len) (by simp)).mono ?_
  rintro v h4 ⟨F, M, rfl, eP, eS, p8, Fr0⟩
  have Fr := Fr0.mono (x1.trans x13)
  have x34 := Fr0.ext
  have p1 := Fr.fab.p1
  have Mt := Fr.t
  refine (cCommand_set (B := h.size) (who := 9) (port := 1) (state := 4) Fr.fab Fr.mem Fr.g1 Fr.g2 Fr.g3 Fr.ext.size (by decide) (by omega) rfl (by omega)).mono ?_
  rintro v h5 ⟨ab, x, rfl, S, xo, xw, xh, xn, x5⟩
  have x35 := x34.trans x5
  have hib5 := x35.blk hib
  refine ⟨_, rfl, reads_all hib5, ?_⟩
  refine (rBound19_spec (((oR.ext x13).ext x35).row encRu_len) (((oV.ext x13).ext x35).row encVl_len) (by simp)).mono ?_
  rintro v h6 ⟨most, m1, m2, rfl, x6⟩
  have Q0 : Set1 h6 h.size F ab M _ 0 h6 := ⟨ChgT.refl _, x, by rw [xo], by rw [xo], by rw [xo], xw, S.ext x6, xn, xh⟩
  refine (lFinish_spec (n := 4) (by decide) (by omega) m2 Q0 (fun k hk g Q => set1_step (by omega) (Fr.locks 1 (by omega)) (Fr.low 1 (by omega)) (by omega) hk Q) ?_).mono ?_
  · rintro g ⟨_, y, _, _, _, _, E', _, Sg, hn⟩
    exact aOver_nil Sg.raw hn
  rintro v h7 ⟨rfl, c7, y, _, _, _, _, E', hE, S7, hn7⟩
  have x06 : Ext h h6 := (Fr.ext.trans x5).trans x6
  have x07 : Ext h h7 := c7.ext x06
  refine (aAnswer_spec S7 hn7).mono ?_
  rintro v h8 ⟨rfl, rfl⟩
  rw [hE]
  refine (aLog_spec S7).mono ?_
  rintro v h9 ⟨A9, c9, rfl, x9⟩
  have S9 := S7.ext x9
  have hlc : 1 < M.cells.length := (List.getElem?_eq_some_iff.1 (Fr.low 1 (by omega))).1
  have hll : 0 < M.locks.length := (List.getElem?_eq_some_iff.1 (Fr.locks 0 (by omega))).1
  refine (cStand_260 S9.fab S9.mem (p := 1) (by omega) (by show (M.cells.set 1 260)[1]? = some 260; exact List.getElem?_set_self hlc) (by show M.t + 1 + 1 + 1 + 1 < 1000000; omega)).mono ?_
  rintro v h10 ⟨rfl, m10, c10⟩
  have S10 := S9.memory (c10.mono (by first | (simp; done) | (intro p hp; simp [hp]; done) | (simp [ML]; done) | (intro p hp; simp [ML] at hp ⊢; rcases hp with h | h | h <;> simp [h]; done))) m10
  refine (cStand_spec S10.fab S10.mem (p := 0) (by omega) (by show (M.cells.set 1 260)[0]? = some 0; rw [List.getElem?_set_ne (by decide)]; exact Fr.low 0 (by omega)) (by show M.t + 1 + 1 + 1 + 1 + 1 < 1000000; omega)).mono ?_
  rintro v h11 ⟨rfl, m11, c11⟩
  have S11 := S10.memory (c11.mono (by first | (simp; done) | (intro p hp; simp [hp]; done) | (simp [ML]; done) | (intro p hp; simp [ML] at hp ⊢; rcases hp with h | h | h <;> simp [h]; done))) m11
  refine (cTake_spec S11.fab S11.mem (p := 0) (who := 1) (by omega) (by show ((M.locks.set 1 9).set 1 (-1))[0]? = some (-1); rw [List.getElem?_set_ne (by decide), List.getElem?_set_ne (by decide)]; exact Fr.locks 0 (by omega)) (by decide) (by show M.t + 1 + 1 + 1 + 1 + 1 + 1 < 1000000; omega)).mono ?_
  rintro v h12 ⟨rfl, m12, c12⟩
  have S12 := S11.memory c12 m12
  have l12 : (((M.locks.set 1 9).set 1 (-1)).set 0 1)[0]? = some 1 := List.getElem?_set_self (by rw [List.length_set, List.length_set]; exact hll)
  refine (cTake_no S12.fab S12.mem (p := 0) (who := 2) (a := 1) (by omega) l12 (by decide) (by decide) (by show M.t + 1 + 1 + 1 + 1 + 1 + 1 + 1 < 1000000; omega)).mono ?_
  rintro v h13 ⟨rfl, m13, c13⟩
  have S13 := S12.memory c13 m13
  refine (cFree_spec S13.fab S13.mem (p := 0) (who := 1) (by omega) l12 (by decide) (by show M.t + 1 + 1 + 1 + 1 + 1 + 1 + 1 + 1 < 1000000; omega)).mono ?_
  rintro v h14 ⟨rfl, m14, c14⟩
  exact ⟨rfl, (S13.frM c14).ext ((S12.frM c13).ext ((S11.frM c12).ext ((S10.frM (c11.mono (by first | (simp; done) | (intro p hp; simp [hp]; done) | (simp [ML]; done) | (intro p hp; simp [ML] at hp ⊢; rcases hp with h | h | h <;> simp [h]; done)))).ext ((S9.frM (c10.mono (by first | (simp; done) | (intro p hp; simp [hp]; done) | (simp [ML]; done) | (intro p hp; simp [ML] at hp ⊢; rcases hp with h | h | h <;> simp [h]; done)))).ext (x07.trans x9)))))⟩
end Go.Proofs.YthoikbogkhpciaaGreatE
