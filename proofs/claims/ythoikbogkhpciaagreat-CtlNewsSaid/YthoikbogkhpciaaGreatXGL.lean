/- There is no fabric of a plan that may not be; how many steps are enough. Conditions: none. -/
import Derived.Test.YthoikbogkhpciaaGreatXGJ
set_option linter.unusedVariables false
set_option linter.unusedSimpArgs false
set_option maxRecDepth 100000
namespace Go.Proofs.YthoikbogkhpciaaGreatE
open Go Go.Proofs
def env_cMake0 : Nat → Ann
  | 7 => ⟨.op 0 [] <| .op 1 [] <| .op 2 [] <| .op 3 [] <| .op 4 [] <| .op 5 [] <| .op 6 [] <| .op 7 [] <| .op 8 [2, 4] <| .op 9 [] <| .op 10 [] <| .op 11 [] <| .nil, [0, 0, 2, 0, 8, 30, 0, 64, 192, 510, 1023, 2047], false⟩
  | 8 => ⟨.op 0 [] <| .op 1 [] <| .op 2 [] <| .op 3 [] <| .op 4 [] <| .op 5 [2] <| .op 6 [] <| .op 7 [] <| .op 8 [] <| .op 9 [] <| .op 10 [] <| .op 11 [] <| .op 12 [] <| .nil, [0, 0, 2, 0, 8, 24, 62, 127, 255, 511, 511, 1023, 4095], false⟩
  | 18 => ⟨.op 0 [] <| .op 1 [] <| .op 2 [] <| .op 4 [] <| .op 5 [] <| .op 3 [5] <| .op 6 [] <| .nil, [0, 0, 0, 6, 0, 16, 63], false⟩
  | 19 => ⟨.op 0 [] <| .op 1 [] <| .op 2 [] <| .op 5 [] <| .op 6 [] <| .op 3 [6] <| .op 4 [] <| .op 7 [] <| .nil, [0, 0, 0, 6, 14, 0, 32, 127], false⟩
  | _ => ⟨.nil, [], false⟩
def env_cBound : Nat → Ann
  | 3 => ⟨.op 0 [] <| .op 1 [] <| .op 2 [] <| .op 3 [] <| .op 6 [] <| .op 7 [] <| .op 8 [] <| .op 9 [] <| .op 10 [] <| .op 11 [] <| .op 12 [] <| .op 4 [7, 9] <| .op 5 [] <| .op 13 [] <| .op 14 [] <| .nil, [0, 1, 0, 4, 15, 31, 0, 64, 0, 256, 768, 1792, 4032, 8191, 16383], false⟩
  | _ => ⟨.nil, [], false⟩
def env_rBound19b : Nat → Ann
  | 3 => ⟨.op 0 [] <| .op 1 [] <| .op 2 [] <| .op 3 [] <| .op 6 [] <| .op 7 [] <| .op 8 [] <| .op 9 [] <| .op 10 [] <| .op 11 [] <| .op 12 [] <| .op 4 [7, 9] <| .op 5 [] <| .op 13 [] <| .op 14 [] <| .nil, [0, 1, 0, 4, 15, 31, 0, 64, 0, 256, 768, 1792, 4032, 8191, 16383], false⟩
  | _ => ⟨.nil, [], false⟩
/-- Of a plan that may be. -/
theorem mCheckM_zero {P tries ring : Int} {rules : List Ru} {vls : List Vl} {s : Sz} (h : mCheckM P rules vls s tries ring = 0) : (2 ≤ P ∧ P ≤ 64) ∧ (rules.length : Int) = P ∧ vls.length ≤ 16 ∧ s.Ok ∧ (1 ≤ tries ∧ tries ≤ 8) ∧ (1 ≤ ring ∧ ring ≤ 64) := by
  unfold mCheckM at h
  by_cases a : vCheckM vls P ≠ 0
  · rw [if_pos a] at h; exact absurd h a
  · rw [if_neg a] at h
    have a' : vCheckM vls P = 0 := Decidable.not_not.1 a
    unfold vCheckM at a'
    by_cases b : P < 2 ∨ 64 < P
    · rw [if_pos b] at a'; cases a'
    · rw [if_neg b] at a'
      by_cases c : 16 < vls.length
      · rw [if_pos c] at a'; cases a'
      · by_cases d : (rules.length : Int) ≠ P ∨ (rules.any fun r => !rightR r) = true ∨ rightM s = false
        · rw [if_pos d] at h; cases h
        · rw [if_neg d] at h
          by_cases e : tries < 1 ∨ 8 < tries ∨ ring < 1 ∨ 64 < ring
          · rw [if_pos e] at h; cases h
          · refine ⟨by omega, ?_, by omega, ?_, by omega, by omega⟩
            · exact Decidable.not_not.1 fun k => d (.inl k)
            · refine rightM_ok.1 ?_
              cases f : rightM s
              · exact absurd (.inr (.inr f)) d
              · rfl
def bndM (s : Sz) (tries : Int) : Int := 16 + tries * (4 + 4 * s.sl) + s.sh * (4 + s.bk * (8 + 8 * s.sl))
theorem bndM_range {s : Sz} (o : s.Ok) {tries : Int} (t1 : 1 ≤ tries) (t2 : tries ≤ 8) : 1 ≤ bndM s tries ∧ bndM s tries ≤ 20000 := by
  obtain ⟨a, b, c, d, e, f⟩ := o
  obtain ⟨p1, p2⟩ := mul_bd (a := tries) (b := 4 + 4 * s.sl) (m := 8) (n := 36) (by omega) t2 (by omega) (by omega)
  obtain ⟨q1, q2⟩ := mul_bd (a := s.bk) (b := 8 + 8 * s.sl) (m := 16) (n := 72) (by omega) (by omega) (by omega) (by omega)
  obtain ⟨r1, r2⟩ := mul_bd (a := s.sh) (b := 4 + s.bk * (8 + 8 * s.sl)) (m := 8) (n := 4 + 16 * 72) (by omega) (by omega) (by omega) (by omega)
  unfold bndM
  omega
theorem bndM_wrap {s : Sz} (o : s.Ok) {tries : Int} (t1 : 1 ≤ tries) (t2 : tries ≤ 8) : IntKind.i64.wrap (IntKind.i64.wrap (16 + IntKind.i64.wrap (tries * IntKind.i64.wrap (4 + IntKind.i64.wrap (4 * s.sl)))) + IntKind.i64.wrap (s.sh * IntKind.i64.wrap (4 + IntKind.i64.wrap (s.bk * IntKind.i64.wrap (8 + IntKind.i64.wrap (8 * s.sl)))))) = bndM s tries := by
  obtain ⟨a, b, c, d, e, f⟩ := o
  obtain ⟨p1, p2⟩ := mul_bd (a := tries) (b := 4 + 4 * s.sl) (m := 8) (n := 36) (by omega) t2 (by omega) (by omega)
  obtain ⟨q1, q2⟩ := mul_bd (a := s.bk) (b := 8 + 8 * s.sl) (m := 16) (n := 72) (by omega) (by omega) (by omega) (by omega)
  obtain ⟨r1, r2⟩ := mul_bd (a := s.sh) (b := 4 + s.bk * (8 + 8 * s.sl)) (m := 8) (n := 4 + 16 * 72) (by omega) (by omega) (by omega) (by omega)
  rw [wrap_i64 (x := 4 * s.sl) (by omega) (by omega), wrap_i64 (x := 4 + 4 * s.sl) (by omega) (by omega), wrap_i64 (x := tries * (4 + 4 * s.sl)) (by omega) (by omega), wrap_i64 (x := 16 + tries * (4 + 4 * s.sl)) (by omega) (by omega), wrap_i64 (x := 8 * s.sl) (by omega) (by omega), wrap_i64 (x := 8 + 8 * s.sl) (by omega) (by omega), wrap_i64 (x := s.bk * (8 + 8 * s.sl)) (by omega) (by omega), wrap_i64 (x := 4 + s.bk * (8 + 8 * s.sl)) (by omega) (by omega), wrap_i64 (x := s.sh * (4 + s.bk * (8 + 8 * s.sl))) (by omega) (by omega), wrap_i64 (by omega) (by omega)]
  rfl
section
variable {h h' : Heap}
theorem r12Bound_exact {s : Sz} (o : s.Ok) {tries : Int} (t1 : 1 ≤ tries) (t2 : tries ≤ 8) : HCalls Tryz.prog 74 #[.agg #[.int .i64 s.sh, .int .i64 s.bk, .int .i64 s.sl], .int .i64 tries] h (fun v h' => v = .int .i64 (bndM s tries) ∧ Ext h h') := by
  refine xcalls env0 Tryz.func74 rfl (by kernel_rfl) rfl (by kernel_rfl) ?_
  intro zb h1 n1
  refine ⟨_, rfl, reads_all n1.this, ?_⟩
  refine (rbRight_spec s).mono ?_
  rintro v h2 ⟨rfl, x2⟩
  refine xif_false (by rw [o.right]; rfl) ?_
  refine xif_false (decide_eq_false ?_) ?_
  · show ¬ tries < 1
    omega
  refine xif_false (decide_eq_false ?_) ?_
  · show ¬ tries > 8
    omega
  have hz := x2.blk n1.this
  repeat (first | refine ⟨_, cell_blk (hz) rfl, ?_⟩)
  exact ⟨congrArg (Value.int .i64) (bndM_wrap o t1 t2), n1.ext.trans x2⟩
theorem dBound_exact {s : Sz} (o : s.Ok) {tries : Int} (t1 : 1 ≤ tries) (t2 : tries ≤ 8) : HCalls Tryz.prog 95 #[.agg #[.int .i64 s.sh, .int .i64 s.bk, .int .i64 s.sl], .int .i64 tries] h (fun v h' => v = .int .i64 (bndM s tries) ∧ Ext h h') := by
  refine xcalls env0 Tryz.func95 rfl (by kernel_rfl) rfl (by kernel_rfl) ?_
  intro zb h1 n1
  refine ⟨_, rfl, reads_all n1.this, ?_⟩
  refine (kRight_spec s _).mono ?_
  rintro v h2 ⟨rfl, x2⟩
  refine xif_false (by rw [o.right]; rfl) ?_
  refine xif_false (decide_eq_false ?_) ?_
  · show ¬ tries < 1
    omega
  refine xif_false (decide_eq_false ?_) ?_
  · show ¬ tries > 8
    omega
  have hz := x2.blk n1.this
  repeat (first | refine ⟨_, cell_blk (hz) rfl, ?_⟩)
  exact ⟨congrArg (Value.int .i64) (bndM_wrap o t1 t2), n1.ext.trans x2⟩
def bnd19 (P : Int) (rules : List Ru) (vls : List Vl) (s : Sz) (tries ring : Int) : Int := if mCheckM P rules vls s tries ring = 0 then IntKind.i64.wrap (IntKind.i64.wrap (bndM s tries + 64) + IntKind.i64.wrap (P * IntKind.i64.wrap (16 + IntKind.i64.wrap (8 * ring)))) else 0
theorem rBound19_exact {A B : Option Addr} {na ca nb cb : Nat} {rules : List Ru} {vls : List Vl} {s : Sz} {P tries ring normal short : Int} (hra : Row encRu 2 h A rules) (hla : rules.length = na) (hrb : Row encVl 3 h B vls) (hlb : vls.length = nb) (hn : na ≤ 9223372036854775807) (hn2 : nb ≤ 9223372036854775807) (wf : ∀ v ∈ vls, SetWf v.mem ∧ SetWf v.unt) :
    HCalls Tryz.prog 28 #[.agg (planV P (.slice A na ca) (.slice B nb cb) s tries ring normal short).toArray] h (fun v h' => v = .int .i64 (bnd19 P rules vls s tries ring) ∧ Ext h h') := by
  refine xcalls env_rBound19b Tryz.func28 rfl (by kernel_rfl) rfl (by kernel_rfl) ?_
  intro zb h1 n1
  refine ⟨_, rfl, reads_all n1.this, ?_⟩
  refine (r17Check_spec (n1.ext.row hra) hla (n1.ext.row hrb) hlb hn hn2 wf).mono ?_
  rintro v h2 ⟨rfl, x2⟩
  have hz := x2.blk n1.this
  refine xif_of (fun g => ?_) (fun g => ?_)
  · have g : mCheckM P rules vls s tries ring ≠ 0 := by simpa using g
    exact ⟨by unfold bnd19; rw [if_neg g]; rfl, n1.ext.trans x2⟩
  · have g : mCheckM P rules vls s tries ring = 0 := by simpa using g
    obtain ⟨_, _, _, o, t, _⟩ := mCheckM_zero g
    refine ⟨[.int .i64 s.sh, .int .i64 s.bk, .int .i64 s.sl], rfl, reads_at hz rfl, ?_⟩
    repeat (first | refine ⟨_, cell_blk (hz) rfl, ?_⟩)
    refine (r12Bound_exact o t.1 t.2).mono ?_
    rintro v h3 ⟨rfl, x3⟩
    have hz3 := x3.blk hz
    try (refine ⟨by ((repeat (first | refine ⟨cell_blk (hz3) rfl, ?_⟩)); exact trivial), ?_⟩)
    repeat (first | refine ⟨_, cell_blk (hz3) rfl, ?_⟩)
    exact ⟨by unfold bnd19; rw [if_pos g]; rfl, (n1.ext.trans x2).trans x3⟩
theorem cBound_exact {A B : Option Addr} {na ca nb cb : Nat} {rules : List Ru} {vls : List Vl} {s : Sz} {P tries ring normal short : Int} (hra : Row encRu 2 h A rules) (hla : rules.length = na) (hrb : Row encVl 3 h B vls) (hlb : vls.length = nb) (hn : na ≤ 1000000) (hn2 : nb ≤ 1000000) (wf : ∀ v ∈ vls, SetWf v.mem ∧ SetWf v.unt) :
    HCalls Tryz.prog 44 #[.agg (planV P (.slice A na ca) (.slice B nb cb) s tries ring normal short).toArray] h (fun v h' => v = .int .i64 (bnd19 P rules vls s tries ring) ∧ Ext h h') := by
  refine xcalls env_cBound Tryz.func44 rfl (by kernel_rfl) rfl (by kernel_rfl) ?_
  intro zb h1 n1
  refine ⟨_, rfl, reads_all n1.this, ?_⟩
  refine (mCheck_spec (n1.ext.row hra) hla (n1.ext.row hrb) hlb hn hn2 wf).mono ?_
  rintro v h2 ⟨rfl, x2⟩
  have hz := x2.blk n1.this
  refine xif_of (fun g => ?_) (fun g => ?_)
  · have g : mCheckM P rules vls s tries ring ≠ 0 := by simpa using g
    exact ⟨by unfold bnd19; rw [if_neg g]; rfl, n1.ext.trans x2⟩
  · have g : mCheckM P rules vls s tries ring = 0 := by simpa using g
    obtain ⟨_, _, _, o, t, _⟩ := mCheckM_zero g
    refine ⟨[.int .i64 s.sh, .int .i64 s.bk, .int .i64 s.sl], rfl, reads_at hz rfl, ?_⟩
    repeat (first | refine ⟨_, cell_blk (hz) rfl, ?_⟩)
    refine (dBound_exact o t.1 t.2).mono ?_
    rintro v h3 ⟨rfl, x3⟩
    have hz3 := x3.blk hz
    try (refine ⟨by ((repeat (first | refine ⟨cell_blk (hz3) rfl, ?_⟩)); exact trivial), ?_⟩)
    repeat (first | refine ⟨_, cell_blk (hz3) rfl, ?_⟩)
    exact ⟨by unfold bnd19; rw [if_pos g]; rfl, (n1.ext.trans x2).trans x3⟩
theorem cMake_bad {A B : Option Addr} {na ca nb cb : Nat} {rules : List Ru} {vls : List Vl} {s : Sz} {P tries ring normal short : Int} (hra : Row encRu 2 h A rules) (hla : rules.length = na) (hrb : Row encVl 3 h B vls) (hlb : vls.length = nb) (hn : na ≤ 1000000) (hn2 : nb ≤ 1000000) (wf : ∀ v ∈ vls, SetWf v.mem ∧ SetWf v.unt) (hck : mCheckM P rules vls s tries ring ≠ 0) :
    HCalls Tryz.prog 42 #[.agg (planV P (.slice A na ca) (.slice B nb cb) s tries ring normal short).toArray] h (fun v h' => v = .tuple #[.pointer none, .int .i64 (mCheckM P rules vls s tries ring)] ∧ Ext h h') := by
  refine xcalls env_cMake0 Tryz.func42 rfl (by kernel_rfl) rfl (by kernel_rfl) ?_
  intro zb h1 n1
  refine ⟨_, rfl, reads_all n1.this, ?_⟩
  refine (mCheck_spec (n1.ext.row hra) hla (n1.ext.row hrb) hlb hn hn2 wf).mono ?_
  rintro v h2 ⟨rfl, x2⟩
  refine xif_true (by simpa using hck) ?_
  exact ⟨rfl, n1.ext.trans x2⟩
end
end Go.Proofs.YthoikbogkhpciaaGreatE
