/- What the law ModelChecks answers: yes; of a model that isn't there nothing is told. Conditions: the arguments are of their types. -/
import Derived.Test.YtgiofdiifkahoaaGreatXQ1
import Derived.Test.YtgiofdiifkahoaaGreatXP2
set_option linter.unusedVariables false
set_option linter.unusedSimpArgs false
set_option maxRecDepth 100000
namespace Go.Proofs.YtgiofdiifkahoaaGreatE
open Go Go.Proofs
def env_mNewn : Nat → Ann
  | 7 => ⟨.op 0 [] <| .op 1 [] <| .op 3 [] <| .op 4 [] <| .op 2 [4] <| .op 6 [] <| .op 5 [] <| .op 7 [] <| .op 8 [] <| .op 9 [] <| .nil, [0, 1, 3, 0, 8, 31, 31, 127, 255, 511], false⟩
  | 8 => ⟨.op 0 [] <| .op 1 [] <| .op 2 [] <| .op 4 [] <| .op 5 [] <| .op 7 [] <| .alt (.op 3 [0, 5] <| .alt (.op 6 [0, 2] <| .op 8 [0, 2, 5] <| .op 9 [] <| .op 10 [] <| .op 11 [] <| .op 12 [] <| .nil) (.op 8 [0, 2, 5] <| .op 6 [0, 2] <| .op 9 [] <| .op 10 [] <| .op 11 [] <| .op 12 [] <| .nil)) (.alt (.op 6 [0, 2] <| .alt (.op 3 [0, 5] <| .op 8 [0, 2, 5] <| .op 9 [] <| .op 10 [] <| .op 11 [] <| .op 12 [] <| .nil) (.op 8 [0, 2, 5] <| .op 3 [0, 5] <| .op 9 [] <| .op 10 [] <| .op 11 [] <| .op 12 [] <| .nil)) (.op 8 [0, 2, 5] <| .alt (.op 3 [0, 5] <| .op 6 [0, 2] <| .op 9 [] <| .op 10 [] <| .op 11 [] <| .op 12 [] <| .nil) (.op 6 [0, 2] <| .op 3 [0, 5] <| .op 9 [] <| .op 10 [] <| .op 11 [] <| .op 12 [] <| .nil))), [0, 0, 2, 6, 0, 16, 48, 0, 0, 511, 1023, 2047, 4095], false⟩
  | _ => ⟨.nil, [], false⟩
def env_mDon : Nat → Ann
  | 5 => ⟨.op 0 [] <| .op 1 [] <| .op 2 [] <| .op 3 [] <| .op 4 [] <| .op 5 [] <| .op 6 [] <| .op 7 [] <| .op 8 [] <| .op 9 [] <| .nil, [0, 1, 3, 7, 0, 16, 63, 127, 255, 511], false⟩
  | _ => ⟨.nil, [], false⟩
def env_mCopy : Nat → Ann
  | 3 => ⟨.op 0 [] <| .op 1 [] <| .op 2 [] <| .op 3 [] <| .op 4 [] <| .op 5 [] <| .op 6 [] <| .op 7 [] <| .op 9 [] <| .op 10 [] <| .op 11 [] <| .op 12 [] <| .op 14 [] <| .op 15 [] <| .op 16 [] <| .op 17 [] <| .alt (.op 8 [3, 12, 17] <| .alt (.op 13 [3, 17] <| .alt (.op 18 [3] <| .op 19 [3, 7, 12, 17] <| .op 20 [] <| .op 21 [] <| .op 22 [] <| .nil) (.op 19 [3, 7, 12, 17] <| .op 18 [3] <| .op 20 [] <| .op 21 [] <| .op 22 [] <| .nil)) (.op 19 [3, 7, 12, 17] <| .op 13 [3, 17] <| .op 18 [3] <| .op 20 [] <| .op 21 [] <| .op 22 [] <| .nil)) (.op 19 [3, 7, 12, 17] <| .op 8 [3, 12, 17] <| .op 13 [3, 17] <| .op 18 [3] <| .op 20 [] <| .op 21 [] <| .op 22 [] <| .nil), [0, 1, 3, 7, 0, 16, 48, 112, 240, 0, 512, 1536, 3584, 8176, 0, 16384, 49152, 114688, 262128, 0, 1048575, 2097151, 4194303], false⟩
  | 7 => ⟨.op 0 [] <| .op 1 [] <| .op 2 [] <| .op 3 [] <| .op 4 [] <| .op 5 [] <| .op 6 [3, 4] <| .op 7 [] <| .nil, [0, 1, 3, 7, 0, 0, 32, 127], false⟩
  | _ => ⟨.nil, [], false⟩
def env_mShapen : Nat → Ann
  | 4 => ⟨.op 0 [] <| .op 1 [] <| .op 2 [] <| .op 3 [] <| .op 4 [] <| .op 5 [] <| .op 6 [] <| .op 7 [] <| .op 8 [] <| .op 9 [] <| .op 10 [] <| .op 11 [] <| .op 12 [] <| .op 13 [] <| .nil, [0, 1, 3, 7, 15, 31, 0, 64, 192, 448, 960, 1984, 4095, 0], false⟩
  | 7 => ⟨.op 0 [] <| .op 1 [] <| .op 2 [] <| .op 3 [] <| .op 4 [] <| .op 5 [] <| .op 6 [] <| .op 7 [] <| .op 8 [] <| .op 9 [] <| .op 10 [] <| .op 11 [] <| .op 12 [] <| .op 13 [] <| .op 14 [] <| .op 15 [] <| .op 16 [] <| .op 17 [] <| .op 18 [] <| .op 19 [1] <| .op 20 [1] <| .op 21 [] <| .op 22 [] <| .op 23 [] <| .nil, [0, 1, 0, 0, 0, 16, 48, 112, 240, 496, 1016, 0, 0, 4096, 12288, 28672, 61440, 126976, 260096, 524284, 1048572, 2097151, 4194303, 8388607], false⟩
  | _ => ⟨.nil, [], false⟩
section
variable {h : Heap}
theorem row_upto {α : Type} {enc : α → List Value} {sz : Nat} {A : Option Addr} {xs : List α} (H : Row enc sz h A xs) (n : Nat) {q : Prop} {inst : Decidable q} {f : Addr → Addr} (hf : ∀ a, f a = a) : Row enc sz h (@ite _ q inst A (Option.map f A)) (xs.take n) := by
  have e : (@ite _ q inst A (Option.map f A)) = A := by
    split
    · rfl
    · cases A with
      | none => rfl
      | some a => rw [Option.map_some, hf]
  rw [e]
  intro i x hx
  rw [List.getElem?_take] at hx
  split at hx
  · exact H i x hx
  · cases hx
theorem mHas_nil (n : Int) : HCalls Tryz.prog 73 #[.pointer none, .int .i64 n] h (fun v h' => v = .bool false ∧ h' = h) := by
  refine xcalls env0 Tryz.func73 rfl (by kernel_rfl) rfl (by kernel_rfl) ?_
  exact ⟨rfl, rfl⟩
theorem mMay_nil (o : Op17) (hk : o.kind = 0) : HCalls Tryz.prog 45 #[.pointer none, .agg (encO17 o).toArray] h (fun v h' => v = .bool false ∧ Ext h h') := by
  refine xcalls env0 Tryz.func45 rfl (by kernel_rfl) rfl (by kernel_rfl) ?_
  intro ob h1 n1
  have hb : h1[ob]? = some (.cells (encO17 o).toArray 51 (0, 0)) := n1.this
  refine ⟨_, cell_blk hb rfl, ?_⟩
  have hq : (o.kind == 0) = true := by simp [hk]
  refine xif_true hq ?_
  refine xif_true hq ?_
  refine ⟨_, cell_blk hb rfl, ?_⟩
  refine (mHas_nil _).mono ?_
  rintro v h2 ⟨rfl, rfl⟩
  exact ⟨rfl, n1.ext⟩
theorem mDo_nil (o : Op17) (hk : o.kind = 0) : HCalls Tryz.prog 14 #[.pointer none, .agg (encO17 o).toArray] h (fun v h' => v = .int .i64 (-1) ∧ Ext h h') := by
  refine xcalls env_mDon Tryz.func14 rfl (by kernel_rfl) rfl (by kernel_rfl) ?_
  intro ob h1 n1
  have hb : h1[ob]? = some (.cells (encO17 o).toArray 51 (0, 0)) := n1.this
  refine ⟨_, rfl, reads_all hb, ?_⟩
  refine (mMay_nil o hk).mono ?_
  rintro v h2 ⟨rfl, x2⟩
  exact ⟨rfl, n1.ext.trans x2⟩
theorem mCopy_nil : HCalls Tryz.prog 20 #[.pointer none] h (fun v h' => v = .pointer none ∧ h' = h) := by
  refine xcalls env_mCopy Tryz.func20 rfl (by kernel_rfl) rfl (by kernel_rfl) ?_
  exact ⟨rfl, rfl⟩
theorem mVlans_nil : HCalls Tryz.prog 65 #[.pointer none] h (fun v h' => v = .slice none 0 0 ∧ h' = h) := by
  refine xcalls env0 Tryz.func65 rfl (by kernel_rfl) rfl (by kernel_rfl) ?_
  exact ⟨rfl, rfl⟩
theorem mList_nil : HCalls Tryz.prog 69 #[.pointer none] h (fun v h' => v = .slice none 0 0 ∧ h' = h) := by
  refine xcalls env0 Tryz.func69 rfl (by kernel_rfl) rfl (by kernel_rfl) ?_
  exact ⟨rfl, rfl⟩
theorem mQueue_nil (a b : Int) : HCalls Tryz.prog 19 #[.pointer none, .int .i64 a, .int .i64 b] h (fun v h' => v = .slice none 0 0 ∧ h' = h) := by
  refine xcalls env0 Tryz.func19 rfl (by kernel_rfl) rfl (by kernel_rfl) ?_
  refine (mHas_nil _).mono ?_
  rintro v h2 ⟨rfl, rfl⟩
  exact ⟨rfl, rfl⟩
theorem mBucket_nil (a b : Int) : HCalls Tryz.prog 68 #[.pointer none, .int .i64 a, .int .i64 b] h (fun v h' => v = .slice none 0 0 ∧ h' = h) := by
  refine xcalls env0 Tryz.func68 rfl (by kernel_rfl) rfl (by kernel_rfl) ?_
  exact ⟨rfl, rfl⟩
theorem mShape_nil : HCalls Tryz.prog 64 #[.pointer none] h (fun v h' => v = .agg #[.slice none 0 0, .slice none 0 0, .slice none 0 0, .slice none 0 0] ∧ Ext h h') := by
  refine xcalls env_mShapen Tryz.func64 rfl (by kernel_rfl) rfl (by kernel_rfl) ?_
  intro b1 h1 n1
  refine ⟨rfl, rfl, canset_blk n1.this rfl, fun h2 s2 => ?_⟩
  have hb : h2[b1]? = some (.cells [.slice none 0 0, .slice none 0 0, .slice none 0 0, .slice none 0 0].toArray 147 (0, 0)) := s2.put n1.this
  exact ⟨_, rfl, reads_all hb, rfl, n1.ext.stored s2 (n1.ge (Ext.refl _))⟩
theorem mStand_nil (a : Int) : HCalls Tryz.prog 18 #[.pointer none, .int .i64 a] h (fun v h' => v = .agg #[.int .i64 0, .int .u32 0] ∧ Ext h h') := by
  refine xcalls env0 Tryz.func18 rfl (by kernel_rfl) rfl (by kernel_rfl) ?_
  intro b1 h1 n1
  refine (mHas_nil a).mono ?_
  rintro v h2 ⟨rfl, rfl⟩
  refine ⟨rfl, rfl, canset_blk n1.this rfl, fun h3 s3 => ?_⟩
  have hb : h3[b1]? = some (.cells [.int .i64 0, .int .u32 0].toArray 60 (0, 0)) := s3.put n1.this
  exact ⟨_, rfl, reads_all hb, rfl, n1.ext.stored s3 (n1.ge (Ext.refl _))⟩
theorem mNew_bad {A B : Option Addr} {na ca nb cb : Nat} {rules : List Ru} {vls : List Vl} {ports tries ring normal short : Int} {s : Sz} (hra : Row encRu 2 h A rules) (hla : rules.length = na) (hrb : Row encVl 3 h B vls) (hlb : vls.length = nb) (hn : na ≤ 1000000) (hn2 : nb ≤ 1000000) (wf : ∀ v ∈ vls, SetWf v.mem ∧ SetWf v.unt) (hc : mCheckM ports rules vls s tries ring ≠ 0) :
    HCalls Tryz.prog 10 #[.agg (planV ports (.slice A na ca) (.slice B nb cb) s tries ring normal short).toArray] h (fun v h' => v = .tuple #[.pointer none, .int .i64 (mCheckM ports rules vls s tries ring)] ∧ Ext h h') := by
  refine xcalls env_mNewn Tryz.func10 rfl (by kernel_rfl) rfl (by kernel_rfl) ?_
  intro ib h1 n1
  have hib : h1[ib]? = some (.cells (planV ports (.slice A na ca) (.slice B nb cb) s tries ring normal short).toArray 39 (0, 0)) := n1.this
  refine ⟨_, rfl, reads_all hib, ?_⟩
  refine (mCheck_spec (n1.ext.row hra) hla (n1.ext.row hrb) hlb hn hn2 wf).mono ?_
  rintro v h2 ⟨rfl, x2⟩
  refine xif_true (by simpa using hc) ?_
  exact ⟨rfl, n1.ext.trans x2⟩
end
end Go.Proofs.YtgiofdiifkahoaaGreatE
