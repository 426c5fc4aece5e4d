/- What the program's book answers where there is none. Conditions: the arguments are of their types. -/
import Derived.Test.YtkppagdjakllpaaXB6
set_option linter.unusedVariables false
set_option linter.unusedSimpArgs false
set_option maxRecDepth 100000
namespace Go.Proofs.YtkppagdjakllpaaE
open Go Go.Proofs
section
variable {h : Heap}
theorem kAt_nil (a n : Int) : HCalls Try.prog 87 #[.pointer none, .int .i64 a, .int .i64 n] h (fun v h' => v = .int .i64 (-1) ∧ h' = h) := by
  refine xcalls env0 Try.func87 rfl (by kernel_rfl) rfl (by kernel_rfl) ?_
  exact ⟨rfl, rfl⟩
theorem kOf_nil (vid mac : Int) : HCalls Try.prog 77 #[.pointer none, .agg #[.int .i64 vid, .int .u64 mac]] h (fun v h' => v = .int .i64 (-1) ∧ Ext h h') := by
  refine xcalls env_kOf Try.func77 rfl (by kernel_rfl) rfl (by kernel_rfl) ?_
  intro kb h1 n1
  exact ⟨rfl, n1.ext⟩
theorem kLookup_nil (vid mac : Int) : HCalls Try.prog 40 #[.pointer none, .agg #[.int .i64 vid, .int .u64 mac]] h (fun v h' => v = .int .i64 (-1) ∧ Ext h h') := by
  refine xcalls env_kLookup Try.func40 rfl (by kernel_rfl) rfl (by kernel_rfl) ?_
  intro kb h1 n1
  refine ⟨_, rfl, reads_all n1.this, ?_⟩
  refine (kOf_nil vid mac).mono ?_
  rintro v h2 ⟨rfl, x2⟩
  exact ⟨rfl, n1.ext.trans x2⟩
theorem kPut_nil (vid mac : Int) (f : Value) : HCalls Try.prog 78 #[.pointer none, .agg #[.int .i64 vid, .int .u64 mac], f] h (fun v h' => v = .int .i64 5 ∧ Ext h h') := by
  refine xcalls env0 Try.func78 rfl (by kernel_rfl) rfl (by kernel_rfl) ?_
  intro kb h1 n1
  refine ⟨_, rfl, reads_all n1.this, ?_⟩
  refine (kOf_nil vid mac).mono ?_
  rintro v h2 ⟨rfl, x2⟩
  exact ⟨rfl, n1.ext.trans x2⟩
theorem kLearn_nil (vid mac port now : Int) : HCalls Try.prog 41 #[.pointer none, .agg #[.int .i64 vid, .int .u64 mac], .int .i64 port, .int .u32 now] h (fun v h' => v = .int .i64 5 ∧ Ext h h') := by
  refine xcalls env0 Try.func41 rfl (by kernel_rfl) rfl (by kernel_rfl) ?_
  intro b1 h1 n1 b2 h2 n2 b3 h3 n3
  refine ⟨_, rfl, reads_all (n3.ext.blk (n2.ext.blk n1.this)), ?_⟩
  refine (kPut_nil vid mac _).mono ?_
  rintro v h4 ⟨rfl, x4⟩
  exact ⟨rfl, n1.ext.trans (n2.ext.trans (n3.ext.trans x4))⟩
theorem kOrder_nil (vid mac port now : Int) : HCalls Try.prog 73 #[.pointer none, .agg #[.int .i64 vid, .int .u64 mac], .int .i64 port, .int .u32 now] h (fun v h' => v = .int .i64 5 ∧ Ext h h') := by
  refine xcalls env0 Try.func73 rfl (by kernel_rfl) rfl (by kernel_rfl) ?_
  intro b1 h1 n1 b2 h2 n2 b3 h3 n3
  refine ⟨_, rfl, reads_all (n3.ext.blk (n2.ext.blk n1.this)), ?_⟩
  refine (kPut_nil vid mac _).mono ?_
  rintro v h4 ⟨rfl, x4⟩
  exact ⟨rfl, n1.ext.trans (n2.ext.trans (n3.ext.trans x4))⟩
theorem kDrop_nil (vid mac : Int) : HCalls Try.prog 74 #[.pointer none, .agg #[.int .i64 vid, .int .u64 mac]] h (fun v h' => v = .bool false ∧ Ext h h') := by
  refine xcalls env_kDrop Try.func74 rfl (by kernel_rfl) rfl (by kernel_rfl) ?_
  intro kb h1 n1
  refine ⟨_, rfl, reads_all n1.this, ?_⟩
  refine (kOf_nil vid mac).mono ?_
  rintro v h2 ⟨rfl, x2⟩
  exact ⟨rfl, n1.ext.trans x2⟩
theorem kAge_nil (a n now old : Int) : HCalls Try.prog 75 #[.pointer none, .int .i64 a, .int .i64 n, .int .u32 now, .int .u32 old] h (fun v h' => v = .int .i64 0 ∧ h' = h) := by
  refine xcalls env0 Try.func75 rfl (by kernel_rfl) rfl (by kernel_rfl) ?_
  refine (kAt_nil a n).mono ?_
  rintro v h1 ⟨rfl, rfl⟩
  exact ⟨rfl, rfl⟩
theorem kFlush_nil (port vid : Int) : HCalls Try.prog 76 #[.pointer none, .agg #[.int .i64 port, .int .i64 vid]] h (fun v h' => v = .int .i64 0 ∧ Ext h h') := by
  refine xcalls env0 Try.func76 rfl (by kernel_rfl) rfl (by kernel_rfl) ?_
  intro kb h1 n1
  exact ⟨rfl, n1.ext⟩
theorem kBucket_nil (a n : Int) : HCalls Try.prog 50 #[.pointer none, .int .i64 a, .int .i64 n] h (fun v h' => v = .slice none 0 0 ∧ h' = h) := by
  refine xcalls env0 Try.func50 rfl (by kernel_rfl) rfl (by kernel_rfl) ?_
  refine (kAt_nil a n).mono ?_
  rintro v h1 ⟨rfl, rfl⟩
  exact ⟨rfl, rfl⟩
theorem kList_nil : HCalls Try.prog 54 #[.pointer none] h (fun v h' => v = .slice none 0 0 ∧ h' = h) := by
  refine xcalls env0 Try.func54 rfl (by kernel_rfl) rfl (by kernel_rfl) ?_
  exact ⟨rfl, rfl⟩
theorem kCopy_nil : HCalls Try.prog 44 #[.pointer none] h (fun v h' => v = .pointer none ∧ h' = h) := by
  refine xcalls env_kCopy Try.func44 rfl (by kernel_rfl) rfl (by kernel_rfl) ?_
  exact ⟨rfl, rfl⟩
theorem kSize_nil : HCalls Try.prog 49 #[.pointer none] h (fun v h' => v = .agg #[.int .i64 0, .int .i64 0, .int .i64 0] ∧ Ext h h') := by
  refine xcalls env0 Try.func49 rfl (by kernel_rfl) rfl (by kernel_rfl) ?_
  intro zb h1 n1
  refine ⟨rfl, rfl, canset_blk n1.this rfl, fun h2 s2 => ?_⟩
  have hz : h2[zb]? = some (.cells [.int .i64 0, .int .i64 0, .int .i64 0].toArray 88 (0, 0)) := s2.put n1.this
  exact ⟨_, rfl, reads_all hz, rfl, n1.ext.stored s2 (n1.ge (Ext.refl _))⟩
def nilWant (k : Int) : Int := if k = 0 then -1 else if k = 3 then 5 else if k = 4 then 0 else if k = 5 then 0 else if k = 6 then 0 else 5
theorem lDo_nil (x : OpR) : HCalls Try.prog 39 #[.pointer none, .agg (encO7 x).toArray] h (fun v h' => v = .int .i64 (nilWant x.k) ∧ Ext h h') := by
  have kk := kind_eq x.kind
  have ck : ∀ {c : Int} {r : Bool}, (IntKind.i64.wrap ((IntKind.u64.wrap x.kind).tmod 7) == c) = r → (x.k == c) = r := fun {c r} q => by rw [kk] at q; exact q
  refine xcalls env0 Try.func39 rfl (by kernel_rfl) rfl (by kernel_rfl) ?_
  intro ob h1 n1
  have hob1 : h1[ob]? = some (.cells (encO7 x).toArray 82 (0, 0)) := n1.this
  refine ⟨[.int .i64 x.vid, .int .u64 x.mac], rfl, reads_at hob1 rfl, ?_⟩
  refine (l8To_spec _ _ _).mono ?_
  rintro v h2 ⟨rfl, x2⟩
  intro kb h3 n3
  refine ⟨rfl, rfl, canset_blk n3.this rfl, fun h4 s4 => ?_⟩
  have hkb : h4[kb]? = some (.cells [.int .i64 x.vid, .int .u64 x.mac].toArray 36 (0, 0)) := s4.put n3.this
  have x03 := n1.ext.trans (x2.trans n3.ext)
  have x04 := x03.stored s4 (n3.ge (n1.ext.trans x2))
  have hob : h4[ob]? = some (.cells (encO7 x).toArray 82 (0, 0)) := s4.blk (n3.ext.blk (x2.blk hob1)) (by have := n3.lt (x2.blk hob1); exact Nat.ne_of_lt this)
  refine ⟨_, cell_blk hob rfl, by decide, ?_⟩
  unfold nilWant
  refine xif_of (fun q => ?_) (fun q => ?_)
  · have q := ck q
    refine ⟨_, rfl, reads_all hkb, ?_⟩
    refine (kLookup_nil _ _).mono ?_
    rintro v h5 ⟨rfl, x5⟩
    exact ⟨by rw [if_pos (by simpa using q)]; rfl, x04.trans x5⟩
  have q0 := ck q
  refine xif_of (fun q => ?_) (fun q => ?_)
  · have q := ck q
    refine ⟨_, rfl, reads_all hkb, _, cell_blk hob rfl, _, cell_blk hob rfl, ?_⟩
    refine (kOrder_nil _ _ _ _).mono ?_
    rintro v h5 ⟨rfl, x5⟩
    exact ⟨by rw [if_neg (by simpa using q0), if_pos (by simpa using q)]; rfl, x04.trans x5⟩
  have q3 := ck q
  refine xif_of (fun q => ?_) (fun q => ?_)
  · have q := ck q
    refine ⟨_, rfl, reads_all hkb, ?_⟩
    refine (kDrop_nil _ _).mono ?_
    rintro v h5 ⟨rfl, x5⟩
    exact ⟨by rw [if_neg (by simpa using q0), if_neg (by simpa using q3), if_pos (by simpa using q)]; rfl, x04.trans x5⟩
  have q4 := ck q
  refine xif_of (fun q => ?_) (fun q => ?_)
  · have q := ck q
    refine ⟨_, cell_blk hob rfl, _, cell_blk hob rfl, _, cell_blk hob rfl, _, cell_blk hob rfl, ?_⟩
    refine (kAge_nil _ _ _ _).mono ?_
    rintro v h5 ⟨rfl, rfl⟩
    exact ⟨by rw [if_neg (by simpa using q0), if_neg (by simpa using q3), if_neg (by simpa using q4), if_pos (by simpa using q)]; rfl, x04⟩
  have q5 := ck q
  refine xif_of (fun q => ?_) (fun q => ?_)
  · have q := ck q
    refine ⟨_, cell_blk hob rfl, _, cell_blk hob rfl, ?_⟩
    refine (kFlush_nil _ _).mono ?_
    rintro v h5 ⟨rfl, x5⟩
    exact ⟨by rw [if_neg (by simpa using q0), if_neg (by simpa using q3), if_neg (by simpa using q4), if_neg (by simpa using q5), if_pos (by simpa using q)]; rfl, x04.trans x5⟩
  · have q6 := ck q
    refine ⟨_, rfl, reads_all hkb, _, cell_blk hob rfl, _, cell_blk hob rfl, ?_⟩
    refine (kLearn_nil _ _ _ _).mono ?_
    rintro v h5 ⟨rfl, x5⟩
    exact ⟨by rw [if_neg (by simpa using q0), if_neg (by simpa using q3), if_neg (by simpa using q4), if_neg (by simpa using q5), if_neg (by simpa using q6)]; rfl, x04.trans x5⟩
end
end Go.Proofs.YtkppagdjakllpaaE
