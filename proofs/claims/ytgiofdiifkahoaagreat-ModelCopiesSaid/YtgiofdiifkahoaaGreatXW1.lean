/- What the document's model does: VLANs found, a port set. Conditions: the arguments are of their types. -/
import Derived.Test.YtgiofdiifkahoaaGreatXP1
import Derived.Test.YtgiofdiifkahoaaGreatXB5
set_option linter.unusedVariables false
set_option linter.unusedSimpArgs false
set_option maxRecDepth 100000
namespace Go.Proofs.YtgiofdiifkahoaaGreatE
open Go Go.Proofs
abbrev MdR (base : Nat) (G : Nat → Prop) (h : Heap) (m : Nat) (D : Dat) (p : Pl) (M : Md) : Prop := WdAt 94 89 105 152 154 197 124 62 base G h m D p M
/-- The document's model is another one, and what else there was is as it was. -/
def DidR (base : Nat) (G : Nat → Prop) (h : Heap) (m : Nat) (D : Dat) (p : Pl) (M' : Md) (h' : Heap) : Prop := ∃ G' : Nat → Prop, (∀ b, G' b → G b ∨ h.size ≤ b) ∧ MdR base G' h' m D p M' ∧ Fr (D.Z p) h h'
section
variable {base : Nat} {G : Nat → Prop} {h h1 h' : Heap} {m : Nat} {D : Dat} {p : Pl} {M M' : Md}
theorem DidR.same (H : MdR base G h m D p M) (x : Ext h h') : DidR base G h m D p M h' := ⟨G, fun b hb => .inl hb, H.ext x, x.fr _⟩
theorem DidR.after (x : Ext h h1) (d : DidR base G h1 m D p M' h') : DidR base G h m D p M' h' := by
  obtain ⟨F', h2, h3, h4⟩ := d
  have := x.size
  exact ⟨F', fun b hb => (h2 b hb).imp id fun hg => Nat.le_trans this hg, h3, (x.fr _).trans h4 fun k _ hk => hk⟩
theorem DidR.book (H : MdR base G h m D p M) {L : List (List Place)} (hb : BkR base h' D.b D.tb p.size L) (k : KeepA (some ⟨D.tb, 0, none⟩) h h') : DidR base G h m D p { M with book := L } h' :=
  ⟨G, fun b hb => .inl hb, H.newBook (by decide) (by decide) (by decide) (by decide) (by decide) (by decide) (k.fr rfl) hb, (k.fr (X := fun j => j = D.tb) rfl).mono fun j _ e => .inr (.inr (.inl e))⟩
theorem rHas_spec (H : MdR base G h m D p M) (n : Int) : HCalls Tryz.prog 54 #[.pointer (some ⟨m, 0, none⟩), .int .i64 n] h (fun v h' => v = .bool (decide (inP p n)) ∧ h' = h) := by
  refine xcalls env0 Tryz.func54 rfl (by kernel_rfl) rfl (by kernel_rfl) ?_
  refine xif_of (fun q => ?_) (fun q => ?_)
  · have q : n ≥ 0 := of_decide_eq_true q
    refine ⟨_, cell_blk H.blk rfl, congrArg Value.bool ?_, rfl⟩
    rw [Bool.eq_iff_iff, decide_eq_true_iff, decide_eq_true_iff]; unfold inP; omega
  · have q : ¬ n ≥ 0 := of_decide_eq_false q
    exact ⟨congrArg Value.bool (decide_eq_false fun hh => q hh.1).symm, rfl⟩
theorem r3Find_spec {A : Option Addr} {c n : Nat} {l : List Vl} {vid : Int} (hr : Row encVl 3 h A l) (hl : l.length = n) (hn : n ≤ 1000000) : HCalls Tryz.prog 55 #[.slice A n c, .int .i64 vid] h (fun v h' => v = .int .i64 (findV vid l 0) ∧ h' = h) := by
  subst hl
  refine xcalls env0 Tryz.func55 rfl (by kernel_rfl) rfl (by kernel_rfl) ?_
  refine ⟨Nat, fun i => [(0, .slice A l.length c), (1, .int .i64 vid), (5, .int .i64 i)], fun i h' => (i ≤ l.length ∧ findV vid (l.drop i) i = findV vid l 0) ∧ h' = h, fun i => l.length - i, 0, ⟨rfl, rfl, rfl, trivial⟩, ⟨⟨Nat.zero_le _, rfl⟩, rfl⟩, ?_⟩
  rintro i h2 ⟨⟨hi, hf⟩, rfl⟩
  refine xif_of (fun hlt => ?_) (fun hge => ?_)
  · have hlt : (i : Int) < l.length := of_decide_eq_true hlt
    obtain ⟨v, hv⟩ : ∃ v, l[i]? = some v := ⟨l[i]'(by omega), List.getElem?_eq_getElem (by omega)⟩
    obtain ⟨a, hA, hrd⟩ := hr i v hv
    rw [findV_drop hv] at hf
    refine ⟨a, hA, by omega, hlt, _, hrd.get 0 rfl, ?_⟩
    refine xif_of (fun q => ?_) (fun q => ?_)
    · rw [if_pos (by simpa using q)] at hf
      exact ⟨congrArg (Value.int .i64) hf, rfl⟩
    · rw [if_neg (by simpa using q)] at hf
      exact ⟨i + 1, ⟨rfl, rfl, slot_inc (by omega), trivial⟩, ⟨⟨by omega, hf⟩, rfl⟩, by show l.length - (i + 1) < l.length - i; omega⟩
  · have hge : ¬ (i : Int) < l.length := of_decide_eq_false hge
    rw [List.drop_eq_nil_of_le (by omega)] at hf
    exact ⟨congrArg (Value.int .i64) hf, rfl⟩
theorem r16Right_specR (s : Int) : HCalls Tryz.prog 112 #[.int .i64 s] h (fun v h' => v = .bool (rightSt s) ∧ h' = h) := by
  refine xcalls env0 Tryz.func112 rfl (by kernel_rfl) rfl (by kernel_rfl) ?_
  refine xif_of (fun q => ?_) (fun q => ?_)
  · have q : s ≥ 0 := of_decide_eq_true q
    refine ⟨congrArg Value.bool ?_, rfl⟩
    unfold rightSt
    rw [Bool.eq_iff_iff, decide_eq_true_iff, decide_eq_true_iff]; omega
  · have q : ¬ s ≥ 0 := of_decide_eq_false q
    exact ⟨congrArg Value.bool (decide_eq_false fun hh => q hh.1).symm, rfl⟩
theorem r16Set_spec (x : Stn) (s : Int) : HCalls Tryz.prog 62 #[.agg (encSn x).toArray, .int .i64 s] h (fun v h' => v = .tuple #[.agg (if rightSt s = true then encSn ⟨s, IntKind.u32.wrap (x.ep + 1)⟩ else encSn ⟨0, 0⟩).toArray, .bool (rightSt s)] ∧ Ext h h') := by
  refine xcalls env0 Tryz.func62 rfl (by kernel_rfl) rfl (by kernel_rfl) ?_
  intro b1 h1 n1 b2 h2 n2
  have x02 := n1.ext.trans n2.ext
  have hb1 : h2[b1]? = some (.cells (encSn x).toArray 89 (0, 0)) := n2.ext.blk n1.this
  refine (r16Right_specR s).mono ?_
  rintro v h3 ⟨rfl, rfl⟩
  refine xif_of (fun q => ?_) (fun q => ?_)
  · have q : rightSt s = false := by simpa using q
    refine ⟨rfl, rfl, canset_blk n2.this rfl, fun h4 s4 => ?_⟩
    have hb : h4[b2]? = some (.cells [.int .i64 0, .int .u32 0].toArray 89 (0, 0)) := s4.put n2.this
    exact ⟨_, rfl, reads_all hb, by rw [if_neg (by simp [q]), q]; rfl, x02.stored s4 (n2.ge n1.ext)⟩
  · have q : rightSt s = true := by simpa using q
    refine ⟨_, cell_blk hb1 rfl, rfl, rfl, canset_blk n2.this rfl, fun h4 s4 => ?_⟩
    have hb : h4[b2]? = some (.cells [.int .i64 s, .int .u32 (IntKind.u32.wrap (x.ep + 1))].toArray 89 (0, 0)) := s4.put n2.this
    exact ⟨_, rfl, reads_all hb, by rw [if_pos q, q]; rfl, x02.stored s4 (n2.ge n1.ext)⟩
end
end Go.Proofs.YtgiofdiifkahoaaGreatE
