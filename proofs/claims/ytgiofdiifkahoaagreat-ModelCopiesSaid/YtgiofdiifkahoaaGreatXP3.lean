/- What the laws ModelQueues and ModelStands answer: yes. Conditions: the arguments are of their types. -/
import Derived.Test.YtgiofdiifkahoaaGreatXP2
set_option linter.unusedVariables false
set_option linter.unusedSimpArgs false
set_option maxRecDepth 100000
namespace Go.Proofs.YtgiofdiifkahoaaGreatE
open Go Go.Proofs
section
variable {tM tS tV tB tT tP : TypeId} {base : Nat} {F : Nat → Prop} {h h' : Heap} {m : Nat} {D : Dat} {p : Pl} {M : Md}
theorem MdAt.frX {X : Nat → Prop} (H : MdAt tM tS tV tB tT tP base F h m D p M) (f : Fr X h h') (oM : Off X h tM) (oS : Off X h tS) (oV : Off X h tV) (oB : Off X h tB) (oT : Off X h tT) (oP : Off X h tP) (hmb : ¬ X D.mb) (hF : ∀ b, F b → ¬ X b) : MdAt tM tS tV tB tT tP base F h' m D p M := by
  obtain ⟨es, ⟨E, cl, hb, r⟩, hq⟩ := H.queues
  exact ⟨H.ge, H.geF, fun b hb => let ⟨c, g, e⟩ := H.tyF b hb; ⟨c, g, f.blk e (hF b hb)⟩, H.geM, f.blk H.blk (oM.not H.blk), H.stands.frT f oS, H.vlans.frT f oV, H.book.frT f oB oT oP, es, ⟨E, cl, f.blk hb hmb, r⟩, hq.fr f hF⟩
/-- A list of one's own beside a model. -/
theorem MdAt.notX (H : MdAt tM tS tV tB tT tP base F h m D p M) (h1 : tS ≠ 3) (h2 : tV ≠ 3) (h3 : tT ≠ 3) {b' c : Nat} {C : Option Addr} {l : List Int} (o : OwnA encI 1 3 b' h C c l) (hF : ∀ b, C = some ⟨b, 0, none⟩ → ¬ F b) : ∀ b, C = some ⟨b, 0, none⟩ → ¬ D.X F b := by
  rintro b rfl hk
  obtain ⟨cx, hc⟩ := own_blk o
  rcases hk with rfl | hk | rfl | rfl | hk
  · obtain ⟨cy, hy⟩ := own_blk H.stands
    exact h1 (ty_eq hy hc)
  · have := H.vlans
    rw [hk] at this
    obtain ⟨cy, hy⟩ := own_blk this
    exact h2 (ty_eq hy hc)
  · obtain ⟨_, cy, hy⟩ := H.book.table
    exact h3 (ty_eq hy hc)
  · exact H.mapNe hc rfl
  · exact hF _ rfl hk
theorem MdAt.keepA (H : MdAt tM tS tV tB tT tP base F h m D p M) (h0 : tM ≠ 3) (h1 : tS ≠ 3) (h2 : tV ≠ 3) (h3 : tT ≠ 3) (h4 : tB ≠ 3) (h5 : tP ≠ 3) {b' c : Nat} {C : Option Addr} {l : List Int} (o : OwnA encI 1 3 b' h C c l) (hF : ∀ b, C = some ⟨b, 0, none⟩ → ¬ F b) (k : KeepA C h h') : MdAt tM tS tV tB tT tP base F h' m D p M := by
  have off : ∀ T : TypeId, T ≠ 3 → Off (fun k => C = some ⟨k, 0, none⟩) h T := by
    rintro T hT k c e g rfl hk
    obtain ⟨cx, hc⟩ := own_blk o
    rw [ty_eq hk hc]
    exact hT.symm
  refine H.frX (k.fr' (X := fun k => C = some ⟨k, 0, none⟩) fun _ e => e) (off _ h0) (off _ h1) (off _ h2) (off _ h4) (off _ h3) (off _ h5) ?_ fun b hb e => hF b e hb
  rintro rfl
  obtain ⟨cx, hc⟩ := own_blk o
  exact H.mapNe hc rfl
end
section
variable {base : Nat} {F : Nat → Prop} {h h1 h' : Heap} {m : Nat} {D : Dat} {p : Pl} {M M' : Md}
theorem Did.side (d : Did base F h m D p M' h') (H : MdP base F h m D p M) {b' c : Nat} {C : Option Addr} {l : List Int} (o : OwnA encI 1 3 b' h C c l) (hF : ∀ b, C = some ⟨b, 0, none⟩ → ¬ F b) :
    ∃ F', MdP base F' h' m D p M' ∧ OwnA encI 1 3 b' h' C c l ∧ (∀ b, C = some ⟨b, 0, none⟩ → ¬ F' b) ∧ Fr (D.X F) h h' := by
  obtain ⟨F', h2, h3, f⟩ := d
  refine ⟨F', h3, o.fr f (H.notX (by decide) (by decide) (by decide) o hF), ?_, f⟩
  rintro b rfl hb
  rcases h2 b hb with hb | hb
  · exact hF b rfl hb
  · obtain ⟨cx, hc⟩ := own_blk o
    have := blk_lt hc
    omega
theorem modp_eq (x N : Int) (h1 : 1 ≤ N) (h2 : N ≤ 64) : IntKind.i64.wrap ((IntKind.u64.wrap x).tmod (IntKind.u64.wrap N)) = x % 18446744073709551616 % N := by
  have h3 := Int.emod_lt_of_pos (x % 18446744073709551616) (show 0 < N by omega)
  have h4 := Int.emod_nonneg (x % 18446744073709551616) (show N ≠ 0 by omega)
  rw [IntKind.wrap_u64, IntKind.wrap_u64, Int.emod_eq_of_lt (show 0 ≤ N by omega) (by omega), Int.tmod_eq_emod_of_nonneg (by omega), wrap_i64 (by omega) (by omega)]
end
end Go.Proofs.YtgiofdiifkahoaaGreatE
