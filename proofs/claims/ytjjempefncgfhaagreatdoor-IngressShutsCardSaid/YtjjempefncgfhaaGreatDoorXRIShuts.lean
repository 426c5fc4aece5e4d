/- IngressShuts: for every input the law answers true and its arguments read as they did; the variable that its row lists is tied to the program's text. Conditions: the listed variable starts as its initialiser lays it. -/
import Derived.Test.YtjjempefncgfhaaGreatDoorRows
import Derived.Test.YtjjempefncgfhaaGreatDoorTie
import Derived.Test.YtjjempefncgfhaaGreatDoorCards
import Derived.Test.YtjjempefncgfhaaGreatDoorXIZ
import Derived.LaidMore
import Derived.Stop.Joined
import Derived.SevenTiedAt
set_option linter.unusedVariables false
set_option linter.unusedSimpArgs false
set_option maxRecDepth 100000
namespace Go.Proofs.YtjjempefncgfhaaGreatDoorE
open Go Go.Proofs Go.Proofs.YtjjempefncgfhaaGreatDoor Go.ChangeShapes Go.WideShapes Go.ChangeAt Go.RowKit
theorem ingressShuts_p1 : (Rows.ingressShutsRow.inPlace == Tryz.pinned.checked.prog.inPlace 4) = true := by kernel_rfl
theorem ingressShuts_p2 : (Rows.ingressShutsRow.unfollowed == Tryz.pinned.checked.prog.unfollowed 4) = true := by kernel_rfl
theorem ingressShuts_p3 : (Rows.ingressShutsRow.recurses == Tryz.pinned.checked.prog.recurses 4) = true := by kernel_rfl
theorem ingressShuts_p4 : (Rows.ingressShutsRow.named == Tryz.pinned.checked.prog.varsNamed 4) = true := by kernel_rfl
theorem ingressShuts_closed : joinedFacts Tryz.pinned.checked.prog 4 Tryz.f4 Rows.ingressShutsSpec Rows.ingressShutsRow = true := by
  unfold joinedFacts
  rw [ingressShuts_p1, ingressShuts_p2, ingressShuts_p3, ingressShuts_p4]
  kernel_rfl
theorem ingressShuts_over : Rows.ingressShutsRow.holds Tryz.pinned (OpenSpec.ofChange Rows.ingressShutsSpec) :=
  OpenClaim.holds_of_wide 4 Tryz.f4 rfl rfl rfl rfl rfl rfl rfl ⟨rfl, rfl, rfl, rfl, rfl⟩ rfl rfl rfl rfl rfl (by kernel_rfl) Tryz.func4 ingressShuts_closed
    (of_decide_eq_true (by kernel_rfl)) (by unfold Func.isWrapper; first | (rw [if_pos (by decide +kernel)]; kernel_rfl) | (rw [if_neg (by decide +kernel)]; exact ⟨rfl, rfl⟩))
    (fun os started H enc _ => ingressShuts_lifted os started H enc)
end Go.Proofs.YtjjempefncgfhaaGreatDoorE
namespace Go.Proofs.YtjjempefncgfhaaGreatDoor
open Go
/-- The card: IngressShuts. -/
theorem ingressShuts_holds : Rows.IngressShutsCardSaid :=
  Claim7.holds_tied_plain_at .later [] [.data] true (true, "a559bc61e55f63086abd1af893b93dfefa98d9639a5b0e53a0c38a67d2bda124") false
    YtjjempefncgfhaaGreatDoorE.ingressShuts_over (fun _ h => by cases h) (by kernel_rfl) (fun _ h => by cases h) ingressShuts_row_tie rfl ⟨rfl, rfl⟩ (by kernel_rfl) rfl
    (fun f fn hf hfn => by
      obtain rfl : f = 4 := Option.some.inj ((show Tryz.prog.funcNamed "patchbay/patchbaylaw20.IngressShuts" = some 4 by kernel_rfl).symm.trans hf) |>.symm
      obtain rfl : fn = Tryz.f4 := (Option.some.inj (Tryz.func4.symm.trans hfn)).symm
      exact ⟨by kernel_rfl, fun j t ht => by
        rw [Tryz.params4] at ht
        have h3 : t = 28 ∨ t = 48 ∨ t = 3 := by
          rcases j with _ | _ | _ | j
          · exact .inl (by simpa using ht.symm)
          · exact .inr (.inl (by simpa using ht.symm))
          · exact .inr (.inr (by simpa using ht.symm))
          · simp at ht
        rcases h3 with rfl | rfl | rfl
        · exact (show Tryz.prog.wantsStandIn 28 = false by kernel_rfl)
        · exact (show Tryz.prog.wantsStandIn 48 = false by kernel_rfl)
        · exact (show Tryz.prog.wantsStandIn 3 = false by kernel_rfl)⟩)
    (by kernel_rfl)
#print axioms ingressShuts_holds
end Go.Proofs.YtjjempefncgfhaaGreatDoor
