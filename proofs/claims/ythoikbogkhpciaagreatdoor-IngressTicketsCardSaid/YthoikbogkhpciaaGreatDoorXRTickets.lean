/- IngressTickets: for every input the law answers true and its arguments read as they did; the variable that its row lists is tied to the program's text. Conditions: the listed variable starts as its initialiser lays it. -/
import Derived.Test.YthoikbogkhpciaaGreatDoorRows
import Derived.Test.YthoikbogkhpciaaGreatDoorTie
import Derived.Test.YthoikbogkhpciaaGreatDoorCards
import Derived.Test.YthoikbogkhpciaaGreatDoorXLaw
import Derived.Test.YthoikbogkhpciaaGreatDoorXI2
import Derived.LaidMore
import Derived.Stop.Joined
import Derived.SevenTiedAt
set_option linter.unusedVariables false
set_option linter.unusedSimpArgs false
set_option maxRecDepth 100000
namespace Go.Proofs.YthoikbogkhpciaaGreatDoorE
open Go Go.Proofs Go.Proofs.YthoikbogkhpciaaGreatDoor Go.ChangeShapes Go.WideShapes Go.ChangeAt Go.RowKit
theorem own : ownKnob Tryz.prog.godebug = none := by kernel_rfl
theorem laidOut : laidOutB Tryz.prog = true := by kernel_rfl
theorem door_met (os : Os) (args : Array Value) : laidMetH Tryz.prog Rows.ingressTicketsRow.laid ((World.doorLaid Tryz.prog 4000 os).forCall (fun _ _ => 0) ⟨#[], args, []⟩).memory :=
  laidMetH_of_parts3 (fuel := 8) (laidMet_of_run' 8 (by kernel_rfl) (by kernel_rfl)) (by kernel_rfl) (by kernel_rfl)
theorem ingressTickets_lifted (os : Os) (started : os.Started) (H : Type) (enc : TypeId × Value → H) :
    ReturnsInHanded {} Tryz.checked os 3 .any (fun w args => (Rows.ingressTicketsSpec.pre enc Tryz.prog Tryz.f3 Rows.ingressTicketsRow.domain false w args ∧ laidMetH Tryz.prog Rows.ingressTicketsRow.laid w) ∧ sizedMet enc Tryz.prog Tryz.f3 (OpenSpec.ofChange Rows.ingressTicketsSpec) false w args) (Rows.ingressTicketsSpec.post enc Tryz.prog Tryz.f3 false true false false) := by
  refine returnsInHanded_of_change_and (C := Tryz.checked) (X := fun w _ => laidMetH Tryz.prog Rows.ingressTicketsRow.laid w) (fun _ _ _ hh h => h.of_heap hh) own started (by kernel_rfl) Tryz.func3
    (ChangeSpec.witness_shaped (enc := enc) (C := Tryz.checked) (os := os) (X := fun w _ => laidMetH Tryz.prog Rows.ingressTicketsRow.laid w) false (World.doorLaid Tryz.prog 4000 os) #[.int .i64 0, .int .i64 0] 8 rfl (World.shaped_of_RefB (by kernel_rfl) (by kernel_rfl)) (by kernel_rfl) (by kernel_rfl) (by kernel_rfl) (door_met os _)) ?_
  intro W base args ds gs before hval0 hW hcnd hsz0 _ _
  have hval : ∀ (j : Nat) t v, Tryz.f3.params[j]? = some t → args[j]? = some v → Value.okWide Tryz.prog W .any base t v := hval0
  have hW' := hW
  obtain ⟨p, q, hA0, hV, rfl, hfz, hnd⟩ := hW
  have hA : DataW.TrodAll enc Tryz.prog W 0 (fun _ => true) true Tryz.f3.params.toList args.toList ds p := hA0
  rw [Tryz.params3] at hA hval
  obtain ⟨v0, v1, d0, d1, p0, p1, rfl, rfl, rfl, h0, h1⟩ := trodAll_two hA
  obtain ⟨rfl, rfl⟩ := trodVars_none hV
  obtain ⟨x1, rfl⟩ := okWide_int (k := .i64) (by kernel_rfl) (hval 0 _ v0 rfl rfl)
  obtain ⟨x2, rfl⟩ := okWide_int (k := .i64) (by kernel_rfl) (hval 1 _ v1 rfl rfl)
  exact law_calls lTickets_spec laidOut (by kernel_rfl) (by kernel_rfl) Tryz.underlying4 rfl hW' rfl rfl rfl
theorem ingressTickets_over : Rows.ingressTicketsRow.holds Tryz.pinned (OpenSpec.ofChange Rows.ingressTicketsSpec) :=
  OpenClaim.holds_of_wide 3 Tryz.f3 rfl rfl rfl rfl rfl rfl rfl ⟨rfl, rfl, rfl, rfl, rfl⟩ rfl rfl rfl rfl rfl (by kernel_rfl) Tryz.func3 (by kernel_rfl)
    (of_decide_eq_true (by kernel_rfl)) (by unfold Func.isWrapper; first | (rw [if_pos (by decide +kernel)]; kernel_rfl) | (rw [if_neg (by decide +kernel)]; exact ⟨rfl, rfl⟩))
    (fun os started H enc _ => ingressTickets_lifted os started H enc)
end Go.Proofs.YthoikbogkhpciaaGreatDoorE
namespace Go.Proofs.YthoikbogkhpciaaGreatDoor
open Go
/-- The card: IngressTickets. -/
theorem ingressTickets_holds : Rows.IngressTicketsCardSaid :=
  Claim7.holds_tied_plain_at .later [] [.data] true (true, "cf30b20d3fb00575ce4dc5fc84662fbfe3d942de379ba011f99b47d33df73952") false
    YthoikbogkhpciaaGreatDoorE.ingressTickets_over (fun _ h => by cases h) (by kernel_rfl) (fun _ h => by cases h) ingressTickets_row_tie rfl ⟨rfl, rfl⟩ (by kernel_rfl) rfl
    (fun f fn hf hfn => by
      obtain rfl : f = 3 := Option.some.inj ((show Tryz.prog.funcNamed "patchbay/patchbaylaw20.IngressTickets" = some 3 by kernel_rfl).symm.trans hf) |>.symm
      obtain rfl : fn = Tryz.f3 := (Option.some.inj (Tryz.func3.symm.trans hfn)).symm
      exact ⟨by kernel_rfl, fun j t ht => by
        rw [Tryz.params3] at ht
        have h3 : t = 3 := by
          rcases j with _ | _ | j
          · simpa using ht.symm
          · simpa using ht.symm
          · simp at ht
        subst h3
        exact (show Tryz.prog.wantsStandIn 3 = false by kernel_rfl)⟩)
    (by kernel_rfl)
#print axioms ingressTickets_holds
end Go.Proofs.YthoikbogkhpciaaGreatDoor
