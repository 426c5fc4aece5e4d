/- IngressNews: for every input the law answers true and its arguments read as they did; the variable that its row lists is tied to the program's text. Conditions: the listed variable starts as its initialiser lays it. -/
import Derived.Test.YthoikbogkhpciaaGreatDoorRows
import Derived.Test.YthoikbogkhpciaaGreatDoorTie
import Derived.Test.YthoikbogkhpciaaGreatDoorCards
import Derived.Test.YthoikbogkhpciaaGreatDoorXDec17
import Derived.Test.YthoikbogkhpciaaGreatDoorXI3
import Derived.LaidMore
import Derived.Stop.Joined
import Derived.SevenTiedAt
set_option linter.unusedVariables false
set_option linter.unusedSimpArgs false
set_option maxRecDepth 100000
namespace Go.Proofs.YthoikbogkhpciaaGreatDoorE
open Go Go.Proofs Go.Proofs.YthoikbogkhpciaaGreatDoor Go.ChangeShapes Go.WideShapes Go.ChangeAt Go.RowKit
theorem door_met (os : Os) (args : Array Value) : laidMetH Tryz.prog Rows.ingressNewsRow.laid ((World.doorLaid Tryz.prog 4000 os).forCall (fun _ _ => 0) ⟨#[], args, []⟩).memory :=
  laidMetH_of_parts3 (fuel := 8) (laidMet_of_run' 8 (by kernel_rfl) (by kernel_rfl)) (by kernel_rfl) (by kernel_rfl)
theorem ingressNews_lifted (os : Os) (started : os.Started) (H : Type) (enc : TypeId × Value → H) :
    ReturnsInHanded {} Tryz.checked os 4 .any (fun w args => (Rows.ingressNewsSpec.pre enc Tryz.prog Tryz.f4 Rows.ingressNewsRow.domain false w args ∧ laidMetH Tryz.prog Rows.ingressNewsRow.laid w) ∧ sizedMet enc Tryz.prog Tryz.f4 (OpenSpec.ofChange Rows.ingressNewsSpec) false w args) (Rows.ingressNewsSpec.post enc Tryz.prog Tryz.f4 false true false false) := by
  refine returnsInHanded_of_change_and (C := Tryz.checked) (X := fun w _ => laidMetH Tryz.prog Rows.ingressNewsRow.laid w) (fun _ _ _ hh h => h.of_heap hh) own started (by kernel_rfl) Tryz.func4
    (ChangeSpec.witness_shaped (enc := enc) (C := Tryz.checked) (os := os) (X := fun w _ => laidMetH Tryz.prog Rows.ingressNewsRow.laid w) false (World.doorLaid Tryz.prog 4000 os) #[.agg #[.int .i64 0, .slice none 0 0, .slice none 0 0, .int .i64 0, .int .i64 0, .int .i64 0, .int .i64 0, .int .i64 0, .int .u32 0, .int .u32 0], .int .i64 0, .int .i64 0] 8 rfl (World.shaped_of_RefB (by kernel_rfl) (by kernel_rfl)) (by kernel_rfl) (by kernel_rfl) (by kernel_rfl) (door_met os _)) ?_
  intro W base args ds gs before hval0 hW hcnd hsz0 _ _
  have hval : ∀ (j : Nat) t v, Tryz.f4.params[j]? = some t → args[j]? = some v → Value.okWide Tryz.prog W .any base t v := hval0
  have hW' := hW
  obtain ⟨p, q, hA0, hV, rfl, hfz, hnd⟩ := hW
  have hA : DataW.TrodAll enc Tryz.prog W 0 (fun _ => true) true Tryz.f4.params.toList args.toList ds p := hA0
  rw [Tryz.params4] at hA hval
  obtain ⟨v0, v1, v2, d0, d1, d2, p0, p1, p2, rfl, rfl, rfl, h0, h1, h2⟩ := trodAll_three hA
  obtain ⟨rfl, rfl⟩ := trodVars_none hV
  obtain ⟨P, A, na, ca, B, nb, cb, s, tries, ring, normal, short, rules, vls, hp, hla, hra, hlb, hrb, wf, _⟩ := dec_plan (decW_of_arg h0)
  obtain rfl := agg_of hp (planV_len _ _ _ _ _ _ _ _)
  obtain ⟨x1, rfl⟩ := okWide_int (k := .i64) (by kernel_rfl) (hval 1 _ v1 rfl rfl)
  obtain ⟨x2, rfl⟩ := okWide_int (k := .i64) (by kernel_rfl) (hval 2 _ v2 rfl rfl)
  exact law_calls (lINews_spec hra hla hrb hlb wf) laidOut (by kernel_rfl) (by kernel_rfl) Tryz.underlying4 rfl hW' rfl rfl rfl
theorem ingressNews_over : Rows.ingressNewsRow.holds Tryz.pinned (OpenSpec.ofChange Rows.ingressNewsSpec) :=
  OpenClaim.holds_of_wide 4 Tryz.f4 rfl rfl rfl rfl rfl rfl rfl ⟨rfl, rfl, rfl, rfl, rfl⟩ rfl rfl rfl rfl rfl (by kernel_rfl) Tryz.func4 (by kernel_rfl)
    (of_decide_eq_true (by kernel_rfl)) (by unfold Func.isWrapper; first | (rw [if_pos (by decide +kernel)]; kernel_rfl) | (rw [if_neg (by decide +kernel)]; exact ⟨rfl, rfl⟩))
    (fun os started H enc _ => ingressNews_lifted os started H enc)
end Go.Proofs.YthoikbogkhpciaaGreatDoorE
namespace Go.Proofs.YthoikbogkhpciaaGreatDoor
open Go
/-- The card: IngressNews. -/
theorem ingressNews_holds : Rows.IngressNewsCardSaid :=
  Claim7.holds_tied_plain_at .later [] [.data] true (true, "cf30b20d3fb00575ce4dc5fc84662fbfe3d942de379ba011f99b47d33df73952") false
    YthoikbogkhpciaaGreatDoorE.ingressNews_over (fun _ h => by cases h) (by kernel_rfl) (fun _ h => by cases h) ingressNews_row_tie rfl ⟨rfl, rfl⟩ (by kernel_rfl) rfl
    (fun f fn hf hfn => by
      obtain rfl : f = 4 := Option.some.inj ((show Tryz.prog.funcNamed "patchbay/patchbaylaw20.IngressNews" = some 4 by kernel_rfl).symm.trans hf) |>.symm
      obtain rfl : fn = Tryz.f4 := (Option.some.inj (Tryz.func4.symm.trans hfn)).symm
      exact ⟨by kernel_rfl, fun j t ht => by
        rw [Tryz.params4] at ht
        have h3 : t = 32 ∨ t = 3 := by
          rcases j with _ | _ | _ | j
          · exact .inl (by simpa using ht.symm)
          · exact .inr (by simpa using ht.symm)
          · exact .inr (by simpa using ht.symm)
          · simp at ht
        rcases h3 with rfl | rfl
        · exact (show Tryz.prog.wantsStandIn 32 = false by kernel_rfl)
        · exact (show Tryz.prog.wantsStandIn 3 = false by kernel_rfl)⟩)
    (by kernel_rfl)
#print axioms ingressNews_holds
end Go.Proofs.YthoikbogkhpciaaGreatDoor
