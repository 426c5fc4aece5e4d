/- The law's own Make, of a plan that was made to be one. Conditions: none. (As in XFD, for a seat without egress.) -/
import Derived.Test.YthoikbogkhpciaaGreatDoorXF7
import Derived.Test.YthoikbogkhpciaaGreatDoorXP1
set_option linter.unusedVariables false
set_option linter.unusedSimpArgs false
set_option maxRecDepth 100000
namespace Go.Proofs.YthoikbogkhpciaaGreatDoorE
open Go Go.Proofs
section
variable {h h' : Heap} {F : Fb}
theorem Fresh.of_ext {h0 : Heap} {M : MemS} (H : Fresh h0 h F M) (x : Ext h h') : Fresh h0 h' F M :=
  ⟨H.fab.ext x, H.mem.ext x, H.t, H.low, H.high, H.len, H.b0, H.bv, H.big, H.locks, fun a b ha hb => ⟨x.blk (H.ring a b ha hb).1, (H.ring a b ha hb).2⟩, H.inj, H.g1, H.g2, H.g3, H.g4, H.ext.trans x, H.pr, x.blk H.dbk, H.sok⟩
theorem lMake_fix2 {A B : Option Addr} {ca cb : Nat} {rules : List Ru} {vls : List Vl} {s : Sz} {P tries ring normal short : Int} (hra : Row encRu 2 h A (fixRules P rules)) (hrb : Row encVl 3 h B (fixVlans P vls)) (wf : ∀ v ∈ vls, SetWf v.mem ∧ SetWf v.unt) :
    HCalls Tryz.prog 11 #[.agg (planV (fixPorts P) (.slice A (fixPorts P).toNat ca) (.slice B (fixVlans P vls).length cb) (fixSz s) (fixTries tries) (fixRing ring) normal short).toArray] h (fun v h' => ∃ F M, v = .pointer (some ⟨F.fb, 0, none⟩) ∧ fixPorts P = (F.P : Int) ∧ fixRing ring = (F.S : Int) ∧ F.P ≤ 8 ∧ Fresh h h' F M ∧ F.vls = fixVlans P vls ∧ F.rules = fixRules P rules ∧ F.s = fixSz s ∧ F.tries = fixTries tries) := by
  have pr := fixPorts_range P
  have tr := fixTries_range tries
  have rr := fixRing_range ring
  have hck := fix_check P rules vls s tries ring
  have hrl : (fixRules P rules).length = (fixPorts P).toNat := by unfold fixRules; simp
  have vl8 := fixVlans_len P vls
  have wfv : ∀ v ∈ fixVlans P vls, SetWf v.mem ∧ SetWf v.unt := fun v hv => fixVl_wf _ _ (fun v hv => wf v (List.mem_of_mem_take hv)) v hv
  obtain ⟨p, hp⟩ : ∃ p : Nat, fixPorts P = p := ⟨_, (Int.toNat_of_nonneg (by omega)).symm⟩
  obtain ⟨r, hr⟩ : ∃ r : Nat, fixRing ring = r := ⟨_, (Int.toNat_of_nonneg (by omega)).symm⟩
  rw [hp] at pr hck hrl ⊢
  rw [hr] at rr hck ⊢
  refine (lMake_specR hra hrl hrb rfl (by omega) (by omega) wfv hck (fixSz_ok s) (by omega) (by omega) (by omega) (by omega) (by omega) (by omega)).mono ?_
  rintro v h1 ⟨F, M, rfl, e1, e2, e3, e4, H⟩
  exact ⟨F, M, rfl, by rw [e1], by rw [e2], by omega, H, e3, e4⟩
end
end Go.Proofs.YthoikbogkhpciaaGreatDoorE
