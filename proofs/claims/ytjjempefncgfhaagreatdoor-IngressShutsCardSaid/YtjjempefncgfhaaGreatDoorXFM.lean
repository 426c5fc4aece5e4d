/- The law's own Make, of a plan that was made to be one. Conditions: none. (As in XFD, for a seat without egress.) -/
import Derived.Test.YtjjempefncgfhaaGreatDoorXF6
import Derived.Test.YtjjempefncgfhaaGreatDoorXP1
set_option linter.unusedVariables false
set_option linter.unusedSimpArgs false
set_option maxRecDepth 100000
namespace Go.Proofs.YtjjempefncgfhaaGreatDoorE
open Go Go.Proofs
section
variable {h h' : Heap} {F : Fb}
theorem Fresh.of_ext {h0 : Heap} {M : MemS} (H : Fresh h0 h F M) (x : Ext h h') : Fresh h0 h' F M :=
  ⟨H.fab.ext x, H.mem.ext x, H.t, H.low, H.high, H.len, H.b0, H.bv, H.big, H.locks, fun a b ha hb => ⟨x.blk (H.ring a b ha hb).1, (H.ring a b ha hb).2⟩, H.inj, H.g1, H.g2, H.g3, H.g4, H.ext.trans x, H.pr, x.blk H.dbk, H.sok, H.vl, H.mid, H.bz⟩
theorem lMake_fixR {A B : Option Addr} {ca cb : Nat} {rules : List Ru} {vls : List Vl} {s : Sz} {P tries ring normal short : Int} (hra : Row encRu 2 h A (fixRules P rules)) (hrb : Row encVl 3 h B (fixVlans P vls)) (wf : ∀ v ∈ vls, SetWf v.mem ∧ SetWf v.unt) :
    HCalls Tryz.prog 8 #[.agg (planV (fixPorts P) (.slice A (fixPorts P).toNat ca) (.slice B (fixVlans P vls).length cb) (fixSz s) (fixTries tries) (fixRing ring) normal short).toArray] h (fun v h' => ∃ F M, v = .pointer (some ⟨F.fb, 0, none⟩) ∧ fixPorts P = (F.P : Int) ∧ fixRing ring = (F.S : Int) ∧ F.P ≤ 8 ∧ Fresh h h' F M ∧ F.vls = fixVlans P vls ∧ F.rules = fixRules P rules ∧ F.s = fixSz s ∧ F.tries = fixTries tries) := by
  have pr := fixPorts_range P
  have tr := fixTries_range tries
  have rr := fixRing_range ring
  have hck := fix_check P rules vls s tries ring
  have hrl : (fixRules P rules).length = (fixPorts P).toNat := by unfold fixRules; simp
  have vl8 := fixVlans_len P vls
  have wfv : ∀ v ∈ fixVlans P vls, SetWf v.mem ∧ SetWf v.unt := fun v hv => fixVl_wf _ _ (fun v hv => wf v (List.mem_of_mem_take hv)) v hv
  obtain ⟨p, hp⟩ : ∃ p : Nat, fixPorts P = p := ⟨_, (Int.toNat_of_nonneg (by omega)).symm⟩
  obtain ⟨r, hr⟩ : ∃ r : Nat, fixRing ring = r := ⟨_, (Int.toNat_of_nonneg (by omega)).symm⟩
  rw [hp] at pr hck hrl ⊢
  rw [hr] at rr hck ⊢
  refine (lMake_specR hra hrl hrb rfl (by omega) (by omega) wfv hck (fixSz_ok s) (by omega) (by omega) (by omega) (by omega) (by omega) (by omega)).mono ?_
  rintro v h1 ⟨F, M, rfl, e1, e2, e3, e4, H⟩
  exact ⟨F, M, rfl, by rw [e1], by rw [e2], by omega, H, e3, e4⟩
theorem lMake_fix2 {A B : Option Addr} {ca cb : Nat} {rules : List Ru} {vls : List Vl} {s : Sz} {P tries ring normal short : Int} (hra : Row encRu 2 h A (fixRules P rules)) (hrb : Row encVl 3 h B (fixVlans P vls)) (wf : ∀ v ∈ vls, SetWf v.mem ∧ SetWf v.unt) :
    HCalls Tryz.prog 8 #[.agg (planV (fixPorts P) (.slice A (fixPorts P).toNat ca) (.slice B (fixVlans P vls).length cb) (fixSz s) (fixTries tries) (fixRing ring) normal short).toArray] h (fun v h' => ∃ F M, v = .pointer (some ⟨F.fb, 0, none⟩) ∧ fixPorts P = (F.P : Int) ∧ fixRing ring = (F.S : Int) ∧ F.P ≤ 8 ∧ Fresh h h' F M ∧ F.vls = fixVlans P vls) := by
  refine (lMake_fixR hra hrb wf).mono ?_
  rintro v h1 ⟨F, M, rfl, e1, e2, e3, H, e4, _⟩
  exact ⟨F, M, rfl, e1, e2, e3, H, e4⟩
theorem lMake_fix {A B : Option Addr} {ca cb : Nat} {rules : List Ru} {vls : List Vl} {s : Sz} {P tries ring normal short : Int} (hra : Row encRu 2 h A (fixRules P rules)) (hrb : Row encVl 3 h B (fixVlans P vls)) (wf : ∀ v ∈ vls, SetWf v.mem ∧ SetWf v.unt) :
    HCalls Tryz.prog 8 #[.agg (planV (fixPorts P) (.slice A (fixPorts P).toNat ca) (.slice B (fixVlans P vls).length cb) (fixSz s) (fixTries tries) (fixRing ring) normal short).toArray] h (fun v h' => ∃ F M, v = .pointer (some ⟨F.fb, 0, none⟩) ∧ fixPorts P = (F.P : Int) ∧ fixRing ring = (F.S : Int) ∧ F.P ≤ 8 ∧ Fresh h h' F M) := by
  refine (lMake_fix2 hra hrb wf).mono ?_
  rintro v h1 ⟨F, M, rfl, e1, e2, e3, H, _⟩
  exact ⟨F, M, rfl, e1, e2, e3, H⟩
theorem hsInfo : (Tryz.prog.info? 150).map (fun i => (i.size, i.bytes)) = some (19, 144) := by kernel_rfl
theorem hsZero : xzero Tryz.prog 150 = some (encHe he0) := by kernel_rfl
theorem KeepA.toChg {h h' : Heap} {A : Option Addr} {α : Type} {enc : α → List Value} {sz : Nat} {T : TypeId} {base c : Nat} {xs : List α} (k : KeepA A h h') (o : OwnA enc sz T base h A c xs) : ∃ l, Chg l h h' ∧ ∀ p ∈ l, p.2 = T ∧ base ≤ p.1 := by
  cases hA : A with
  | none =>
    subst hA
    have e : ∀ j, j < h.size → h'[j]? = h[j]? := fun j hj => k.old j hj (by simp)
    exact ⟨[], ⟨k.size, fun j hj _ => e j hj, fun j cs T f hj _ => (e j (blk_lt hj)).trans hj⟩, by simp⟩
  | some a =>
    rcases o with ⟨h1, _⟩ | ⟨b, rest, h1, hg, hb, _⟩
    · rw [hA] at h1; cases h1
    · rw [hA] at h1
      cases h1
      subst hA
      refine ⟨[(b, T)], ⟨k.size, fun j hj hn => k.old j hj fun e => hn _ (.head _) (by injection e with e; injection e), fun j cs T' f hj hn => ?_⟩, fun p hp => by simp at hp; subst hp; exact ⟨rfl, hg⟩⟩
      by_cases e : j = b
      · subst e
        rw [hb] at hj
        injection hj with e1
        injection e1 with _ e2
        subst e2
        exact absurd (.head _) hn
      · exact (k.old j (blk_lt hj) fun q => e (by injection q with q; injection q with q; exact q.symm)).trans hj
/-- The number is out of its ring. -/
theorem hClone_spec {base : Nat} {A : Option Addr} {c n : Nat} {l : List He} (own : OwnA encHe 19 150 base h A c l) (hl : l.length = n) (hn : n ≤ 100000) : HCalls Tryz.prog 53 #[.slice A n c] h (fun v h' => ∃ A' c', v = .slice A' n c' ∧ OwnA encHe 19 150 h.size h' A' c' l ∧ Ext h h') := by
  subst hl
  refine xcalls env0 Tryz.func53 rfl (by kernel_rfl) rfl (by kernel_rfl) ?_
  cases A with
  | none =>
    rcases own with ⟨_, rfl, rfl⟩ | ⟨_, _, e, _⟩
    · exact ⟨none, 0, rfl, .inl ⟨rfl, rfl, rfl⟩, Ext.refl _⟩
    · cases e
  | some a =>
    intro b1 h1 n1
    have own1 : OwnA encHe 19 150 h.size h1 (some ⟨b1, 0, none⟩) 0 ([] : List He) := .inr ⟨b1, [], rfl, n1.ge (Ext.refl _), n1.this, rfl, Nat.le_refl _⟩
    refine xappend_many (xs := []) (ys := l) hsInfo hsZero rfl (by decide) encHe_len encHe_one own1 rfl rfl ((own.ext n1.ext).reads) (by omega) n1.ext.size fun A' c' h' o k => ?_
    exact ⟨A', c', by rw [Nat.zero_add]; rfl, o, k.ext n1.ext (fun b' e => by cases e; exact n1.ge (Ext.refl _))⟩
theorem mod_put {x : Int} {P r : Nat} (hP : 0 < P) (hp : P ≤ 64) (h : x % 18446744073709551616 % P = (r : Int)) : IntKind.i64.wrap ((IntKind.u64.wrap x).tmod (IntKind.u64.wrap (P : Int))) = (r : Int) := by
  have h3 := Int.emod_lt_of_pos (x % 18446744073709551616) (show (0 : Int) < P by omega)
  rw [IntKind.wrap_u64, wrap_u64 (x := (P : Int)) (by omega) (by omega), Int.tmod_eq_emod_of_nonneg (by omega), h, wrap_i64 (by omega) (by omega)]
end
end Go.Proofs.YtjjempefncgfhaaGreatDoorE
