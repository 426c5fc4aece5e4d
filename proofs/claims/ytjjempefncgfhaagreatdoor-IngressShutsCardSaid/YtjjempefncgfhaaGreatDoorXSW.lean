/- The document's model stands while a fabric changes, and a fabric while the document's model does something. Conditions: nothing waits in the document's model. -/
import Derived.Test.YtjjempefncgfhaaGreatDoorXSG
import Derived.Test.YtjjempefncgfhaaGreatDoorXW5
set_option linter.unusedVariables false
set_option linter.unusedSimpArgs false
set_option maxRecDepth 100000
namespace Go.Proofs.YtjjempefncgfhaaGreatDoorE
open Go Go.Proofs
/-- What the document's model changes. -/
def TyW : List TypeId := [168, 120, 171, 64]
section
variable {B base : Nat} {TY : List TypeId} {G : Nat → Prop} {h h' : Heap} {m : Nat} {D : Dat} {p : Pl} {M M' : Md}
theorem ChgT.frX (c : ChgT B TY h h') : Fr (fun k => ¬ ∃ cs T f, h[k]? = some (.cells cs T f) ∧ T ∉ TY) h h' :=
  ⟨c.size, fun k hk hn => by
    have hn : ∃ cs T f, h[k]? = some (.cells cs T f) ∧ T ∉ TY := Classical.byContradiction hn
    obtain ⟨cs, T, f, e, n⟩ := hn
    rw [c.typ k cs T f e n, e]⟩
theorem offX {T : TypeId} (n : T ∉ TY) : Off (fun k => ¬ ∃ cs T f, h[k]? = some (.cells cs T f) ∧ T ∉ TY) h T := by
  intro k c e g hk hc he
  subst he
  exact hk ⟨c, e, g, hc, n⟩
theorem MdR.chgT (H : MdR base (fun _ => False) h m D p M) (c : ChgT B TY h h') (n1 : 157 ∉ TY) (n2 : 168 ∉ TY) (n3 : 120 ∉ TY) (n4 : 163 ∉ TY) (n5 : 171 ∉ TY) (n6 : 242 ∉ TY) (n7 : 158 ∉ TY) (n8 : 64 ∉ TY) : MdR base (fun _ => False) h' m D p M :=
  WdAt.fr H c.frX (offX n1) (offX n2) (offX n3) (offX n4) (offX n5) (offX n6) (offX n7) (offX n8) (fun _ h => h.elim)
theorem DidR.chgT (W : MdR base G h m D p M) (hb : B ≤ base) (d : DidR base G h m D p M' h') : ChgT B TyW h h' := by
  obtain ⟨G', _, _, f⟩ := d
  have hm : base < h.size := Nat.lt_of_le_of_lt W.ge (blk_lt W.blk)
  refine ⟨f.size, fun k hk => f.old k (by omega) fun hz => ?_, fun k cs T g e n => f.blk e fun hz => ?_⟩
  · have := W.geZ k hz
    omega
  · have o := W.off (T := T) (fun e => n (by rw [← e]; simp [TyW])) (fun e => n (by rw [← e]; simp [TyW])) (fun e => n (by rw [← e]; simp [TyW])) (fun e => n (by rw [← e]; simp [TyW]))
    exact o k cs T g hz e rfl
theorem MdR.chgP (H : MdR base G h m D p M) (c : ChgT B TY h h') (hG : ∀ b, G b → h'[b]? = h[b]?) (n1 : 157 ∉ TY) (n2 : 168 ∉ TY) (n3 : 120 ∉ TY) (n4 : 163 ∉ TY) (n5 : 171 ∉ TY) (n6 : 242 ∉ TY) (n7 : 158 ∉ TY) (n8 : 64 ∉ TY) : MdR base G h' m D p M := by
  have hX : ∀ T : TypeId, T ∉ TY → Off (fun k => (¬ ∃ cs T f, h[k]? = some (.cells cs T f) ∧ T ∉ TY) ∧ ¬ G k) h T := fun T n k c e g hk hc he => offX n k c e g hk.1 hc he
  refine WdAt.fr H (X := fun k => (¬ ∃ cs T f, h[k]? = some (.cells cs T f) ∧ T ∉ TY) ∧ ¬ G k) ⟨c.size, fun k hk hn => ?_⟩ (hX _ n1) (hX _ n2) (hX _ n3) (hX _ n4) (hX _ n5) (hX _ n6) (hX _ n7) (hX _ n8) (fun b hb h => h.2 hb)
  by_cases g : G k
  · exact hG k g
  · exact c.frX.old k hk fun h => hn ⟨h, g⟩
/-- The lists of what waits in a model, by name. -/
theorem MdR.prot (W : MdR base G h m D p M) : ∃ (pr : List (Nat × Array Value)) (G2 : Nat → Prop), MdR base G2 h m D p M ∧ (∀ q ∈ pr, h[q.1]? = some (.cells q.2 3 (0, 0)) ∧ base ≤ q.1) ∧ ∀ b, G2 b → ∃ c, (b, c) ∈ pr := by
  obtain ⟨R, S, h1, h2, h3, h4⟩ := W.queues.holds
  let f : Sl → Option (Nat × Array Value) := fun r => match r.a with
    | some a => (match h[a.block]? with
      | some (.cells c _ _) => some (a.block, c)
      | _ => none)
    | none => none
  refine ⟨(List.range p.ports.toNat).flatMap fun i => (S i).filterMap f, fun b => G b ∧ ∃ (i j : Nat) (r : Sl), (i : Int) < p.ports ∧ (S i)[j]? = some r ∧ r.a = some ⟨b, 0, none⟩, ?_, ?_, ?_⟩
  · refine ⟨W.ge, fun b hb => W.geG b hb.1, fun b hb => W.tyG b hb.1, W.inj, W.blk, W.stands, W.vlans, W.book, ⟨R, S, h1, h2, h3, fun i j r hi hr => ?_⟩⟩
    obtain ⟨e1, e2, e3⟩ := h4 i j r hi hr
    exact ⟨e1, e2, fun b hb => ⟨e3 b hb, i, j, r, hi, hr, hb⟩⟩
  · intro q hq
    obtain ⟨i, hi, hq⟩ := List.mem_flatMap.1 hq
    obtain ⟨r, hr, hf⟩ := List.mem_filterMap.1 hq
    obtain ⟨j, hj⟩ := List.getElem?_of_mem hr
    have hip := List.mem_range.1 hi
    obtain ⟨e1, e2, e3⟩ := h4 i j r (by omega) hj
    rcases e2 with ⟨ea, _, _⟩ | ⟨b, rest, ea, hg, hb, _, _⟩
    · simp only [f, ea] at hf
      cases hf
    · simp only [f, ea, hb] at hf
      cases hf
      exact ⟨hb, hg⟩
  · rintro b ⟨_, i, j, r, hi, hr, hb⟩
    obtain ⟨e1, e2, e3⟩ := h4 i j r hi hr
    rcases e2 with ⟨ea, _, _⟩ | ⟨b', rest, ea, hg, hbb, _, _⟩
    · rw [ea] at hb; cases hb
    · rw [ea] at hb
      cases hb
      have hf : ∃ c, f r = some (b, c) := ⟨_, by simp only [f, ea, hbb]; rfl⟩
      obtain ⟨c, hf⟩ := hf
      exact ⟨c, List.mem_flatMap.2 ⟨i, List.mem_range.2 (by omega), List.mem_filterMap.2 ⟨r, List.mem_of_getElem? hr, hf⟩⟩⟩
end
end Go.Proofs.YtjjempefncgfhaaGreatDoorE
