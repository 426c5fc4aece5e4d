/- Entries in order, by who, beginning, end: program and document. Conditions: the arguments are of their types, and not too many. -/
import Derived.Test.YtcjoenkpibhmoaaGreatXJ0
set_option linter.unusedVariables false
set_option linter.unusedSimpArgs false
set_option maxRecDepth 100000
namespace Go.Proofs.YtcjoenkpibhmoaaGreatE
open Go Go.Proofs
def env_aOrd2 : Nat → Ann
  | 1 => ⟨.op 0 [] <| .op 1 [] <| .op 2 [] <| .op 3 [] <| .op 5 [] <| .op 6 [] <| .op 7 [] <| .op 8 [] <| .op 10 [] <| .op 11 [] <| .op 13 [] <| .op 14 [] <| .op 17 [] <| .op 18 [] <| .op 19 [] <| .op 20 [] <| .op 4 [6, 8, 10, 11, 13, 14, 18, 20] <| .op 9 [10, 11, 13, 14, 18, 20] <| .op 12 [13, 14, 18, 20] <| .op 15 [18, 20] <| .op 16 [18, 20] <| .op 21 [] <| .op 22 [] <| .op 23 [] <| .op 24 [] <| .nil, [0, 1, 0, 4, 15, 0, 32, 0, 128, 511, 0, 0, 4095, 0, 0, 32767, 65535, 0, 131072, 0, 524288, 2097151, 4194303, 8388607, 16777215], false⟩
  | _ => ⟨.nil, [], false⟩
def env_rOrdered : Nat → Ann
  | 7 => ⟨.op 0 [] <| .op 1 [] <| .op 2 [] <| .op 3 [] <| .op 4 [] <| .op 5 [] <| .op 6 [] <| .op 7 [] <| .op 8 [] <| .op 9 [] <| .op 10 [] <| .op 11 [] <| .op 12 [] <| .op 13 [] <| .nil, [0, 1, 3, 7, 7, 23, 63, 127, 7, 7, 775, 1799, 4095, 8191], false⟩
  | 9 => ⟨.op 0 [] <| .op 1 [] <| .op 2 [] <| .op 3 [] <| .op 4 [] <| .op 5 [] <| .op 6 [] <| .op 7 [] <| .op 8 [] <| .op 9 [] <| .op 10 [] <| .op 11 [] <| .op 12 [] <| .op 13 [] <| .op 14 [] <| .op 15 [] <| .op 16 [] <| .op 17 [] <| .nil, [0, 0, 2, 0, 0, 0, 0, 96, 224, 0, 0, 1024, 3584, 7680, 16359, 32743, 65535, 131071], false⟩
  | _ => ⟨.nil, [], false⟩
def opn (e : He) : Int := if e.fin = 0 then 1 else 0
/-- One is ahead of another one, by who, beginning, end. -/
def ltK (x y : He) : Prop := x.who < y.who ∨ (x.who = y.who ∧ (x.beg < y.beg ∨ (x.beg = y.beg ∧ (opn x < opn y ∨ (opn x = opn y ∧ x.fin < y.fin)))))
instance (x y : He) : Decidable (ltK x y) := by unfold ltK; infer_instance
def ltE (x y : EE) : Prop := ltK x.1 y.1
def bfE (x y : EE) : Prop := x.2 < y.2
theorem ltE_swo : Swo ltE := by
  refine ⟨fun x y h => ?_, fun x y z h k => ?_⟩
  · unfold ltE ltK at *; omega
  · unfold ltE ltK at *; omega
/-- The entries of a list in order. -/
structure IsOrdE (l : List He) (L : List EE) : Prop where
  perm : L.Perm l.zipIdx
  sorted : L.Pairwise (Lx ltE bfE)
theorem IsOrdE.one {l : List He} {L L' : List EE} (h : IsOrdE l L) (h' : IsOrdE l L') : L = L' :=
  pw_unique ltE_swo (fun x y a b => by unfold bfE at *; omega) (h.perm.trans h'.perm.symm) h.sorted h'.sorted
theorem IsOrdE.len {l : List He} {L : List EE} (h : IsOrdE l L) : L.length = l.length := by rw [h.perm.length_eq, List.length_zipIdx]
theorem zip_asc (l : List He) : ∀ k : Nat, (l.zipIdx k).Pairwise bfE := by
  induction l with
  | nil => intro k; exact List.Pairwise.nil
  | cons x l ih =>
    intro k
    rw [List.zipIdx_cons]
    refine List.pairwise_cons.2 ⟨fun y hy => ?_, ih (k + 1)⟩
    have := List.le_snd_of_mem_zipIdx hy
    unfold bfE; omega
theorem IsOrdE.wf {l : List He} {L : List EE} (h : IsOrdE l L) {p : He → Prop} (hp : ∀ e ∈ l, p e) : ∀ e ∈ L.map Prod.fst, p e := by
  intro e he
  obtain ⟨x, hx, rfl⟩ := List.mem_map.1 he
  have := h.perm.mem_iff.1 hx
  exact hp _ (List.fst_mem_of_mem_zipIdx this)
theorem ownE_fst {h : Heap} {A : Option Addr} {c base : Nat} {L : List EE} {T : TypeId} (o : OwnA encEn 19 T base h A c L) : OwnA encHe 19 T base h A c (L.map Prod.fst) := by
  rcases o with ⟨a, rfl, b⟩ | ⟨b, rest, e, hg, hb, hr, hc⟩
  · exact .inl ⟨a, rfl, b⟩
  · refine .inr ⟨b, rest, e, hg, ?_, by rw [List.length_map]; exact hr, by rw [List.length_map]; exact hc⟩
    rw [List.flatMap_map]; exact hb
theorem fst_ownE {h : Heap} {A : Option Addr} {c base : Nat} {l : List He} {T : TypeId} (o : OwnA encHe 19 T base h A c l) : OwnA encEn 19 T base h A c l.zipIdx := by
  have e : l.zipIdx.flatMap encEn = l.flatMap encHe := by
    have : l = l.zipIdx.map Prod.fst := by rw [List.zipIdx_map_fst]
    conv => rhs; rw [this, List.flatMap_map]
    rfl
  rcases o with ⟨a, rfl, b⟩ | ⟨b, rest, e', hg, hb, hr, hc⟩
  · exact .inl ⟨a, rfl, b⟩
  · refine .inr ⟨b, rest, e', hg, ?_, by rw [List.length_zipIdx]; exact hr, by rw [List.length_zipIdx]; exact hc⟩
    rw [e]; exact hb
def cmpI (x y : Int) : Int := if x < y then -1 else if y < x then 1 else 0
def orL : List Int → Int
  | [] => 0
  | x :: l => if x = 0 then orL l else x
theorem orL_next {l : List Int} {i : Nat} {x : Int} (h : l[i]? = some x) : orL (l.drop i) = if x = 0 then orL (l.drop (i + 1)) else x := by
  obtain ⟨hl, rfl⟩ := List.getElem?_eq_some_iff.1 h
  rw [List.drop_eq_getElem_cons hl]; rfl
theorem orL_ltK (a b : He) : orL [cmpI a.who b.who, cmpI a.beg b.beg, cmpI (opn a) (opn b), cmpI a.fin b.fin] < 0 ↔ ltK a b := by
  have e : ∀ x y : Int, (x < y ∧ cmpI x y = -1) ∨ (y < x ∧ cmpI x y = 1) ∨ (x = y ∧ cmpI x y = 0) := by
    intro x y
    unfold cmpI
    by_cases h1 : x < y
    · exact .inl ⟨h1, if_pos h1⟩
    · by_cases h2 : y < x
      · exact .inr (.inl ⟨h2, by rw [if_neg h1, if_pos h2]⟩)
      · exact .inr (.inr ⟨by omega, by rw [if_neg h1, if_neg h2]⟩)
  unfold ltK
  rcases e a.who b.who with ⟨h1, e1⟩ | ⟨h1, e1⟩ | ⟨h1, e1⟩
  · rw [e1]; constructor
    · intro _; exact .inl h1
    · intro _; exact (by decide : (-1 : Int) < 0)
  · rw [e1]; constructor
    · intro k; exact absurd (show (1 : Int) < 0 from k) (by decide)
    · intro k; omega
  rw [e1]
  rcases e a.beg b.beg with ⟨h2, e2⟩ | ⟨h2, e2⟩ | ⟨h2, e2⟩
  · rw [e2]; constructor
    · intro _; exact .inr ⟨h1, .inl h2⟩
    · intro _; exact (by decide : (-1 : Int) < 0)
  · rw [e2]; constructor
    · intro k; exact absurd (show (1 : Int) < 0 from k) (by decide)
    · intro k; omega
  rw [e2]
  rcases e (opn a) (opn b) with ⟨h3, e3⟩ | ⟨h3, e3⟩ | ⟨h3, e3⟩
  · rw [e3]; constructor
    · intro _; exact .inr ⟨h1, .inr ⟨h2, .inl h3⟩⟩
    · intro _; exact (by decide : (-1 : Int) < 0)
  · rw [e3]; constructor
    · intro k; exact absurd (show (1 : Int) < 0 from k) (by decide)
    · intro k; omega
  rw [e3]
  rcases e a.fin b.fin with ⟨h4, e4⟩ | ⟨h4, e4⟩ | ⟨h4, e4⟩
  · rw [e4]; constructor
    · intro _; exact .inr ⟨h1, .inr ⟨h2, .inr ⟨h3, h4⟩⟩⟩
    · intro _; exact (by decide : (-1 : Int) < 0)
  · rw [e4]; constructor
    · intro k; exact absurd (show (1 : Int) < 0 from k) (by decide)
    · intro k; omega
  · rw [e4]; constructor
    · intro k; exact absurd (show (0 : Int) < 0 from k) (by decide)
    · intro k; omega
section
variable {h : Heap}
theorem cOr_spec {A : Option Addr} {n c : Nat} {l : List Int} (hr : Row encI 1 h A l) (hl : l.length = n) (hn : n ≤ 1000) : HCalls Tryz.prog 76 #[.slice A n c] h (fun v h' => v = .int .i64 (orL l) ∧ h' = h) := by
  refine xcalls env0 Tryz.func76 rfl (by kernel_rfl) rfl (by kernel_rfl) ?_
  refine ⟨Nat, fun i => [(3, .int .i64 0), (6, .slice A n c), (7, .int .i64 n), (8, .int .i64 i)], fun i h' => (i ≤ n ∧ orL (l.drop i) = orL l) ∧ h' = h, fun i => n - i, 0, ⟨rfl, rfl, rfl, rfl, trivial⟩, ⟨⟨Nat.zero_le _, rfl⟩, rfl⟩, ?_⟩
  rintro i h2 ⟨⟨hi, ho⟩, rfl⟩
  refine xif_of (fun hlt => ?_) (fun hge => ?_)
  · have hlt : (i : Int) < n := of_decide_eq_true hlt
    obtain ⟨x, hx⟩ : ∃ x, l[i]? = some x := ⟨l[i]'(by omega), List.getElem?_eq_getElem (by omega)⟩
    obtain ⟨a, hA, hrd⟩ := hr i x hx
    have c1 := hrd.get 0 (v := .int .i64 x) rfl
    rw [add_zero'] at c1
    rw [orL_next hx] at ho
    refine ⟨a, hA, by omega, hlt, _, c1, ?_⟩
    refine xif_of (fun q => ?_) (fun q => ?_)
    · have q : ¬ x = 0 := by simpa using q
      rw [if_neg q] at ho
      exact ⟨congrArg (Value.int .i64) ho, rfl⟩
    · have q : x = 0 := by simpa using q
      rw [if_pos q] at ho
      exact ⟨i + 1, ⟨rfl, rfl, rfl, slot_inc (by omega), trivial⟩, ⟨⟨by omega, ho⟩, rfl⟩, by show n - (i + 1) < n - i; omega⟩
  · have hge : ¬ (i : Int) < n := of_decide_eq_false hge
    rw [List.drop_eq_nil_of_le (by omega)] at ho
    exact ⟨congrArg (Value.int .i64) ho, rfl⟩
theorem aOrd1_spec (e : He) : HCalls Tryz.prog 73 #[.agg (encHe e).toArray] h (fun v h' => v = .int .i64 (opn e) ∧ Ext h h') := by
  refine xcalls env0 Tryz.func73 rfl (by kernel_rfl) rfl (by kernel_rfl) ?_
  intro b h1 n1
  have hb : h1[b]? = some (.cells (encHe e).toArray 116 (0, 0)) := n1.this
  refine ⟨_, cell_blk hb rfl, ?_⟩
  unfold opn
  refine xif_of (fun q => ?_) (fun q => ?_)
  · have q : e.fin = 0 := by simpa using q
    exact ⟨by rw [if_pos q]; rfl, n1.ext⟩
  · have q : ¬ e.fin = 0 := by simpa using q
    exact ⟨by rw [if_neg q]; rfl, n1.ext⟩
theorem aOrd_cmp {lb : Nat} {T : TypeId} : CmpOkE ⟨h, lb, .cells [.func (.func 73) #[] #[]].toArray T (0, 0)⟩ ltE (fun _ => True) 75 lb := by
  refine ⟨fun h1 x y hb1 _ _ => ?_⟩
  have hb1 : h1[lb]? = some (.cells [.func (.func 73) #[] #[]].toArray T (0, 0)) := hb1
  refine xcalls env_aOrd2 Tryz.func75 rfl (by kernel_rfl) rfl (by kernel_rfl) ?_
  intro b1 h2 n2 b2 h3 n3
  have x1 := n2.ext.trans n3.ext
  have hx : h3[b1]? = some (.cells (encHe x.1).toArray 116 (0, 0)) := n3.ext.blk n2.this
  have hy : h3[b2]? = some (.cells (encHe y.1).toArray 116 (0, 0)) := n3.this
  have hb3 := x1.blk hb1
  refine ⟨_, cell_blk hx rfl, _, cell_blk hy rfl, _, cell_blk hx rfl, _, cell_blk hy rfl, _, cell_blk hb3 rfl, encHe x.1, rfl, reads_all hx, _, cell_blk hb3 rfl, encHe y.1, rfl, reads_all hy, _, cell_blk hx rfl, _, cell_blk hy rfl, ?_⟩
  refine (cCompare_spec _ _).mono ?_
  rintro v h4 ⟨rfl, rfl⟩
  refine ⟨⟨cell_blk hy rfl, cell_blk hx rfl, reads_all hy, cell_blk hb3 rfl, reads_all hx, cell_blk hb3 rfl, cell_blk hy rfl, cell_blk hx rfl, trivial⟩, ?_⟩
  refine (cCompare_spec _ _).mono ?_
  rintro v h5 ⟨rfl, rfl⟩
  refine ⟨⟨cell_blk hy rfl, cell_blk hx rfl, reads_all hy, cell_blk hb3 rfl, reads_all hx, cell_blk hb3 rfl, trivial⟩, ?_⟩
  refine (aOrd1_spec x.1).mono ?_
  rintro v h6 ⟨rfl, x6⟩
  have hx6 := x6.blk hx
  have hy6 := x6.blk hy
  have hb6 := x6.blk hb3
  refine ⟨⟨cell_blk hy6 rfl, cell_blk hx6 rfl, reads_all hy6, cell_blk hb6 rfl, trivial⟩, ?_⟩
  refine (aOrd1_spec y.1).mono ?_
  rintro v h7 ⟨rfl, x7⟩
  have hx7 := x7.blk hx6
  have hy7 := x7.blk hy6
  refine ⟨⟨cell_blk hy7 rfl, cell_blk hx7 rfl, trivial⟩, ?_⟩
  refine (cCompare_spec _ _).mono ?_
  rintro v h8 ⟨rfl, rfl⟩
  refine ⟨⟨cell_blk hy7 rfl, cell_blk hx7 rfl, trivial⟩, ?_⟩
  refine (cCompare_spec _ _).mono ?_
  rintro v h9 ⟨rfl, rfl⟩
  intro sb h10 n10
  have row : Row encI 1 h10 (some ⟨sb, 0, none⟩) [cmpI x.1.who y.1.who, cmpI x.1.beg y.1.beg, cmpI (opn x.1) (opn y.1), cmpI x.1.fin y.1.fin] := row_blk (rest := []) n10.this fun _ _ => rfl
  refine (cOr_spec row rfl (by show (4 : Nat) ≤ 1000; omega)).mono ?_
  rintro v h11 ⟨rfl, rfl⟩
  exact ⟨_, rfl, orL_ltK x.1 y.1, x1.trans (x6.trans (x7.trans n10.ext))⟩
theorem eClone_spec {A : Option Addr} {c n : Nat} {l : List He} (hr : Row encHe 19 h A l) (hl : l.length = n) (hn : n ≤ 2000) : HCalls Tryz.prog 72 #[.slice A n c] h (fun v h' => ∃ A' c', v = .slice A' n c' ∧ OwnA encHe 19 116 h.size h' A' c' l ∧ Ext h h') := by
  subst hl
  refine xcalls env0 Tryz.func72 rfl (by kernel_rfl) rfl (by kernel_rfl) ?_
  cases A with
  | none =>
    have : l = [] := by
      cases l with
      | nil => rfl
      | cons x l => obtain ⟨a, ha, _⟩ := hr 0 x rfl; cases ha
    subst this
    exact ⟨none, 0, rfl, .inl ⟨rfl, rfl, rfl⟩, Ext.refl _⟩
  | some a =>
    intro b1 h1 n1
    have own1 : OwnA encHe 19 116 h.size h1 (some ⟨b1, 0, none⟩) 0 ([] : List He) := .inr ⟨b1, [], rfl, n1.ge (Ext.refl _), n1.this, rfl, Nat.le_refl _⟩
    refine xappend_many (xs := []) (ys := l) heInfo heZero rfl (by decide) encHe_len encHe_one own1 rfl rfl (row_readsOf encHe_len (n1.ext.row hr)) (by omega) n1.ext.size fun A' c' h' o k => ?_
    exact ⟨A', c', by rw [Nat.zero_add]; rfl, o, k.ext n1.ext (fun b' e => by cases e; exact n1.ge (Ext.refl _))⟩
theorem aOrdered_spec {A : Option Addr} {c n : Nat} {l : List He} (hr : Row encHe 19 h A l) (hl : l.length = n) (hn : n ≤ 2000) : HCalls Tryz.prog 37 #[.slice A n c] h (fun v h' => ∃ A' c' L, v = .slice A' n c' ∧ IsOrdE l L ∧ OwnA encHe 19 116 h.size h' A' c' (L.map Prod.fst) ∧ Ext h h') := by
  refine xcalls env0 Tryz.func37 rfl (by kernel_rfl) rfl (by kernel_rfl) ?_
  refine (eClone_spec hr hl hn).mono ?_
  rintro v h1 ⟨A1, c1, rfl, o1, x1⟩
  intro lb h2 n2
  refine ⟨rfl, rfl, canset_blk n2.this rfl, fun h3 s3 => ?_⟩
  have hlb : h3[lb]? = some (.cells [.func (.func 73) #[] #[]].toArray _ (0, 0)) := n2.fill rfl s3
  have x13 : Ext h1 h3 := n2.ext.stored s3 (n2.ge (Ext.refl _))
  have off : ∀ b, A1 = some ⟨b, 0, none⟩ → b ≠ lb := by
    intro b e
    rcases o1 with ⟨e', _, _⟩ | ⟨b', rest, e', hg, hb, _⟩
    · rw [e'] at e; cases e
    · rw [e'] at e; cases e
      have := n2.lt hb
      omega
  have H : LstE ⟨h, lb, _⟩ h3 A1 c1 l.zipIdx := ⟨fst_ownE (o1.ext x13), x1.trans x13, hlb, off⟩
  refine (eSort_spec (bf := bfE) ltE_swo aOrd_cmp H (by rw [List.length_zipIdx, hl]) (by omega) (zip_asc l 0) (fun _ _ => trivial)).mono ?_
  rintro v h4 ⟨L, H4, p, s⟩
  exact ⟨A1, c1, L, rfl, ⟨p, s⟩, ownE_fst H4.own, H4.ext⟩
/-! ### The document's -/
theorem rBehind_spec (a b : He) : HCalls Tryz.prog 91 #[.agg (encHe a).toArray, .agg (encHe b).toArray] h (fun v h' => v = .bool (decide (ltK b a)) ∧ Ext h h') := by
  refine xcalls env0 Tryz.func91 rfl (by kernel_rfl) rfl (by kernel_rfl) ?_
  intro b1 h1 n1 b2 h2 n2
  have ha : h2[b1]? = some (.cells (encHe a).toArray 107 (0, 0)) := n2.ext.blk n1.this
  have hb : h2[b2]? = some (.cells (encHe b).toArray 107 (0, 0)) := n2.this
  have x02 := n1.ext.trans n2.ext
  have key : ∀ q : Bool, (q = true ↔ ltK b a) → q = decide (ltK b a) := fun q e => by rw [Bool.eq_iff_iff, decide_eq_true_iff]; exact e
  refine ⟨_, cell_blk ha rfl, _, cell_blk hb rfl, ?_⟩
  refine xif_of (fun q => ?_) (fun q => ?_)
  · have q : ¬ a.who = b.who := by simpa using q
    refine ⟨_, cell_blk ha rfl, _, cell_blk hb rfl, congrArg Value.bool (key _ ?_), x02⟩
    rw [decide_eq_true_iff]; unfold ltK; omega
  have q : a.who = b.who := by simpa using q
  refine ⟨_, cell_blk ha rfl, _, cell_blk hb rfl, ?_⟩
  refine xif_of (fun q2 => ?_) (fun q2 => ?_)
  · have q2 : ¬ a.beg = b.beg := by simpa using q2
    refine ⟨_, cell_blk ha rfl, _, cell_blk hb rfl, congrArg Value.bool (key _ ?_), x02⟩
    rw [decide_eq_true_iff]; unfold ltK; omega
  have q2 : a.beg = b.beg := by simpa using q2
  refine ⟨_, cell_blk ha rfl, ?_⟩
  refine xif_of (fun q3 => ?_) (fun q3 => ?_)
  · refine ⟨_, cell_blk ha rfl, ?_⟩
    refine xif_true q3 ?_
    have q3 : a.fin = 0 := by simpa using q3
    refine ⟨_, cell_blk hb rfl, congrArg Value.bool (key _ ?_), x02⟩
    unfold ltK opn
    rw [if_pos q3]
    split <;> simp <;> omega
  refine ⟨_, cell_blk hb rfl, ?_⟩
  refine xif_of (fun q4 => ?_) (fun q4 => ?_)
  · refine ⟨_, cell_blk ha rfl, ?_⟩
    refine xif_false q3 ?_
    have q3 : ¬ a.fin = 0 := by simpa using q3
    have q4 : b.fin = 0 := by simpa using q4
    refine ⟨congrArg Value.bool (key _ ?_), x02⟩
    unfold ltK opn
    rw [if_neg q3, if_pos q4]
    simp; omega
  · have q3 : ¬ a.fin = 0 := by simpa using q3
    have q4 : ¬ b.fin = 0 := by simpa using q4
    refine ⟨_, cell_blk ha rfl, _, cell_blk hb rfl, congrArg Value.bool (key _ ?_), x02⟩
    unfold ltK opn
    rw [if_neg q3, if_neg q4]
    simp; omega
theorem heInfoRo : (Tryz.prog.info? 107).map (fun i => (i.size, i.bytes)) = some (19, 144) := by kernel_rfl
theorem heZeroRo : xzero Tryz.prog 107 = some (encHe he0) := by kernel_rfl
theorem ownE_wr {T : TypeId} {base c i : Nat} {z : Int} {A : Option Addr} {L : List EE} (o : OwnA encEn 19 T base h A c L) (e : z = (i : Int)) (hi : i < L.length) (y : EE) : ∃ a, A = some a ∧ 0 ≤ z ∧ z < (L.length : Int) ∧ CanSet h (a.add (z.toNat * 19)) 19 ∧
    ∀ h', Stored h (a.add (z.toNat * 19)) (encEn y) h' → OwnA encEn 19 T base h' A c (L.set i y) ∧ ∀ h0, Ext h0 h → h0.size ≤ base → Ext h0 h' := by
  subst e
  obtain ⟨b, hA, hg, hcs⟩ := o.canset encEn_len (i := i) (j := 0) (n := 19) hi (by omega)
  obtain ⟨x, hx⟩ : ∃ x, L[i]? = some x := ⟨L[i], List.getElem?_eq_getElem hi⟩
  refine ⟨_, hA, by omega, by omega, ?_, fun h' s => ?_⟩
  · rw [add_lit, Int.toNat_natCast, Nat.zero_add]; exact hcs
  · rw [add_lit, Int.toNat_natCast, Nat.zero_add] at s
    exact ⟨o.put (j := 0) (vs := encEn y) encEn_len hA s hx (Nat.le_refl _) (lset_full (encEn y) (encEn x) rfl).symm, fun h0 x0 hb => x0.stored s (Nat.le_trans hb hg)⟩
/-- The entries of the first places, in order. -/
structure IsOrdN (l : List He) (n : Nat) (L : List EE) : Prop where
  perm : L.Perm (l.zipIdx.take n)
  sorted : L.Pairwise (Lx ltE bfE)
set_option maxHeartbeats 2000000 in
theorem rOrdered_spec {A : Option Addr} {n c : Nat} {l : List He} (hr : Row encHe 19 h A l) (hl : l.length = n) (hn : n ≤ 2000) :
    HCalls Tryz.prog 57 #[.slice A n c] h (fun v h' => ∃ A' c' L, v = .slice A' n c' ∧ IsOrdE l L ∧ OwnA encHe 19 107 h.size h' A' c' (L.map Prod.fst) ∧ Ext h h') := by
  refine xcalls env_rOrdered Tryz.func57 rfl (by kernel_rfl) rfl (by kernel_rfl) ?_
  refine ⟨Nat × Option Addr × Nat × List EE, fun z => [(0, .slice A n c), (3, .slice z.2.1 z.1 z.2.2.1), (4, .int .i64 z.1)],
    fun z h' => (z.1 ≤ n ∧ z.2.2.2.length = z.1) ∧ IsOrdN l z.1 z.2.2.2 ∧ OwnA encEn 19 107 h.size h' z.2.1 z.2.2.1 z.2.2.2 ∧ Ext h h', fun z => n - z.1, (0, none, 0, []), ⟨rfl, rfl, rfl, trivial⟩, ⟨⟨Nat.zero_le _, rfl⟩, ⟨List.Perm.refl _, List.Pairwise.nil⟩, .inl ⟨rfl, rfl, rfl⟩, Ext.refl _⟩, ?_⟩
  rintro ⟨i, B, d, O⟩ h2 ⟨⟨hi, hk⟩, hO, o2, x2⟩
  simp only at hi hk hO o2
  refine xif_of (fun hlt => ?_) (fun hge => ?_)
  rotate_left
  · have hge : ¬ (i : Int) < n := of_decide_eq_false hge
    obtain rfl : i = n := by omega
    refine ⟨B, d, O, rfl, ⟨?_, hO.sorted⟩, ownE_fst o2, x2⟩
    have := hO.perm
    rwa [List.take_of_length_le (by rw [List.length_zipIdx]; omega)] at this
  have hlt : (i : Int) < n := of_decide_eq_true hlt
  obtain ⟨u, hu⟩ : ∃ u, l[i]? = some u := ⟨l[i]'(by omega), List.getElem?_eq_getElem (by omega)⟩
  obtain ⟨a1, hA1, r1⟩ := (x2.row hr) i u hu
  have hz : l.zipIdx[i]? = some (u, i) := by rw [List.getElem?_zipIdx, hu]; simp
  refine ⟨a1, hA1, by omega, hlt, encHe u, rfl, r1, ?_⟩
  intro bs h3 n3
  refine xappend_one (x := ((u, i) : EE)) heInfoRo heZeroRo rfl (by decide) encEn_len encEn_one o2 n3 hk (by show (i + 1) * 144 ≤ _; omega) x2.size fun B' d' h4 o4 k4 => ?_
  have x4 := k4.ext x2 fun b hb => o2.ge b hb
  have ek : IntKind.i64.wrap (((i + 1 : Nat) : Int) - 1) = (i : Int) := by rw [wrap_i64 (by omega) (by omega)]; omega
  have mem : ∀ t ∈ O, t.2 < i := by
    intro t ht
    have := hO.perm.mem_iff.1 ht
    obtain ⟨j, hj⟩ := List.getElem?_of_mem this
    rw [List.getElem?_take] at hj
    split at hj
    · rw [List.getElem?_zipIdx] at hj
      cases hlj : l[j]? with
      | none => rw [hlj] at hj; cases hj
      | some v =>
        rw [hlj] at hj
        simp only [Option.map_some, Option.some.injEq] at hj
        rw [← hj]
        simp; omega
    · cases hj
  have fin : ∀ (X Y : List EE), O = X ++ Y → (∀ t ∈ Y, ltE (u, i) t) → (∀ y, X.getLast? = some y → ¬ ltE (u, i) y) → IsOrdN l (i + 1) (X ++ (u, i) :: Y) := by
    intro X Y e1 e2 e3
    refine ⟨?_, pw_insert ltE_swo (e1 ▸ hO.sorted) e2 e3 fun t ht => mem t (by rw [e1]; exact List.mem_append_left _ ht)⟩
    rw [← take_next hz]
    exact List.perm_middle.trans ((List.Perm.cons ((u, i) : EE) (e1 ▸ hO.perm)).trans (List.perm_append_comm (l₁ := [((u, i) : EE)])))
  refine ⟨Nat × List EE × List EE, fun y => [(0, .slice A n c), (3, .slice B' (i + 1) d'), (4, .int .i64 i), (5, .int .i64 y.1)],
    fun y h' => y.2.1.length = y.1 ∧ O = y.2.1 ++ y.2.2 ∧ (∀ t ∈ y.2.2, ltE (u, i) t) ∧ OwnA encEn 19 107 h.size h' B' d' (y.2.1 ++ (u, i) :: y.2.2) ∧ Ext h h', fun y => y.1,
    (i, O, []), ⟨rfl, rfl, rfl, congrArg (fun x => some (Value.int .i64 x)) ek, trivial⟩, ⟨hk, (List.append_nil _).symm, (fun t ht => by cases ht), o4, x4⟩, ?_⟩
  rintro ⟨j, X, Y⟩ h5 ⟨j1, hX, hY, o5, x5⟩
  simp only at j1 hX hY o5
  have hXl : O.length = X.length + Y.length := by rw [hX, List.length_append]
  have done : (X ++ (u, i) :: Y).length = i + 1 := by rw [List.length_append, List.length_cons]; omega
  refine xif_of (fun hgt => ?_) (fun hgt => ?_)
  rotate_left
  · have hgt : ¬ (j : Int) > 0 := of_decide_eq_false hgt
    obtain rfl : X = [] := List.length_eq_zero_iff.1 (by omega)
    have f := fin [] Y hX hY (fun y e => by cases e)
    exact ⟨(i + 1, B', d', [] ++ (u, i) :: Y), ⟨rfl, rfl, slot_inc (by omega), trivial⟩, ⟨⟨by show i + 1 ≤ n; omega, done⟩, f, o5, x5⟩, by show n - (i + 1) < n - i; omega⟩
  have hgt : (j : Int) > 0 := of_decide_eq_true hgt
  obtain ⟨X', y, rfl⟩ : ∃ X' y, X = X' ++ [y] := by
    rcases List.eq_nil_or_concat X with rfl | ⟨X', y, h⟩
    · simp only [List.length_nil] at j1; omega
    · exact ⟨X', y, by rw [h, List.concat_eq_append]⟩
  rw [List.length_append, List.length_singleton] at j1 hXl
  have shape : X' ++ [y] ++ (u, i) :: Y = X' ++ y :: (u, i) :: Y := by simp
  have o5' := o5
  rw [shape] at o5'
  have hlen : (X' ++ y :: (u, i) :: Y).length = i + 1 := by simp only [List.length_append, List.length_cons]; omega
  have ej : IntKind.i64.wrap ((j : Int) - 1) = ((j - 1 : Nat) : Int) := by rw [wrap_i64 (by omega) (by omega)]; omega
  have g1 : (X' ++ y :: (u, i) :: Y)[j - 1]? = some y := by rw [show j - 1 = X'.length by omega]; exact mem_len
  have g2 : (X' ++ y :: (u, i) :: Y)[j]? = some (u, i) := by rw [← shape, show j = (X' ++ [y]).length by rw [List.length_append, List.length_singleton]; omega]; exact mem_len
  obtain ⟨b1, hB1, r1⟩ := (o5'.row encEn_len) (j - 1) y g1
  obtain ⟨b2, hB2, r2⟩ := (o5'.row encEn_len) j (u, i) g2
  have r1' : Reads h5 (b1.add ((IntKind.i64.wrap ((j : Int) - 1)).toNat * 19)) (encHe y.1) := by rw [ej, Int.toNat_natCast]; exact r1
  refine ⟨b1, hB1, by rw [ej]; omega, by rw [ej]; omega, encHe y.1, rfl, r1', b2, hB2, by omega, by omega, encHe u, rfl, r2, ?_⟩
  refine (rBehind_spec y.1 u).mono ?_
  rintro v h6 ⟨rfl, x6⟩
  have x56 := x5.trans x6
  have o6 := o5'.ext x6
  refine xif_of (fun hlt2 => ?_) (fun hge2 => ?_)
  rotate_left
  · have hge2 : ¬ ltK u y.1 := of_decide_eq_false hge2
    have f := fin (X' ++ [y]) Y hX hY (fun y' e => by rw [List.getLast?_concat] at e; cases e; exact hge2)
    exact ⟨(i + 1, B', d', X' ++ [y] ++ (u, i) :: Y), ⟨rfl, rfl, slot_inc (by omega), trivial⟩, ⟨⟨by show i + 1 ≤ n; omega, done⟩, f, o5.ext x6, x56⟩, by show n - (i + 1) < n - i; omega⟩
  have hlt2 : ltK u y.1 := of_decide_eq_true hlt2
  obtain ⟨b1, hB1, r1⟩ := (o6.row encEn_len) (j - 1) y g1
  obtain ⟨b2, hB2, r2⟩ := (o6.row encEn_len) j (u, i) g2
  have r1' : Reads h6 (b1.add ((IntKind.i64.wrap ((j : Int) - 1)).toNat * 19)) (encHe y.1) := by rw [ej, Int.toNat_natCast]; exact r1
  refine ⟨b2, hB2, by omega, by omega, encHe u, rfl, r2, b1, hB1, by rw [ej]; omega, by rw [ej]; omega, encHe y.1, rfl, r1', ?_⟩
  obtain ⟨b3, hB3, l3, u3, cs3, H7⟩ := ownE_wr o6 ej (by rw [hlen]; omega) ((u, i) : EE)
  rw [hlen] at u3
  refine ⟨b3, hB3, l3, u3, rfl, rfl, cs3, fun h7 s7 => ?_⟩
  obtain ⟨o7, x7⟩ := H7 h7 s7
  have x7 := x7 h x56 (Nat.le_refl _)
  obtain ⟨b4, hB4, l4, u4, cs4, H8⟩ := ownE_wr o7 (z := (j : Int)) (i := j) rfl (by rw [List.length_set, hlen]; omega) y
  rw [List.length_set, hlen] at u4
  refine ⟨b4, hB4, l4, u4, rfl, rfl, cs4, fun h8 s8 => ?_⟩
  obtain ⟨o8, x8⟩ := H8 h8 s8
  have x8 := x8 h x7 (Nat.le_refl _)
  have es := swap_next' (R := Y) (x := y) (z := ((u, i) : EE)) (show X'.length = j - 1 by omega)
  rw [show j - 1 + 1 = j by omega] at es
  rw [es] at o8
  refine ⟨(j - 1, X', y :: Y), ⟨rfl, rfl, rfl, congrArg (fun x => some (Value.int .i64 x)) ej, trivial⟩, ⟨by show X'.length = j - 1; omega, by rw [hX]; simp, (fun t ht => ?_), o8, x8⟩, by show j - 1 < j; omega⟩
  rcases List.mem_cons.1 ht with rfl | ht
  · exact hlt2
  · exact hY t ht
end
end Go.Proofs.YtcjoenkpibhmoaaGreatE
