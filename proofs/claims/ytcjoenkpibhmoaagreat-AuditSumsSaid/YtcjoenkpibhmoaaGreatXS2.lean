/- What the law AuditSums answers: yes. Conditions: the argument is of its type. -/
import Derived.Test.YtcjoenkpibhmoaaGreatXS1
set_option linter.unusedVariables false
set_option linter.unusedSimpArgs false
set_option maxRecDepth 100000
namespace Go.Proofs.YtcjoenkpibhmoaaGreatE
open Go Go.Proofs
def env_lSums : Nat → Ann
  | 15 => ⟨.nil, [], true⟩
  | 16 => ⟨.op 0 [] <| .op 1 [] <| .op 2 [] <| .op 5 [] <| .op 3 [5] <| .op 4 [5] <| .op 6 [] <| .op 7 [] <| .op 8 [] <| .nil, [0, 1, 3, 7, 15, 3, 63, 127, 255], true⟩
  | _ => ⟨.nil, [], false⟩
section
variable {h : Heap}
theorem OwnA.keepO {α : Type} {enc : α → List Value} {sz : Nat} {T : TypeId} {base : Nat} {h h' : Heap} {A A' : Option Addr} {c : Nat} {xs : List α} (o : OwnA enc sz T base h A c xs) (k : KeepA A' h h') (ne : ∀ b, A = some ⟨b, 0, none⟩ → A' ≠ some ⟨b, 0, none⟩) : OwnA enc sz T base h' A c xs := by
  rcases o with ⟨a, b, d⟩ | ⟨b, rest, rfl, hg, hb, hr, hc⟩
  · exact .inl ⟨a, b, d⟩
  · exact .inr ⟨b, rest, rfl, hg, k.blk hb (ne b rfl), hr, hc⟩
theorem cnInfoR : (Tryz.prog.info? 58).map (fun i => (i.size, i.bytes)) = some (6, 48) := by kernel_rfl
theorem cnZeroR : xzero Tryz.prog 58 = some (encCn cn0) := by kernel_rfl
theorem crInfoR : (Tryz.prog.info? 36).map (fun i => (i.size, i.bytes)) = some (1, 24) := by kernel_rfl
theorem crZeroR : xzero Tryz.prog 36 = some (encCr ⟨none, 0, 0, []⟩) := by kernel_rfl
/-- What the law holds while it gathers: a report of its own, and a sum. -/
structure SS (base : Nat) (h : Heap) (pb wb : Nat) (PA : Option Addr) (pa : Nat) (PB : Option Addr) (pc : Nat) (KA : Option Addr) (kc : Nat) (kl : List Cr) (a : Cn) : Prop where
  few : kl.length ≤ 10
  rep : h[pb]? = some (.cells (encRp (rpW toldQ PA pa PB pc none 0 0 [] none 0 0 [] none 0 0 [] none 0 0 [] KA kl.length kc kl)).toArray 35 (0, 0))
  sum : h[wb]? = some (.cells (encCn a).toArray 57 (0, 0))
  own : OwnA encCr 1 36 base h KA kc kl
  rows : ∀ x ∈ kl, OwnA encCn 6 58 base h x.A x.c x.l ∧ x.l.length = x.n ∧ x.n ≤ 10
  oR : OwnA encRu 2 93 base h PA pa (fixRules 0 [])
  oV : OwnA encVl 3 96 base h PB pc (fixVlans 0 [])
section
variable {base : Nat} {h h' : Heap} {pb wb : Nat} {PA : Option Addr} {pa : Nat} {PB : Option Addr} {pc : Nat} {KA : Option Addr} {kc : Nat} {kl : List Cr} {a : Cn}
theorem SS.ext (H : SS base h pb wb PA pa PB pc KA kc kl a) (x : Ext h h') : SS base h' pb wb PA pa PB pc KA kc kl a :=
  ⟨H.few, x.blk H.rep, x.blk H.sum, H.own.ext x, fun y hy => ⟨(H.rows y hy).1.ext x, (H.rows y hy).2⟩, H.oR.ext x, H.oV.ext x⟩
theorem SS.put {a' : Cn} (H : SS base h pb wb PA pa PB pc KA kc kl a) (s : Stored h ⟨wb, 0, none⟩ (encCn a') h') : SS base h' pb wb PA pa PB pc KA kc kl a' :=
  ⟨H.few, s.blk H.rep fun e => by
    have e : pb = wb := e
    have r := H.rep
    rw [e, H.sum] at r
    injection r with e1
    injection e1 with _ e2
    exact absurd e2 (by decide), s.fill0 H.sum rfl, H.own.storeT s H.sum (by decide), fun y hy => ⟨(H.rows y hy).1.storeT s H.sum (by decide), (H.rows y hy).2⟩, H.oR.storeT s H.sum (by decide), H.oV.storeT s H.sum (by decide)⟩
theorem SS.keep {b2 : Nat} {JA : Option Addr} {jc : Nat} {jl : List Cn} (H : SS base h pb wb PA pa PB pc KA kc kl a) (o : OwnA encCn 6 58 b2 h JA jc jl) (k : KeepA JA h h') (lt : ∀ x ∈ kl, ∀ b, x.A = some ⟨b, 0, none⟩ → b < b2) : SS base h' pb wb PA pa PB pc KA kc kl a :=
  ⟨H.few, o.blkKeep k H.rep (by decide), o.blkKeep k H.sum (by decide), H.own.keepT o k (by decide), fun y hy => ⟨(H.rows y hy).1.keepO k fun b e e' => by
    have := o.ge b e'
    have := lt y hy b e
    omega, (H.rows y hy).2⟩, H.oR.keepT o k (by decide), H.oV.keepT o k (by decide)⟩
end
theorem sums_era : ∀ (l : List Cr) (a : Cn), sumsM a (l.map eraR) = sumsM a l
  | [], _ => rfl
  | x :: l, a => sums_era l (sumR a x.l)
set_option maxHeartbeats 4000000 in
theorem lSums_spec {A : Option Addr} {n c : Nat} {rows : List Cr} (hR : Row encCr 1 h A rows) (hl : rows.length = n) (hr : ∀ x ∈ rows, CrOk h x) : HCalls Tryz.prog 4 #[.slice A n c] h (fun v h' => v = .bool true ∧ Ext h h') := by
  refine xcalls env_lSums Tryz.func4 rfl (by kernel_rfl) rfl (by kernel_rfl) ?_
  have wf : ∀ v ∈ ([] : List Vl), SetWf v.mem ∧ SetWf v.unt := fun v hv => by cases hv
  refine (rPFix_spec (rules := []) (vls := []) (s := ⟨0, 0, 0⟩) (P := 0) (tries := 0) (ring := 0) (normal := 0) (short := 0) (A := none) (B := none) (ca := 0) (cb := 0) Row.nil rfl Row.nil rfl wf).mono ?_
  rintro v h1 ⟨PA, pa, PB, pb', rfl, oR, oV, x1⟩
  have oR : OwnA encRu 2 _ h.size h1 PA pa (fixRules 0 []) := oR
  have oV : OwnA encVl 3 _ h.size h1 PB pb' (fixVlans 0 []) := oV
  intro pb h2 n2
  refine ⟨rfl, rfl, canset_blk n2.this rfl, fun h3 s3 => ?_⟩
  have hpb : h3[pb]? = some (.cells (encRp (rpW toldQ PA pa PB pb' none 0 0 [] none 0 0 [] none 0 0 [] none 0 0 [] none 0 0 [])).toArray 35 (0, 0)) := n2.fill rfl s3
  have x13 : Ext h1 h3 := n2.ext.stored s3 (n2.ge (Ext.refl _))
  intro wb h4 n4
  have hwb : h4[wb]? = some (.cells (encCn cn0).toArray 57 (0, 0)) := n4.this
  have x14 := x13.trans n4.ext
  have x4 := x1.trans x14
  have pge : h.size ≤ pb := n2.ge x1
  have wge : h.size ≤ wb := n4.ge (x1.trans x13)
  have hpb4 := n4.ext.blk hpb
  have S4 : SS h.size h4 pb wb PA pa PB pb' none 0 [] cn0 := ⟨by decide, hpb4, hwb, .inl ⟨rfl, rfl, rfl⟩, fun x hx => absurd hx List.not_mem_nil, oR.ext x14, oV.ext x14⟩
  refine ⟨Option Addr × Nat × List Cr, fun z => [(3, .pointer (some ⟨pb, 0, none⟩)), (4, .pointer (some ⟨wb, 0, none⟩))], fun z h' => SS h.size h' pb wb PA pa PB pb' z.1 z.2.1 z.2.2 (sumsM cn0 z.2.2) ∧ Ext h h', ?_, ?_⟩
  · refine ⟨Nat × Option Addr × Nat × List Cr, fun z => [(0, .slice A n c), (3, .pointer (some ⟨pb, 0, none⟩)), (4, .pointer (some ⟨wb, 0, none⟩)), (5, .int .i64 z.1)], fun z h' => (z.2.2.2.length = z.1 ∧ z.1 ≤ 10) ∧ SS h.size h' pb wb PA pa PB pb' z.2.1 z.2.2.1 z.2.2.2 (sumsM cn0 z.2.2.2) ∧ Ext h h', fun z => 10 - z.1, (0, none, 0, []), ⟨rfl, rfl, rfl, rfl, trivial⟩, ⟨⟨rfl, Nat.zero_le _⟩, S4, x4⟩, ?_⟩
    rintro ⟨i, KA, kc, kl⟩ h5 ⟨⟨hkl, hi10⟩, S5, x5⟩
    simp only at hkl hi10 S5
    refine xif_of (fun hlt => ?_) (fun hge => ?_)
    rotate_left
    · exact ⟨(KA, kc, kl), ⟨rfl, rfl, trivial⟩, S5, x5⟩
    have hlt : (i : Int) < n := of_decide_eq_true hlt
    refine xif_of (fun hlt2 => ?_) (fun hge2 => ?_)
    rotate_left
    · exact ⟨(KA, kc, kl), ⟨rfl, rfl, trivial⟩, S5, x5⟩
    have hlt2 : (i : Int) < 10 := of_decide_eq_true hlt2
    obtain ⟨row, hrow⟩ : ∃ row, rows[i]? = some row := ⟨rows[i]'(by omega), List.getElem?_eq_getElem (by omega)⟩
    have RO := hr row (List.mem_of_getElem? hrow)
    have rl := RO.len
    have lt5 : ∀ x ∈ kl, ∀ b, x.A = some ⟨b, 0, none⟩ → b < h5.size := fun x hx b e => own_lt (S5.rows x hx).1 e
    refine ⟨Nat × Option Addr × Nat × List Cn, fun z => [(0, .slice A n c), (3, .pointer (some ⟨pb, 0, none⟩)), (4, .pointer (some ⟨wb, 0, none⟩)), (5, .int .i64 i), (6, .slice z.2.1 z.1 z.2.2.1)], fun z h' => (z.2.2.2.length = z.1 ∧ z.1 ≤ 10) ∧ SS h.size h' pb wb PA pa PB pb' KA kc kl (sumR (sumsM cn0 kl) z.2.2.2) ∧ OwnA encCn 6 58 h5.size h' z.2.1 z.2.2.1 z.2.2.2 ∧ h5.size ≤ h'.size ∧ Ext h h', ?_, ?_⟩
    · refine ⟨Nat × Option Addr × Nat × List Cn, fun z => [(0, .slice A n c), (3, .pointer (some ⟨pb, 0, none⟩)), (4, .pointer (some ⟨wb, 0, none⟩)), (5, .int .i64 i), (6, .slice z.2.1 z.1 z.2.2.1), (7, .int .i64 z.1)], fun z h' => (z.2.2.2.length = z.1 ∧ z.1 ≤ 10) ∧ SS h.size h' pb wb PA pa PB pb' KA kc kl (sumR (sumsM cn0 kl) z.2.2.2) ∧ OwnA encCn 6 58 h5.size h' z.2.1 z.2.2.1 z.2.2.2 ∧ h5.size ≤ h'.size ∧ Ext h h', fun z => 10 - z.1, (0, none, 0, []), ⟨rfl, rfl, rfl, rfl, rfl, rfl, trivial⟩, ⟨⟨rfl, Nat.zero_le _⟩, S5, .inl ⟨rfl, rfl, rfl⟩, Nat.le_refl _, x5⟩, ?_⟩
      rintro ⟨k, JA, jc, jl⟩ h6 ⟨⟨hjl, hk10⟩, S6, oJ, z6, x6⟩
      simp only at hjl hk10 S6 oJ
      obtain ⟨ka, hKA, krd⟩ := (x6.row hR) i row hrow
      have k0 : cell h6 (ka.add ((i : Int).toNat * 1)) = some (.slice row.A row.n row.c) := by
        have := krd.get 0 (v := .slice row.A row.n row.c) rfl
        rwa [add_zero'] at this
      refine ⟨ka, hKA, by omega, hlt, _, k0, ?_⟩
      refine xif_of (fun hlt3 => ?_) (fun hge3 => ?_)
      rotate_left
      · exact ⟨(k, JA, jc, jl), ⟨rfl, rfl, rfl, rfl, rfl, trivial⟩, ⟨hjl, hk10⟩, S6, oJ, z6, x6⟩
      have hlt3 : (k : Int) < row.n := of_decide_eq_true hlt3
      refine xif_of (fun hlt4 => ?_) (fun hge4 => ?_)
      rotate_left
      · exact ⟨(k, JA, jc, jl), ⟨rfl, rfl, rfl, rfl, rfl, trivial⟩, ⟨hjl, hk10⟩, S6, oJ, z6, x6⟩
      have hlt4 : (k : Int) < 10 := of_decide_eq_true hlt4
      obtain ⟨e, he⟩ : ∃ e, row.l[k]? = some e := ⟨row.l[k]'(by omega), List.getElem?_eq_getElem (by omega)⟩
      obtain ⟨ca, hCA, crd⟩ := (x6.row RO.row) k e he
      refine ⟨ka, hKA, by omega, hlt, _, k0, ca, hCA, by omega, hlt3, encCn e, rfl, crd, ?_⟩
      intro xb h7' n7
      refine ⟨rfl, rfl, canset_blk n7.this rfl, fun h7 s7 => ?_⟩
      have hxb : h7[xb]? = some (.cells (encCn e).toArray 58 (0, 0)) := n7.fill rfl s7
      have x67 : Ext h6 h7 := n7.ext.stored s7 (n7.ge (Ext.refl _))
      have x7 := x6.trans x67
      refine ⟨_, cell_blk hxb rfl, ?_⟩
      refine xif_of (fun _ => ?_) (fun _ => ?_)
      · refine told23_spec.mono ?_
        rintro v g ⟨rfl, xg⟩
        exact ⟨rfl, x7.trans xg⟩
      refine ⟨_, cell_blk hxb rfl, ?_⟩
      refine xif_of (fun _ => ?_) (fun _ => ?_)
      · refine told23_spec.mono ?_
        rintro v g ⟨rfl, xg⟩
        exact ⟨rfl, x7.trans xg⟩
      refine ⟨_, cell_blk hxb rfl, ?_⟩
      refine xif_of (fun _ => ?_) (fun _ => ?_)
      · refine told23_spec.mono ?_
        rintro v g ⟨rfl, xg⟩
        exact ⟨rfl, x7.trans xg⟩
      refine ⟨_, cell_blk hxb rfl, ?_⟩
      refine xif_of (fun _ => ?_) (fun _ => ?_)
      · refine told23_spec.mono ?_
        rintro v g ⟨rfl, xg⟩
        exact ⟨rfl, x7.trans xg⟩
      refine ⟨_, cell_blk hxb rfl, ?_⟩
      refine xif_of (fun _ => ?_) (fun _ => ?_)
      · refine told23_spec.mono ?_
        rintro v g ⟨rfl, xg⟩
        exact ⟨rfl, x7.trans xg⟩
      refine ⟨_, cell_blk hxb rfl, ?_⟩
      refine xif_of (fun _ => ?_) (fun _ => ?_)
      · refine told23_spec.mono ?_
        rintro v g ⟨rfl, xg⟩
        exact ⟨rfl, x7.trans xg⟩
      refine ⟨_, cell_blk hxb rfl, ?_⟩
      refine xif_of (fun _ => ?_) (fun _ => ?_)
      · refine told23_spec.mono ?_
        rintro v g ⟨rfl, xg⟩
        exact ⟨rfl, x7.trans xg⟩
      refine ⟨_, cell_blk hxb rfl, ?_⟩
      refine xif_of (fun _ => ?_) (fun _ => ?_)
      · refine told23_spec.mono ?_
        rintro v g ⟨rfl, xg⟩
        exact ⟨rfl, x7.trans xg⟩
      refine ⟨_, cell_blk hxb rfl, ?_⟩
      refine xif_of (fun _ => ?_) (fun _ => ?_)
      · refine told23_spec.mono ?_
        rintro v g ⟨rfl, xg⟩
        exact ⟨rfl, x7.trans xg⟩
      refine ⟨_, cell_blk hxb rfl, ?_⟩
      refine xif_of (fun _ => ?_) (fun _ => ?_)
      · refine told23_spec.mono ?_
        rintro v g ⟨rfl, xg⟩
        exact ⟨rfl, x7.trans xg⟩
      refine ⟨_, cell_blk hxb rfl, ?_⟩
      refine xif_of (fun _ => ?_) (fun _ => ?_)
      · refine told23_spec.mono ?_
        rintro v g ⟨rfl, xg⟩
        exact ⟨rfl, x7.trans xg⟩
      refine ⟨_, cell_blk hxb rfl, ?_⟩
      refine xif_of (fun _ => ?_) (fun _ => ?_)
      · refine told23_spec.mono ?_
        rintro v g ⟨rfl, xg⟩
        exact ⟨rfl, x7.trans xg⟩
      refine ⟨encCn e, rfl, reads_all hxb, ?_⟩
      intro eb h8 n8
      have oJ7 := oJ.ext x67
      refine xappend_one (x := e) cnInfoR cnZeroR rfl (by decide) encCn_len encCn_one oJ7 n8 hjl (by show (k + 1) * 48 ≤ _; omega) (Nat.le_trans z6 x67.size) fun A8 c8 h9 o9 k9 => ?_
      have S9 := (S6.ext x67).keep oJ7 k9 lt5
      have hxb9 : h9[xb]? = some (.cells (encCn e).toArray 58 (0, 0)) := k9.blk hxb fun e' => by
        have : xb < h6.size := own_lt oJ e'
        have : h6.size ≤ xb := n7.ge (Ext.refl _)
        omega
      have x9 : Ext h h9 := k9.ext x7 fun b e' => Nat.le_trans x5.size (oJ7.ge b e')
      refine ⟨_, cell_blk S9.sum rfl, _, cell_blk hxb9 rfl, _, cell_blk S9.sum rfl, _, cell_blk hxb9 rfl, _, cell_blk S9.sum rfl, _, cell_blk hxb9 rfl, _, cell_blk S9.sum rfl, _, cell_blk hxb9 rfl, _, cell_blk S9.sum rfl, _, cell_blk hxb9 rfl, _, cell_blk S9.sum rfl, _, cell_blk hxb9 rfl, ?_⟩
      refine ⟨rfl, rfl, canset_blk S9.sum rfl, fun h10 s10 => ?_⟩
      have S10 : SS h.size h10 pb wb PA pa PB pb' KA kc kl (addC (sumR (sumsM cn0 kl) jl) e) := S9.put s10
      refine ⟨(k + 1, A8, c8, jl ++ [e]), ⟨rfl, rfl, rfl, rfl, rfl, slot_inc (by omega), trivial⟩, ⟨⟨by show (jl ++ [e]).length = k + 1; rw [List.length_append, hjl]; rfl, by show k + 1 ≤ 10; omega⟩, ?_, o9.storeT s10 S9.sum (by decide), by rw [s10.size]; exact Nat.le_trans z6 (Nat.le_trans x67.size k9.size), x9.stored s10 wge⟩, by show 10 - (k + 1) < 10 - k; omega⟩
      show SS h.size h10 pb wb PA pa PB pb' KA kc kl (sumR (sumsM cn0 kl) (jl ++ [e]))
      have : sumR (sumsM cn0 kl) (jl ++ [e]) = addC (sumR (sumsM cn0 kl) jl) e := by unfold sumR; rw [List.foldl_append]; rfl
      rw [this]; exact S10
    rintro ⟨k, JA, jc, jl⟩ h6 ⟨⟨hjl, hk10⟩, S6, oJ, z6, x6⟩
    simp only at hjl hk10 S6 oJ
    refine ⟨_, cell_blk S6.rep rfl, ?_⟩
    intro eb h7 n7
    refine xappend_one (x := (⟨JA, k, jc, jl⟩ : Cr)) crInfoR crZeroR rfl (by decide) encCr_len encCr_one S6.own n7 rfl (by show (kl.length + 1) * 24 ≤ _; omega) x6.size fun A8 c8 h8 o8 k8 => ?_
    have rep8 := S6.own.blkKeep k8 S6.rep (by decide)
    have sum8 := S6.own.blkKeep k8 S6.sum (by decide)
    refine ⟨rfl, rfl, canset_blk rep8 rfl, fun h9 s9 => ?_⟩
    have el : (kl ++ [(⟨JA, k, jc, jl⟩ : Cr)]).length = kl.length + 1 := by rw [List.length_append]; rfl
    have es : sumsM cn0 (kl ++ [(⟨JA, k, jc, jl⟩ : Cr)]) = sumR (sumsM cn0 kl) jl := by unfold sumsM; rw [List.foldl_append]; rfl
    have x9 : Ext h h9 := (k8.ext x6 fun b e => S6.own.ge b e).stored s9 pge
    have wne : wb ≠ pb := fun e => by
      have r := S6.rep
      rw [← e, S6.sum] at r
      injection r with e1
      injection e1 with _ e2
      exact absurd e2 (by decide)
    have S9 : SS h.size h9 pb wb PA pa PB pb' A8 c8 (kl ++ [(⟨JA, k, jc, jl⟩ : Cr)]) (sumsM cn0 (kl ++ [(⟨JA, k, jc, jl⟩ : Cr)])) := by
      refine ⟨by rw [el]; omega, by rw [el]; exact s9.put rep8, by rw [es]; exact s9.blk sum8 wne, o8.storeT s9 rep8 (by decide), fun x hx => ?_, (S6.oR.keepT S6.own k8 (by decide)).storeT s9 rep8 (by decide), (S6.oV.keepT S6.own k8 (by decide)).storeT s9 rep8 (by decide)⟩
      rcases List.mem_append.1 hx with hx | hx
      · exact ⟨((S6.rows x hx).1.keepT S6.own k8 (by decide)).storeT s9 rep8 (by decide), (S6.rows x hx).2⟩
      · obtain rfl := List.mem_singleton.1 hx
        exact ⟨((oJ.mono x5.size).keepT S6.own k8 (by decide)).storeT s9 rep8 (by decide), hjl, hk10⟩
    exact ⟨(i + 1, A8, c8, kl ++ [⟨JA, k, jc, jl⟩]), ⟨rfl, rfl, rfl, slot_inc (by omega), trivial⟩, ⟨⟨by show (kl ++ [(⟨JA, k, jc, jl⟩ : Cr)]).length = i + 1; rw [el, hkl], by show i + 1 ≤ 10; omega⟩, S9, x9⟩, by show 10 - (i + 1) < 10 - i; omega⟩
  rintro ⟨KA, kc, kl⟩ h5 ⟨S5, x5⟩
  simp only at S5
  refine told23_spec.mono ?_
  rintro v h6 ⟨rfl, x56⟩
  have S6 := S5.ext x56
  have x6 := x5.trans x56
  obtain ⟨r, hr0⟩ : ∃ r, r = rpW toldQ PA pa PB pb' none 0 0 [] none 0 0 [] none 0 0 [] none 0 0 [] KA kl.length kc kl := ⟨_, rfl⟩
  have few := S6.few
  have rep := S6.rep
  rw [← hr0] at rep
  have ok : RpOk h6 r := by
    rw [hr0]
    exact ⟨Row.nil, rfl, Nat.le_refl _, (by decide : (0 : Nat) ≤ 60), Row.nil, rfl, (by decide : (0 : Nat) ≤ 12), fun x hx => absurd hx List.not_mem_nil, Row.nil, rfl, (by decide : (0 : Nat) ≤ 12), Row.nil, rfl, Nat.le_refl _, (by decide : (0 : Nat) ≤ 30), fun x hx => absurd hx List.not_mem_nil, S6.own.row encCr_len, rfl, few, fun x hx => ⟨(S6.rows x hx).1.row encCn_len, (S6.rows x hx).2.1⟩⟩
  have pl : PlIn h6 r toldQ := ⟨PA, pa, PB, pb', by rw [hr0]; rfl, S6.oR.row encRu_len, S6.oV.row encVl_len⟩
  have hd : ∀ d ∈ r.don, d.tA = none ∧ d.tn = 0 ∧ d.fA = none ∧ d.fn = 0 := by rw [hr0]; exact fun d hd => absurd hd List.not_mem_nil
  have hrn : ∀ x ∈ r.cnts, x.n ≤ 20 := by rw [hr0]; exact fun x hx => Nat.le_trans (S6.rows x hx).2.2 (by decide)
  refine ⟨encRp r, rfl, reads_all rep, ?_⟩
  obtain ⟨a, ha⟩ : ∃ a, a = sumsM cn0 kl := ⟨_, rfl⟩
  have sum6 := S6.sum
  rw [← ha] at sum6
  refine ⟨encCn a, rfl, reads_all sum6, ?_⟩
  refine (l23To_spec ok pl hd hrn).mono ?_
  rintro v h7 ⟨r1, rfl, e1, own1, pl1, x7⟩
  refine ⟨⟨reads_all (x7.blk sum6), trivial⟩, ?_⟩
  have e10 : r1.cnts.map eraR = r.cnts.map eraR := (congrArg Rp.cnts e1 : (era r1).cnts = (era r).cnts)
  have hrn1 : ∀ x ∈ r1.cnts, x.n ≤ 20 := fun x hx => by
    have hm : eraR x ∈ r.cnts.map eraR := by rw [← e10]; exact List.mem_map_of_mem hx
    obtain ⟨y, hy, hxy⟩ := List.mem_map.1 hm
    have : y.n = x.n := (congrArg Cr.n hxy : (eraR y).n = (eraR x).n)
    rw [← this]; exact hrn y hy
  have ec : r.cnts = kl := by rw [hr0]; rfl
  have es : sumsM cn0 r1.cnts = sumsM cn0 kl := by rw [← sums_era, e10, sums_era, ec]
  refine (aSums_spec (own_ok own1 e1 ok) hrn1).mono ?_
  rintro v h8 ⟨hv, x8⟩
  rw [es, ← ha] at hv
  subst hv
  refine ⟨⟨reads_all (x8.blk (x7.blk sum6)), trivial⟩, ?_⟩
  refine xeq_of (eqCnG a) (eqCn a a) ?_
  refine ⟨congrArg Value.bool ?_, x6.trans (x7.trans x8)⟩
  simp only [beq_self_eq_true, Bool.and_self]
end
end Go.Proofs.YtcjoenkpibhmoaaGreatE
