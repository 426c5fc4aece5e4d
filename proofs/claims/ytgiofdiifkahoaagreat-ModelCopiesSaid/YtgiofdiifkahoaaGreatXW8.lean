/- A copy of the document's model. Conditions: the arguments are of their types. -/
import Derived.Test.YtgiofdiifkahoaaGreatXW3
set_option linter.unusedVariables false
set_option linter.unusedSimpArgs false
set_option maxRecDepth 100000
namespace Go.Proofs.YtgiofdiifkahoaaGreatE
open Go Go.Proofs
def env_rCopy17 : Nat → Ann
  | 1 => ⟨.op 0 [] <| .op 1 [] <| .op 2 [] <| .op 3 [] <| .op 5 [] <| .op 6 [] <| .op 7 [] <| .op 8 [] <| .op 11 [] <| .op 12 [] <| .op 13 [] <| .op 14 [] <| .op 16 [] <| .op 17 [] <| .op 18 [] <| .op 19 [] <| .alt (.op 4 [3, 8, 14, 19] <| .alt (.op 9 [3, 14, 19] <| .op 10 [3, 8, 14, 19] <| .op 15 [3, 19] <| .op 20 [3] <| .op 21 [] <| .op 22 [] <| .op 23 [] <| .nil) (.op 10 [3, 8, 14, 19] <| .op 9 [3, 14, 19] <| .op 15 [3, 19] <| .op 20 [3] <| .op 21 [] <| .op 22 [] <| .op 23 [] <| .nil)) (.op 10 [3, 8, 14, 19] <| .op 4 [3, 8, 14, 19] <| .op 9 [3, 14, 19] <| .op 15 [3, 19] <| .op 20 [3] <| .op 21 [] <| .op 22 [] <| .op 23 [] <| .nil), [0, 1, 3, 7, 0, 0, 32, 96, 224, 496, 0, 0, 2048, 6144, 14336, 32752, 0, 65536, 196608, 458752, 1048560, 2097151, 4194303, 8388607], false⟩
  | 2 => ⟨.nil, [], true⟩
  | _ => ⟨.nil, [], false⟩
section
variable {base : Nat} {G : Nat → Prop} {h h1 h' : Heap} {w : Nat} {D : Dat} {p : Pl} {M : Md}
theorem snInfoR : (Tryz.prog.info? 89).map (fun i => (i.size, i.bytes)) = some (2, 16) := by kernel_rfl
theorem snZeroR : xzero Tryz.prog 89 = some (encSn ⟨0, 0⟩) := by kernel_rfl
theorem slInfo1c : (Tryz.prog.info? 62).map (fun i => (i.size, i.bytes)) = some (1, 24) := by kernel_rfl
theorem slZero1c : xzero Tryz.prog 62 = some (encSl ⟨none, 0, 0⟩) := by kernel_rfl
/-- The queues' table, as far as it was copied. -/
structure Half (base : Nat) (G : Nat → Prop) (h : Heap) (n : Int) (q : Int → Int → List Int) (R : List Sl) (S : Nat → List Sl) (rb : Nat → Nat) (k : Nat) : Prop where
  len : R.length = k
  rows : ∀ (i : Nat) r, R[i]? = some r → r.a = some ⟨rb i, 0, none⟩ ∧ r.n = (S i).length ∧ ((S i).length : Int) = n ∧ OwnA encSl 1 62 base h r.a r.c (S i)
  inj : ∀ i j : Nat, i < k → j < k → rb i = rb j → i = j
  cells : ∀ (i j : Nat) r, i < k → (S i)[j]? = some r → r.n = (q i j).length ∧ OwnA encI 1 3 base h r.a r.c (q i j) ∧ ∀ b, r.a = some ⟨b, 0, none⟩ → G b
  geG : ∀ b, G b → base ≤ b
  tyG : ∀ b, G b → ∃ c g, h[b]? = some (.cells c 3 g)
theorem Half.fr {X : Nat → Prop} {n : Int} {q : Int → Int → List Int} {R : List Sl} {S : Nat → List Sl} {rb : Nat → Nat} {k : Nat} (H : Half base G h n q R S rb k) (f : Fr X h h') (o1 : Off X h 62) (o3 : Off X h 3) : Half base G h' n q R S rb k :=
  ⟨H.len, fun i r hr => let ⟨a, b, c, d⟩ := H.rows i r hr; ⟨a, b, c, d.frT f o1⟩, H.inj, fun i j r hi hr => let ⟨a, b, c⟩ := H.cells i j r hi hr; ⟨a, b.frT f o3, c⟩, H.geG, fun b hb => let ⟨c, g, e⟩ := H.tyG b hb; ⟨c, g, f.blk e (o3.not e)⟩⟩
theorem Half.ext {n : Int} {q : Int → Int → List Int} {R : List Sl} {S : Nat → List Sl} {rb : Nat → Nat} {k : Nat} (H : Half base G h n q R S rb k) (x : Ext h h') : Half base G h' n q R S rb k :=
  H.fr (x.fr fun _ => False) (fun _ _ _ _ hx => hx.elim) (fun _ _ _ _ hx => hx.elim)
theorem rCopy17_spec (po : p.Ok) (K : MdOk p M) (hv : M.vlans.length ≤ 1000) (W : MdR base G h w D p M) : HCalls Tryz.prog 21 #[.pointer (some ⟨w, 0, none⟩)] h (fun v h' => ∃ c G' D', v = .pointer (some ⟨c, 0, none⟩) ∧ MdR h.size G' h' c D' p M ∧ Ext h h') := by
  refine xcalls env_rCopy17 Tryz.func21 rfl (by kernel_rfl) rfl (by kernel_rfl) ?_
  have hst := K.st
  have hp1 := po.lo
  have hp2 := po.hi
  refine ⟨Nat × Option Addr × Nat × Option Addr × Nat × Nat × Nat, fun z => [(0, .pointer (some ⟨w, 0, none⟩)), (3, .pointer (some ⟨z.1, 0, none⟩))],
    fun z h' => h.size ≤ z.1 ∧ h'[z.1]? = some (.cells [.int .i64 p.ports, D.rules, D.pvl, .int .i64 p.size.sh, .int .i64 p.size.bk, .int .i64 p.size.sl, .int .i64 p.tries, .int .i64 p.ring, .int .u32 p.normal, .int .u32 p.short, .slice z.2.1 M.stands.length z.2.2.1, .slice z.2.2.2.1 M.vlans.length z.2.2.2.2.1, .pointer (some ⟨z.2.2.2.2.2.1, 0, none⟩), .slice none 0 0].toArray 94 (0, 0)) ∧
      OwnA encSn 2 89 h.size h' z.2.1 z.2.2.1 M.stands ∧ OwnA encVl 3 105 h.size h' z.2.2.2.1 z.2.2.2.2.1 M.vlans ∧ BkR h.size h' z.2.2.2.2.2.1 z.2.2.2.2.2.2 p.size M.book ∧ Ext h h', ?_, ?_⟩
  · have x0 := Ext.refl h
    refine ⟨[.int .i64 p.ports, D.rules, D.pvl, .int .i64 p.size.sh, .int .i64 p.size.bk, .int .i64 p.size.sl, .int .i64 p.tries, .int .i64 p.ring, .int .u32 p.normal, .int .u32 p.short], rfl, reads_at W.blk rfl, _, cell_blk W.blk rfl, _, cell_blk W.blk rfl, _, cell_blk W.blk rfl, ?_, ?_⟩
    · intro sv g1 m1
      have y1 := m1.ext
      have x1 : Ext h g1 := x0.trans y1
      have svge : h.size ≤ sv := m1.ge x0
      have Z1 : OwnA encSn 2 89 h.size g1 (some ⟨sv, 0, none⟩) 0 ([] : List Stn) := .inr ⟨sv, [], rfl, svge, m1.this, rfl, Nat.le_refl _⟩
      refine ⟨⟨cell_blk ((x1).blk W.blk) rfl, cell_blk ((x1).blk W.blk) rfl, cell_blk ((x1).blk W.blk) rfl, reads_at ((x1).blk W.blk) rfl, trivial⟩, ?_, ?_⟩
      · refine xappend_many (xs := []) (ys := M.stands) (n := 0) snInfoR snZeroR rfl (by decide) encSn_len encSn_one Z1 rfl rfl ((W.ext x1).stands.reads) (by omega) (x1).size fun SA sc g2 S2 k2 => ?_
        have x2 : Ext h g2 := k2.ext x1 fun b e => by cases e; exact svge
        have off2 : ∀ T : TypeId, (89 : TypeId) ≠ T → Off (fun j => (some ⟨sv, 0, none⟩ : Option Addr) = some ⟨j, 0, none⟩) g1 T := by
          intro T hT j c e g hj hc
          cases hj
          obtain ⟨cx, hx⟩ := own_blk Z1
          rw [ty_eq hc hx]
          exact hT
        refine ⟨⟨cell_blk ((x2).blk W.blk) rfl, cell_blk ((x2).blk W.blk) rfl, reads_at ((x2).blk W.blk) rfl, trivial⟩, ?_⟩
        intro vv g3 m3
        have y3 := m3.ext
        have S3 := S2.ext y3
        have x3 : Ext h g3 := x2.trans y3
        have vvge : h.size ≤ vv := m3.ge x2
        have U3 : OwnA encVl 3 105 h.size g3 (some ⟨vv, 0, none⟩) 0 ([] : List Vl) := .inr ⟨vv, [], rfl, vvge, m3.this, rfl, Nat.le_refl _⟩
        refine ⟨⟨cell_blk ((x3).blk W.blk) rfl, cell_blk ((x3).blk W.blk) rfl, cell_blk ((x3).blk W.blk) rfl, reads_at ((x3).blk W.blk) rfl, trivial⟩, ?_⟩
        refine xappend_many (xs := []) (ys := M.vlans) (n := 0) vlInfoR vlZeroR rfl (by decide) encVl_len encVl_one U3 rfl rfl ((W.ext x3).vlans.reads) (by omega) (x3).size fun VA vc g4 V4 k4 => ?_
        have x4 : Ext h g4 := k4.ext x3 fun b e => by cases e; exact vvge
        have off4 : ∀ T : TypeId, (105 : TypeId) ≠ T → Off (fun j => (some ⟨vv, 0, none⟩ : Option Addr) = some ⟨j, 0, none⟩) g3 T := by
          intro T hT j c e g hj hc
          cases hj
          obtain ⟨cx, hx⟩ := own_blk U3
          rw [ty_eq hc hx]
          exact hT
        have S4 := S3.frT (k4.fr' fun _ e => e) (off4 _ (by decide))
        refine ⟨⟨cell_blk ((x4).blk W.blk) rfl, reads_at ((x4).blk W.blk) rfl, trivial⟩, ?_⟩
        refine (rbCopy_spec po.size K.book.bok K.book.cls (W.book.ext x4)).mono ?_
        rintro v g5 ⟨bb, tb, rfl, B5', y5⟩
        have S5 := S4.ext y5
        have V5 := V4.ext y5
        have B5 : BkR h.size g5 bb tb p.size M.book := B5'.mono (x4).size
        have x5 : Ext h g5 := x4.trans y5
        refine ⟨⟨reads_at ((x5).blk W.blk) rfl, trivial⟩, ?_⟩
        intro cb hN nN
        simp only [Nat.zero_add] at nN
        exact ⟨(cb, SA, sc, VA, vc, bb, tb), ⟨rfl, rfl, trivial⟩, nN.ge x5, nN.this, S5.ext nN.ext, V5.ext nN.ext, B5.ext nN.ext, x5.trans nN.ext⟩
      · intro vv g2 m2
        have y2 := m2.ext
        have Z2 := Z1.ext y2
        have x2 : Ext h g2 := x1.trans y2
        have vvge : h.size ≤ vv := m2.ge x1
        have U2 : OwnA encVl 3 105 h.size g2 (some ⟨vv, 0, none⟩) 0 ([] : List Vl) := .inr ⟨vv, [], rfl, vvge, m2.this, rfl, Nat.le_refl _⟩
        refine ⟨⟨cell_blk ((x2).blk W.blk) rfl, cell_blk ((x2).blk W.blk) rfl, cell_blk ((x2).blk W.blk) rfl, reads_at ((x2).blk W.blk) rfl, trivial⟩, ?_⟩
        refine xappend_many (xs := []) (ys := M.stands) (n := 0) snInfoR snZeroR rfl (by decide) encSn_len encSn_one Z2 rfl rfl ((W.ext x2).stands.reads) (by omega) (x2).size fun SA sc g3 S3 k3 => ?_
        have x3 : Ext h g3 := k3.ext x2 fun b e => by cases e; exact svge
        have off3 : ∀ T : TypeId, (89 : TypeId) ≠ T → Off (fun j => (some ⟨sv, 0, none⟩ : Option Addr) = some ⟨j, 0, none⟩) g2 T := by
          intro T hT j c e g hj hc
          cases hj
          obtain ⟨cx, hx⟩ := own_blk Z2
          rw [ty_eq hc hx]
          exact hT
        have U3 := U2.frT (k3.fr' fun _ e => e) (off3 _ (by decide))
        refine ⟨⟨cell_blk ((x3).blk W.blk) rfl, cell_blk ((x3).blk W.blk) rfl, reads_at ((x3).blk W.blk) rfl, trivial⟩, ?_⟩
        refine xappend_many (xs := []) (ys := M.vlans) (n := 0) vlInfoR vlZeroR rfl (by decide) encVl_len encVl_one U3 rfl rfl ((W.ext x3).vlans.reads) (by omega) (x3).size fun VA vc g4 V4 k4 => ?_
        have x4 : Ext h g4 := k4.ext x3 fun b e => by cases e; exact vvge
        have off4 : ∀ T : TypeId, (105 : TypeId) ≠ T → Off (fun j => (some ⟨vv, 0, none⟩ : Option Addr) = some ⟨j, 0, none⟩) g3 T := by
          intro T hT j c e g hj hc
          cases hj
          obtain ⟨cx, hx⟩ := own_blk U3
          rw [ty_eq hc hx]
          exact hT
        have S4 := S3.frT (k4.fr' fun _ e => e) (off4 _ (by decide))
        refine ⟨⟨cell_blk ((x4).blk W.blk) rfl, reads_at ((x4).blk W.blk) rfl, trivial⟩, ?_⟩
        refine (rbCopy_spec po.size K.book.bok K.book.cls (W.book.ext x4)).mono ?_
        rintro v g5 ⟨bb, tb, rfl, B5', y5⟩
        have S5 := S4.ext y5
        have V5 := V4.ext y5
        have B5 : BkR h.size g5 bb tb p.size M.book := B5'.mono (x4).size
        have x5 : Ext h g5 := x4.trans y5
        refine ⟨⟨reads_at ((x5).blk W.blk) rfl, trivial⟩, ?_⟩
        intro cb hN nN
        simp only [Nat.zero_add] at nN
        exact ⟨(cb, SA, sc, VA, vc, bb, tb), ⟨rfl, rfl, trivial⟩, nN.ge x5, nN.this, S5.ext nN.ext, V5.ext nN.ext, B5.ext nN.ext, x5.trans nN.ext⟩
    · intro vv g1 m1
      have y1 := m1.ext
      have x1 : Ext h g1 := x0.trans y1
      have vvge : h.size ≤ vv := m1.ge x0
      have U1 : OwnA encVl 3 105 h.size g1 (some ⟨vv, 0, none⟩) 0 ([] : List Vl) := .inr ⟨vv, [], rfl, vvge, m1.this, rfl, Nat.le_refl _⟩
      refine ⟨⟨cell_blk ((x1).blk W.blk) rfl, cell_blk ((x1).blk W.blk) rfl, cell_blk ((x1).blk W.blk) rfl, reads_at ((x1).blk W.blk) rfl, trivial⟩, ?_⟩
      intro sv g2 m2
      have y2 := m2.ext
      have U2 := U1.ext y2
      have x2 : Ext h g2 := x1.trans y2
      have svge : h.size ≤ sv := m2.ge x1
      have Z2 : OwnA encSn 2 89 h.size g2 (some ⟨sv, 0, none⟩) 0 ([] : List Stn) := .inr ⟨sv, [], rfl, svge, m2.this, rfl, Nat.le_refl _⟩
      refine ⟨⟨cell_blk ((x2).blk W.blk) rfl, cell_blk ((x2).blk W.blk) rfl, cell_blk ((x2).blk W.blk) rfl, reads_at ((x2).blk W.blk) rfl, trivial⟩, ?_⟩
      refine xappend_many (xs := []) (ys := M.stands) (n := 0) snInfoR snZeroR rfl (by decide) encSn_len encSn_one Z2 rfl rfl ((W.ext x2).stands.reads) (by omega) (x2).size fun SA sc g3 S3 k3 => ?_
      have x3 : Ext h g3 := k3.ext x2 fun b e => by cases e; exact svge
      have off3 : ∀ T : TypeId, (89 : TypeId) ≠ T → Off (fun j => (some ⟨sv, 0, none⟩ : Option Addr) = some ⟨j, 0, none⟩) g2 T := by
        intro T hT j c e g hj hc
        cases hj
        obtain ⟨cx, hx⟩ := own_blk Z2
        rw [ty_eq hc hx]
        exact hT
      have U3 := U2.frT (k3.fr' fun _ e => e) (off3 _ (by decide))
      refine ⟨⟨cell_blk ((x3).blk W.blk) rfl, cell_blk ((x3).blk W.blk) rfl, reads_at ((x3).blk W.blk) rfl, trivial⟩, ?_⟩
      refine xappend_many (xs := []) (ys := M.vlans) (n := 0) vlInfoR vlZeroR rfl (by decide) encVl_len encVl_one U3 rfl rfl ((W.ext x3).vlans.reads) (by omega) (x3).size fun VA vc g4 V4 k4 => ?_
      have x4 : Ext h g4 := k4.ext x3 fun b e => by cases e; exact vvge
      have off4 : ∀ T : TypeId, (105 : TypeId) ≠ T → Off (fun j => (some ⟨vv, 0, none⟩ : Option Addr) = some ⟨j, 0, none⟩) g3 T := by
        intro T hT j c e g hj hc
        cases hj
        obtain ⟨cx, hx⟩ := own_blk U3
        rw [ty_eq hc hx]
        exact hT
      have S4 := S3.frT (k4.fr' fun _ e => e) (off4 _ (by decide))
      refine ⟨⟨cell_blk ((x4).blk W.blk) rfl, reads_at ((x4).blk W.blk) rfl, trivial⟩, ?_⟩
      refine (rbCopy_spec po.size K.book.bok K.book.cls (W.book.ext x4)).mono ?_
      rintro v g5 ⟨bb, tb, rfl, B5', y5⟩
      have S5 := S4.ext y5
      have V5 := V4.ext y5
      have B5 : BkR h.size g5 bb tb p.size M.book := B5'.mono (x4).size
      have x5 : Ext h g5 := x4.trans y5
      refine ⟨⟨reads_at ((x5).blk W.blk) rfl, trivial⟩, ?_⟩
      intro cb hN nN
      simp only [Nat.zero_add] at nN
      exact ⟨(cb, SA, sc, VA, vc, bb, tb), ⟨rfl, rfl, trivial⟩, nN.ge x5, nN.this, S5.ext nN.ext, V5.ext nN.ext, B5.ext nN.ext, x5.trans nN.ext⟩
  rintro ⟨cb, SA, sc, VA, vc, bb, tb⟩ h1 ⟨cg, hcb, S1, V1, B1, x1⟩
  simp only at cg hcb S1 V1 B1 x1
  obtain ⟨sb, hsb⟩ : ∃ sb, SA = some ⟨sb, 0, none⟩ := by
    rcases S1 with ⟨_, e, _⟩ | ⟨b, _, e, _⟩
    · rw [e] at hst; simp at hst; omega
    · exact ⟨b, e⟩
  subst hsb
  obtain ⟨R0, S0, r1, r2, r3, r4⟩ := W.queues.holds
  obtain ⟨N, hN⟩ : ∃ N : Nat, p.ports = N := ⟨p.ports.toNat, by omega⟩
  have hNt : p.ports.toNat = N := by omega
  refine ⟨Nat × Option Addr × Nat × List Sl × (Nat → List Sl) × (Nat → Nat) × (Nat → Prop), fun z => [(0, .pointer (some ⟨w, 0, none⟩)), (3, .pointer (some ⟨cb, 0, none⟩)), (4, .int .i64 z.1)],
    fun z h' => z.1 ≤ N ∧ h'[cb]? = some (.cells [.int .i64 p.ports, D.rules, D.pvl, .int .i64 p.size.sh, .int .i64 p.size.bk, .int .i64 p.size.sl, .int .i64 p.tries, .int .i64 p.ring, .int .u32 p.normal, .int .u32 p.short, .slice (some ⟨sb, 0, none⟩) M.stands.length sc, .slice VA M.vlans.length vc, .pointer (some ⟨bb, 0, none⟩), .slice z.2.1 z.1 z.2.2.1].toArray 94 (0, 0)) ∧
      OwnA encSn 2 89 h.size h' (some ⟨sb, 0, none⟩) sc M.stands ∧ OwnA encVl 3 105 h.size h' VA vc M.vlans ∧ BkR h.size h' bb tb p.size M.book ∧ OwnA encSl 1 124 h.size h' z.2.1 z.2.2.1 z.2.2.2.1 ∧ Half h.size z.2.2.2.2.2.2 h' p.ports M.queues z.2.2.2.1 z.2.2.2.2.1 z.2.2.2.2.2.1 z.1 ∧ Ext h h',
    fun z => N - z.1, (0, none, 0, [], (fun _ => []), (fun _ => 0), fun _ => False), ⟨rfl, rfl, rfl, trivial⟩, ⟨Nat.zero_le _, hcb, S1, V1, B1, .inl ⟨rfl, rfl, rfl⟩, ⟨rfl, (fun i r hr => by simp at hr), (fun i j hi => absurd hi (Nat.not_lt_zero _)), (fun i j r hi => absurd hi (Nat.not_lt_zero _)), fun _ h => h.elim, fun _ h => h.elim⟩, x1⟩, ?_⟩
  rintro ⟨k, Q, qc, R, S, rb, G3⟩ h3 ⟨hk, hcb3, S3, V3, B3, Q3, A3, x3⟩
  simp only at hk hcb3 Q3 A3
  refine ⟨_, cell_blk (x3.blk W.blk) rfl, ?_⟩
  refine xif_of (fun hlt => ?_) (fun hge => ?_)
  · have hlt : (k : Int) < (p.ports.toNat : Int) := of_decide_eq_true hlt
    refine ⟨Nat × Option Addr × Nat × List Sl, fun z => [(0, .pointer (some ⟨w, 0, none⟩)), (3, .pointer (some ⟨cb, 0, none⟩)), (4, .int .i64 k), (5, .slice z.2.1 z.1 z.2.2.1), (6, .int .i64 z.1)],
      fun z h' => (z.1 ≤ N ∧ z.2.2.2.length = z.1) ∧ OwnA encSl 1 62 h3.size h' z.2.1 z.2.2.1 z.2.2.2 ∧ (∀ (j : Nat) r, z.2.2.2[j]? = some r → r.n = (M.queues k j).length ∧ OwnA encI 1 3 h3.size h' r.a r.c (M.queues k j)) ∧ Ext h3 h',
      fun z => N - z.1, (0, none, 0, []), ⟨rfl, rfl, rfl, rfl, rfl, trivial⟩, ⟨⟨Nat.zero_le _, rfl⟩, .inl ⟨rfl, rfl, rfl⟩, (fun j r hr => by simp at hr), Ext.refl _⟩, ?_⟩
    rintro ⟨j, L, lc, Sr⟩ h4 ⟨⟨hj, hSl⟩, L4, C4, y4⟩
    simp only at hj hSl L4 C4
    have x4 := x3.trans y4
    obtain ⟨r0, hr0⟩ : ∃ r0, R0[k]? = some r0 := ⟨R0[k]'(by omega), List.getElem?_eq_getElem (by omega)⟩
    obtain ⟨e1, e2, e3, o0⟩ := r3 k r0 hr0
    have row : ∀ g : Heap, Ext h g → cell g ((⟨D.mb, 0, none⟩ : Addr).add (k * 1)) = some (.slice r0.a r0.n r0.c) := fun g x => by
      obtain ⟨a, ea, hr⟩ := ((r1.ext x).row encSl_len) k r0 hr0
      cases ea
      exact hr.cons
    refine ⟨_, cell_blk (x4.blk W.blk) rfl, _, rfl, (by show (0 : Int) ≤ k; omega), hlt, _, row h4 x4, ?_⟩
    refine xif_of (fun hlt2 => ?_) (fun hge2 => ?_)
    · have hlt2 : (j : Int) < (r0.n : Int) := of_decide_eq_true hlt2
      obtain ⟨s0, hs0⟩ : ∃ s0, (S0 k)[j]? = some s0 := ⟨(S0 k)[j]'(by omega), List.getElem?_eq_getElem (by omega)⟩
      obtain ⟨q1, q2, q3⟩ := r4 k j s0 (by omega) hs0
      have cel : ∀ g : Heap, Ext h g → cell g ((⟨D.rb k, 0, none⟩ : Addr).add (j * 1)) = some (.slice s0.a s0.n s0.c) := fun g x => by
        obtain ⟨a, ea, hr⟩ := ((o0.ext x).row encSl_len) j s0 hs0
        rw [e1] at ea
        cases ea
        exact hr.cons
      have hq64 := K.q k j
      have hr64 := po.ring1
      intro ib g1 m1
      have x5 := x4.trans m1.ext
      have Z1 : OwnA encI 1 3 h3.size g1 (some ⟨ib, 0, none⟩) 0 ([] : List Int) := .inr ⟨ib, [], rfl, m1.ge y4, m1.this, rfl, Nat.le_refl _⟩
      have ige : h4.size ≤ ib := m1.ge (Ext.refl _)
      refine ⟨_, cell_blk (x5.blk W.blk) rfl, _, rfl, (by show (0 : Int) ≤ k; omega), hlt, _, row g1 x5, _, e1, (by show (0 : Int) ≤ j; omega), hlt2, _, cel g1 x5, ?_⟩
      refine xappend_many (xs := []) (ys := M.queues k j) (n := 0) intInfo intZero rfl (by decide) encI_len encI_one Z1 rfl q1.symm ((q2.ext x5).reads) (by omega) (y4.trans m1.ext).size fun IA ic g2 o2 k2 => ?_
      have y2 : Ext h4 g2 := k2.ext m1.ext fun b e => by cases e; exact ige
      intro ab g3 m3
      have L2 := L4.ext y2
      refine xappend_one' (x := (⟨IA, 0 + s0.n, ic⟩ : Sl)) slInfo1c slZero1c rfl (by decide) encSl_len encSl_one L2 m3 hSl (by omega) (y4.trans y2).size fun L' lc' g4 o4 k4 alt => ?_
      have f4 : Fr (fun i => L = some ⟨i, 0, none⟩) g2 g4 := k4.fr' fun _ e => e
      have off4 : ∀ T : TypeId, (62 : TypeId) ≠ T → Off (fun i => L = some ⟨i, 0, none⟩) g2 T := by
        intro T hT i c e g hi hc
        rw [hi] at L2
        obtain ⟨cx, hx⟩ := own_blk L2
        rw [ty_eq hc hx]
        exact hT
      refine ⟨(j + 1, L', lc', Sr ++ [⟨IA, 0 + s0.n, ic⟩]), ⟨rfl, rfl, rfl, rfl, slot_inc (i := j) (by omega), trivial⟩, ⟨⟨by show j + 1 ≤ N; omega, by show (Sr ++ [_]).length = j + 1; simp; omega⟩, o4, ?_, f4.ext (y4.trans y2) fun i hi => L2.ge i hi⟩, by show N - (j + 1) < N - j; omega⟩
      intro j' r hr
      by_cases hjj : j' < j
      · have hr : Sr[j']? = some r := by rw [← List.getElem?_append_left (l₂ := [⟨IA, 0 + s0.n, ic⟩]) (by omega)]; exact hr
        obtain ⟨c1, c2⟩ := C4 j' r hr
        exact ⟨c1, (c2.ext y2).frT f4 (off4 _ (by decide))⟩
      · have hl := (List.getElem?_eq_some_iff.1 hr).1
        have hjj : j' = j := by simp at hl; omega
        subst hjj
        have hr : (Sr ++ [(⟨IA, 0 + s0.n, ic⟩ : Sl)])[j']? = some r := hr
        rw [List.getElem?_append_right (by omega), hSl, Nat.sub_self] at hr
        cases hr
        exact ⟨by show 0 + s0.n = _; rw [Nat.zero_add]; exact q1, o2.frT f4 (off4 _ (by decide))⟩
    have hge2 : ¬ (j : Int) < (r0.n : Int) := of_decide_eq_false hge2
    obtain rfl : j = N := by omega
    obtain ⟨lb, hlb⟩ : ∃ lb, L = some ⟨lb, 0, none⟩ := by
      rcases L4 with ⟨_, e, _⟩ | ⟨b, _, e, _⟩
      · rw [e] at hSl; simp at hSl; omega
      · exact ⟨b, e⟩
    subst hlb
    have hcb4 := y4.blk hcb3
    have Q4 := Q3.ext y4
    refine ⟨_, cell_blk hcb4 rfl, ?_⟩
    intro bs h5 n5
    refine xappend_one' (x := (⟨some ⟨lb, 0, none⟩, j, lc⟩ : Sl)) slInfo2 slZero2 rfl (by decide) encSl_len encSl_one Q4 n5 A3.len (by omega) x4.size fun Q' qc' h6 o6 k6 alt => ?_
    have f6 : Fr (fun i => Q = some ⟨i, 0, none⟩) h4 h6 := k6.fr' fun _ e => e
    have off6 : ∀ T : TypeId, (124 : TypeId) ≠ T → Off (fun i => Q = some ⟨i, 0, none⟩) h4 T := by
      intro T hT i c e g hi hc
      rw [hi] at Q4
      obtain ⟨cx, hx⟩ := own_blk Q4
      rw [ty_eq hc hx]
      exact hT
    have hcb6 := f6.blk hcb4 ((off6 _ (by decide)).not hcb4)
    refine ⟨rfl, rfl, canset_blk hcb6 rfl, fun h7 s7 => ?_⟩
    have hcb7 : h7[cb]? = some (.cells [.int .i64 p.ports, D.rules, D.pvl, .int .i64 p.size.sh, .int .i64 p.size.bk, .int .i64 p.size.sl, .int .i64 p.tries, .int .i64 p.ring, .int .u32 p.normal, .int .u32 p.short, .slice (some ⟨sb, 0, none⟩) M.stands.length sc, .slice VA M.vlans.length vc, .pointer (some ⟨bb, 0, none⟩), .slice Q' (k + 1) qc'].toArray 94 (0, 0)) := s7.put hcb6
    have f7 : Fr (fun i => i = cb) h6 h7 := s7.fr rfl
    have off7 : ∀ T : TypeId, (94 : TypeId) ≠ T → Off (fun i => i = cb) h6 T := fun T hT => offOne hcb6 hT
    have x6 : Ext h h6 := f6.ext x4 fun i hi => Q4.ge i hi
    have x7 : Ext h h7 := f7.ext x6 fun i hi => by rw [hi]; exact cg
    have A4 := A3.ext y4
    have A4' : Half h.size (fun b => G3 b ∨ ∃ (j' : Nat) (r : Sl), Sr[j']? = some r ∧ r.a = some ⟨b, 0, none⟩) h4 p.ports M.queues (R ++ [⟨some ⟨lb, 0, none⟩, j, lc⟩]) (fun i => if i = k then Sr else S i) (fun i => if i = k then lb else rb i) (k + 1) := by
      have hRl := A3.len
      refine ⟨by simp; exact hRl, fun i r hr => ?_, fun i i' hi hi' he => ?_, fun i j' r hi hr => ?_, fun b hb => ?_, fun b hb => ?_⟩
      · by_cases hik : i < k
        · rw [List.getElem?_append_left (by omega)] at hr
          have := A4.rows i r hr
          simp only [if_neg (show ¬ i = k by omega)]
          exact this
        · have hl := (List.getElem?_eq_some_iff.1 hr).1
          have hik : i = k := by simp at hl; omega
          subst hik
          rw [List.getElem?_append_right (by omega), hRl, Nat.sub_self] at hr
          cases hr
          simp only [if_pos]
          exact ⟨trivial, hSl.symm, by rw [hSl]; exact hN.symm, L4.mono x3.size⟩
      · have old : ∀ i, i < k → rb i < h3.size := fun i hi => by
          obtain ⟨r, hr⟩ : ∃ r, R[i]? = some r := ⟨R[i]'(by omega), List.getElem?_eq_getElem (by omega)⟩
          obtain ⟨d1, _, _, d3⟩ := A3.rows i r hr
          rw [d1] at d3
          obtain ⟨cx, hx⟩ := own_blk d3
          exact blk_lt hx
        have new : h3.size ≤ lb := L4.ge lb rfl
        by_cases d1 : i = k
        · by_cases d2 : i' = k
          · omega
          · rw [if_pos d1, if_neg d2] at he
            have := old i' (by omega)
            omega
        · by_cases d2 : i' = k
          · rw [if_neg d1, if_pos d2] at he
            have := old i (by omega)
            omega
          · rw [if_neg d1, if_neg d2] at he
            exact A3.inj i i' (by omega) (by omega) he
      · by_cases d1 : i = k
        · subst d1
          simp only [if_pos] at hr
          obtain ⟨c1, c2⟩ := C4 j' r hr
          exact ⟨c1, c2.mono x3.size, fun b hb => .inr ⟨j', r, hr, hb⟩⟩
        · simp only [if_neg d1] at hr
          obtain ⟨c1, c2, c3⟩ := A4.cells i j' r (by omega) hr
          exact ⟨c1, c2, fun b hb => .inl (c3 b hb)⟩
      · rcases hb with hb | ⟨j', r, hr, hb⟩
        · exact A4.geG b hb
        · exact Nat.le_trans x3.size ((C4 j' r hr).2.ge b hb)
      · rcases hb with hb | ⟨j', r, hr, hb⟩
        · exact A4.tyG b hb
        · have := (C4 j' r hr).2
          rw [hb] at this
          obtain ⟨cx, hx⟩ := own_blk this
          exact ⟨cx, _, hx⟩
    refine ⟨(k + 1, Q', qc', R ++ [⟨some ⟨lb, 0, none⟩, j, lc⟩], (fun i => if i = k then Sr else S i), (fun i => if i = k then lb else rb i), _), ⟨rfl, rfl, slot_inc (i := k) (by omega), trivial⟩,
      ⟨by show k + 1 ≤ j; omega, hcb7, ((S3.ext y4).frT f6 (off6 _ (by decide))).frT f7 (off7 _ (by decide)), ((V3.ext y4).frT f6 (off6 _ (by decide))).frT f7 (off7 _ (by decide)), ((B3.ext y4).frT f6 (off6 _ (by decide)) (off6 _ (by decide)) (off6 _ (by decide))).frT f7 (off7 _ (by decide)) (off7 _ (by decide)) (off7 _ (by decide)), o6.frT f7 (off7 _ (by decide)), (A4'.fr f6 (off6 _ (by decide)) (off6 _ (by decide))).fr f7 (off7 _ (by decide)) (off7 _ (by decide)), x7⟩, by show j - (k + 1) < j - k; omega⟩
  have hge : ¬ (k : Int) < (p.ports.toNat : Int) := of_decide_eq_false hge
  obtain rfl : k = N := by omega
  obtain ⟨qb, hqb⟩ : ∃ qb, Q = some ⟨qb, 0, none⟩ := by
    rcases Q3 with ⟨_, e, _⟩ | ⟨b, _, e, _⟩
    · have := A3.len; rw [e] at this; simp at this; omega
    · exact ⟨b, e⟩
  subst hqb
  refine ⟨cb, G3, ⟨D.rules, D.pvl, sb, sc, VA, vc, bb, tb, qb, qc, rb⟩, rfl, ⟨cg, A3.geG, A3.tyG, fun i j hi hj => A3.inj i j (by omega) (by omega), ?_, S3, V3, B3, ⟨R, S, Q3, by rw [A3.len]; exact hN.symm, A3.rows, fun i j r hi => A3.cells i j r (by omega)⟩⟩, x3⟩
  show h3[cb]? = some (.cells [.int .i64 p.ports, D.rules, D.pvl, .int .i64 p.size.sh, .int .i64 p.size.bk, .int .i64 p.size.sl, .int .i64 p.tries, .int .i64 p.ring, .int .u32 p.normal, .int .u32 p.short, .slice (some ⟨sb, 0, none⟩) M.stands.length sc, .slice VA M.vlans.length vc, .pointer (some ⟨bb, 0, none⟩), .slice (some ⟨qb, 0, none⟩) p.ports.toNat qc].toArray 94 (0, 0))
  rw [hNt]; exact hcb3
end
end Go.Proofs.YtgiofdiifkahoaaGreatE
