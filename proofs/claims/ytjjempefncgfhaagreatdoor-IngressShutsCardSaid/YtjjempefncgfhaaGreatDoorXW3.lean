/- A new model of the document's. Conditions: the arguments are of their types. -/
import Derived.Test.YtjjempefncgfhaaGreatDoorXW1
import Derived.Test.YtjjempefncgfhaaGreatDoorXB6
import Derived.Test.YtjjempefncgfhaaGreatDoorXP1
set_option linter.unusedVariables false
set_option linter.unusedSimpArgs false
set_option maxRecDepth 100000
namespace Go.Proofs.YtjjempefncgfhaaGreatDoorE
open Go Go.Proofs
def env_rNew17 : Nat → Ann
  | 1 => ⟨.op 0 [] <| .op 1 [] <| .op 2 [] <| .op 5 [] <| .op 6 [] <| .op 8 [] <| .op 9 [] <| .alt (.op 3 [0, 6, 9] <| .op 4 [0, 2, 6, 9] <| .op 7 [0, 2, 9] <| .op 10 [0, 2] <| .op 11 [] <| .op 12 [] <| .op 13 [] <| .nil) (.op 4 [0, 2, 6, 9] <| .alt (.op 3 [0, 6, 9] <| .op 7 [0, 2, 9] <| .op 10 [0, 2] <| .op 11 [] <| .op 12 [] <| .op 13 [] <| .nil) (.op 7 [0, 2, 9] <| .alt (.op 3 [0, 6, 9] <| .op 10 [0, 2] <| .op 11 [] <| .op 12 [] <| .op 13 [] <| .nil) (.op 10 [0, 2] <| .op 3 [0, 6, 9] <| .op 11 [] <| .op 12 [] <| .op 13 [] <| .nil))), [0, 0, 2, 6, 0, 0, 32, 112, 0, 256, 1008, 2047, 4095, 8191], false⟩
  | 2 => ⟨.nil, [], true⟩
  | 5 => ⟨.op 0 [] <| .op 1 [] <| .op 2 [] <| .op 3 [] <| .op 4 [] <| .op 5 [] <| .op 6 [] <| .op 7 [4] <| .op 8 [4] <| .op 9 [] <| .op 10 [] <| .op 11 [] <| .op 12 [] <| .nil, [0, 0, 2, 6, 14, 0, 32, 96, 224, 510, 1023, 2047, 4095], false⟩
  | _ => ⟨.nil, [], false⟩
section
variable {h : Heap}
theorem slInfo2 : (Tryz.prog.info? 158).map (fun i => (i.size, i.bytes)) = some (1, 24) := by kernel_rfl
theorem slZero2 : xzero Tryz.prog 158 = some (encSl ⟨none, 0, 0⟩) := by kernel_rfl
theorem rNew17_specR {A B : Option Addr} {na ca nb cb : Nat} {vls : List Vl} {ports tries ring normal short : Int} {s : Sz} (hrb : Row encVl 3 h B vls) (hlb : vls.length = nb) (hn2 : nb ≤ 1000) (hp : 2 ≤ ports ∧ ports ≤ 64) (so : s.Ok) :
    HCalls Tryz.prog 18 #[.agg (planV ports (.slice A na ca) (.slice B nb cb) s tries ring normal short).toArray] h (fun v h' => ∃ m D, v = .pointer (some ⟨m, 0, none⟩) ∧ MdR h.size (fun _ => False) h' m D ⟨ports, s, tries, ring, normal, short⟩ (newM ⟨ports, s, tries, ring, normal, short⟩ vls) ∧ Ext h h' ∧ D.rules = .slice A na ca ∧ D.pvl = .slice B nb cb) := by
  refine xcalls env_rNew17 Tryz.func18 rfl (by kernel_rfl) rfl (by kernel_rfl) ?_
  intro ib h1 n1
  have hib : h1[ib]? = some (.cells (planV ports (.slice A na ca) (.slice B nb cb) s tries ring normal short).toArray 28 (0, 0)) := n1.this
  have ig : h.size ≤ ib := n1.ge (Ext.refl _)
  have hrow1 := n1.ext.row hrb
  obtain ⟨N, hN⟩ : ∃ N : Nat, ports = N := ⟨ports.toNat, by omega⟩
  subst hN
  have p1 : (0 : Int) ≤ N := by omega
  have p3 : ((16 : Nat) : Int) * N ≤ 140737488355328 := by omega
  have p4 : (N : Int) ≤ 9223372036854775807 := by omega
  have g1 := n1.ext.size
  refine ⟨Nat × Nat × Nat × Nat × Option Addr × Nat, fun z => [(1, .pointer (some ⟨ib, 0, none⟩)), (3, .pointer (some ⟨z.1, 0, none⟩))],
    fun z h' => h.size ≤ z.1 ∧ h'[z.1]? = some (.cells [.int .i64 N, .slice A na ca, .slice B nb cb, .int .i64 s.sh, .int .i64 s.bk, .int .i64 s.sl, .int .i64 tries, .int .i64 ring, .int .u32 normal, .int .u32 short, .slice (some ⟨z.2.1, 0, none⟩) N N, .slice z.2.2.2.2.1 nb z.2.2.2.2.2, .pointer (some ⟨z.2.2.1, 0, none⟩), .slice none 0 0].toArray 157 (0, 0)) ∧
      OwnA encSn 2 168 h.size h' (some ⟨z.2.1, 0, none⟩) N (List.replicate N ⟨0, 0⟩) ∧ OwnA encVl 3 120 h.size h' z.2.2.2.2.1 z.2.2.2.2.2 vls ∧ BkR h.size h' z.2.2.1 z.2.2.2.1 s (List.replicate (s.sh * s.bk).toNat (List.replicate s.sl.toNat Place.none)) ∧ Ext h1 h', ?_, ?_⟩
  · refine ⟨_, rfl, reads_all hib, _, cell_blk hib rfl, _, cell_blk hib rfl, [.int .i64 s.sh, .int .i64 s.bk, .int .i64 s.sl], rfl, reads_at hib rfl, ?_, ?_⟩
    · refine ⟨p1, Int.le_refl _, p3, p4, ?_⟩
      intro sb h2 m2
      have y2 := m2.ext
      rw [Int.toNat_natCast] at m2
      have S2 : OwnA encSn 2 168 h.size h2 (some ⟨sb, 0, none⟩) N (List.replicate N ⟨0, 0⟩) := OwnA.made (z := (⟨0, 0⟩ : Stn)) N m2 rfl (n1.ext.trans (Ext.refl h1)).size
      have x2 := (Ext.refl h1).trans y2
      have b2 := x2.blk hib
      refine ⟨⟨reads_at b2 rfl, cell_blk b2 rfl, reads_all b2, trivial⟩, ?_⟩
      intro bv h3 m3
      have y3 := m3.ext
      have W3 : OwnA encVl 3 120 h.size h3 (some ⟨bv, 0, none⟩) 0 ([] : List Vl) := .inr ⟨bv, [], rfl, m3.ge (n1.ext.trans x2), m3.this, rfl, Nat.le_refl _⟩
      have bvh : h3[bv]? = _ := m3.this
      have sne : sb ≠ bv := by obtain ⟨cx, hx⟩ := own_blk S2; have := m3.lt hx; omega
      have S3 := S2.ext y3
      have bge : h1.size ≤ bv := m3.ge x2
      have x3 := x2.trans y3
      have b3 := x3.blk hib
      refine ⟨⟨reads_at b3 rfl, cell_blk b3 rfl, cell_blk b3 rfl, reads_all b3, trivial⟩, ?_⟩
      refine xappend_many (xs := []) (ys := vls) (n := 0) vlInfoR vlZeroR rfl (by decide) encVl_len encVl_one W3 rfl hlb (row_readsOf encVl_len (x3.row hrow1)) (by omega) (n1.ext.trans x3).size fun E e h4 V4 k4 => ?_
      have x4 : Ext h1 h4 := k4.ext x3 fun b e => by cases e; exact bge
      have S4 := S3.fr (k4.fr' (X := fun j => (some ⟨bv, 0, none⟩ : Option Addr) = some ⟨j, 0, none⟩) fun _ e => e) (by rintro b e1 e2; cases e1; cases e2; exact sne rfl)
      have b4 := x4.blk hib
      refine ⟨⟨reads_at b4 rfl, cell_blk b4 rfl, reads_all b4, trivial⟩, ?_⟩
      refine (rbNew_spec so).mono ?_
      rintro v h5 ⟨b, tb, rfl, B5', y5⟩
      have B5 := B5'.mono (n1.ext.trans x4).size
      have S5 := S4.ext y5
      have V5 := V4.ext y5
      have x5 := x4.trans y5
      have b5 := x5.blk hib
      refine ⟨⟨cell_blk b5 rfl, reads_all b5, trivial⟩, ?_⟩
      intro m hY nY
      rw [Nat.zero_add] at nY
      exact ⟨(m, sb, b, tb, E, e), ⟨rfl, rfl, trivial⟩, nY.ge (n1.ext.trans x5), nY.this, S5.ext nY.ext, V5.ext nY.ext, B5.ext nY.ext, x5.trans nY.ext⟩
    · intro bv h2 m2
      have y2 := m2.ext
      have W2 : OwnA encVl 3 120 h.size h2 (some ⟨bv, 0, none⟩) 0 ([] : List Vl) := .inr ⟨bv, [], rfl, m2.ge (n1.ext.trans (Ext.refl h1)), m2.this, rfl, Nat.le_refl _⟩
      have bvh : h2[bv]? = _ := m2.this
      have bge : h1.size ≤ bv := m2.ge (Ext.refl h1)
      have x2 := (Ext.refl h1).trans y2
      have b2 := x2.blk hib
      refine ⟨⟨reads_at b2 rfl, cell_blk b2 rfl, cell_blk b2 rfl, reads_all b2, trivial⟩, ?_, ?_⟩
      · refine ⟨p1, Int.le_refl _, p3, p4, ?_⟩
        intro sb h3 m3
        have y3 := m3.ext
        rw [Int.toNat_natCast] at m3
        have S3 : OwnA encSn 2 168 h.size h3 (some ⟨sb, 0, none⟩) N (List.replicate N ⟨0, 0⟩) := OwnA.made (z := (⟨0, 0⟩ : Stn)) N m3 rfl (n1.ext.trans x2).size
        have sne : sb ≠ bv := by have := m3.at_; have := blk_lt bvh; omega
        have W3 := W2.ext y3
        have x3 := x2.trans y3
        have b3 := x3.blk hib
        refine ⟨⟨reads_at b3 rfl, cell_blk b3 rfl, reads_all b3, trivial⟩, ?_⟩
        refine xappend_many (xs := []) (ys := vls) (n := 0) vlInfoR vlZeroR rfl (by decide) encVl_len encVl_one W3 rfl hlb (row_readsOf encVl_len (x3.row hrow1)) (by omega) (n1.ext.trans x3).size fun E e h4 V4 k4 => ?_
        have x4 : Ext h1 h4 := k4.ext x3 fun b e => by cases e; exact bge
        have S4 := S3.fr (k4.fr' (X := fun j => (some ⟨bv, 0, none⟩ : Option Addr) = some ⟨j, 0, none⟩) fun _ e => e) (by rintro b e1 e2; cases e1; cases e2; exact sne rfl)
        have b4 := x4.blk hib
        refine ⟨⟨reads_at b4 rfl, cell_blk b4 rfl, reads_all b4, trivial⟩, ?_⟩
        refine (rbNew_spec so).mono ?_
        rintro v h5 ⟨b, tb, rfl, B5', y5⟩
        have B5 := B5'.mono (n1.ext.trans x4).size
        have S5 := S4.ext y5
        have V5 := V4.ext y5
        have x5 := x4.trans y5
        have b5 := x5.blk hib
        refine ⟨⟨cell_blk b5 rfl, reads_all b5, trivial⟩, ?_⟩
        intro m hY nY
        rw [Nat.zero_add] at nY
        exact ⟨(m, sb, b, tb, E, e), ⟨rfl, rfl, trivial⟩, nY.ge (n1.ext.trans x5), nY.this, S5.ext nY.ext, V5.ext nY.ext, B5.ext nY.ext, x5.trans nY.ext⟩
      · refine xappend_many (xs := []) (ys := vls) (n := 0) vlInfoR vlZeroR rfl (by decide) encVl_len encVl_one W2 rfl hlb (row_readsOf encVl_len (x2.row hrow1)) (by omega) (n1.ext.trans x2).size fun E e h3 V3 k3 => ?_
        have x3 : Ext h1 h3 := k3.ext x2 fun b e => by cases e; exact bge
        have b3 := x3.blk hib
        refine ⟨⟨reads_at b3 rfl, cell_blk b3 rfl, reads_all b3, trivial⟩, ?_, ?_⟩
        · refine ⟨p1, Int.le_refl _, p3, p4, ?_⟩
          intro sb h4 m4
          have y4 := m4.ext
          rw [Int.toNat_natCast] at m4
          have S4 : OwnA encSn 2 168 h.size h4 (some ⟨sb, 0, none⟩) N (List.replicate N ⟨0, 0⟩) := OwnA.made (z := (⟨0, 0⟩ : Stn)) N m4 rfl (n1.ext.trans x3).size
          have V4 := V3.ext y4
          have x4 := x3.trans y4
          have b4 := x4.blk hib
          refine ⟨⟨reads_at b4 rfl, cell_blk b4 rfl, reads_all b4, trivial⟩, ?_⟩
          refine (rbNew_spec so).mono ?_
          rintro v h5 ⟨b, tb, rfl, B5', y5⟩
          have B5 := B5'.mono (n1.ext.trans x4).size
          have S5 := S4.ext y5
          have V5 := V4.ext y5
          have x5 := x4.trans y5
          have b5 := x5.blk hib
          refine ⟨⟨cell_blk b5 rfl, reads_all b5, trivial⟩, ?_⟩
          intro m hY nY
          rw [Nat.zero_add] at nY
          exact ⟨(m, sb, b, tb, E, e), ⟨rfl, rfl, trivial⟩, nY.ge (n1.ext.trans x5), nY.this, S5.ext nY.ext, V5.ext nY.ext, B5.ext nY.ext, x5.trans nY.ext⟩
        · refine (rbNew_spec so).mono ?_
          rintro v h4 ⟨b, tb, rfl, B4', y4⟩
          have B4 := B4'.mono (n1.ext.trans x3).size
          have V4 := V3.ext y4
          have x4 := x3.trans y4
          have b4 := x4.blk hib
          refine ⟨⟨cell_blk b4 rfl, reads_all b4, trivial⟩, ?_⟩
          refine ⟨p1, Int.le_refl _, p3, p4, ?_⟩
          intro sb h5 m5
          have y5 := m5.ext
          rw [Int.toNat_natCast] at m5
          have S5 : OwnA encSn 2 168 h.size h5 (some ⟨sb, 0, none⟩) N (List.replicate N ⟨0, 0⟩) := OwnA.made (z := (⟨0, 0⟩ : Stn)) N m5 rfl (n1.ext.trans x4).size
          have V5 := V4.ext y5
          have B5 := B4.ext y5
          have x5 := x4.trans y5
          have b5 := x5.blk hib
          refine ⟨⟨reads_at b5 rfl, cell_blk b5 rfl, reads_all b5, trivial⟩, ?_⟩
          intro m hY nY
          rw [Nat.zero_add] at nY
          exact ⟨(m, sb, b, tb, E, e), ⟨rfl, rfl, trivial⟩, nY.ge (n1.ext.trans x5), nY.this, S5.ext nY.ext, V5.ext nY.ext, B5.ext nY.ext, x5.trans nY.ext⟩
  rintro ⟨m, sb, b, tb, E, e⟩ h2 ⟨mg, hm2, S2, V2, B2, x2⟩
  simp only at mg hm2 S2 V2 B2
  have hm2ge : h1.size ≤ m ∨ True := .inr trivial
  have p3' : ((24 : Nat) : Int) * N ≤ 140737488355328 := by omega
  refine ⟨Nat × Option Addr × Nat × List Sl × (Nat → Nat), fun z => [(1, .pointer (some ⟨ib, 0, none⟩)), (3, .pointer (some ⟨m, 0, none⟩)), (4, .int .i64 z.1)],
    fun z h' => (z.1 ≤ N ∧ z.2.2.2.1.length = z.1) ∧ h'[m]? = some (.cells [.int .i64 N, .slice A na ca, .slice B nb cb, .int .i64 s.sh, .int .i64 s.bk, .int .i64 s.sl, .int .i64 tries, .int .i64 ring, .int .u32 normal, .int .u32 short, .slice (some ⟨sb, 0, none⟩) N N, .slice E nb e, .pointer (some ⟨b, 0, none⟩), .slice z.2.1 z.1 z.2.2.1].toArray 157 (0, 0)) ∧
      OwnA encSn 2 168 h.size h' (some ⟨sb, 0, none⟩) N (List.replicate N ⟨0, 0⟩) ∧ OwnA encVl 3 120 h.size h' E e vls ∧ BkR h.size h' b tb s (List.replicate (s.sh * s.bk).toNat (List.replicate s.sl.toNat Place.none)) ∧
      OwnA encSl 1 158 h.size h' z.2.1 z.2.2.1 z.2.2.2.1 ∧ (∀ (i : Nat) r, z.2.2.2.1[i]? = some r → r.a = some ⟨z.2.2.2.2 i, 0, none⟩ ∧ r.n = N ∧ OwnA encSl 1 64 h.size h' r.a r.c (List.replicate N ⟨none, 0, 0⟩)) ∧ (∀ i j : Nat, i < z.1 → j < z.1 → z.2.2.2.2 i = z.2.2.2.2 j → i = j) ∧ (h'[ib]? = some (.cells (planV N (.slice A na ca) (.slice B nb cb) s tries ring normal short).toArray 28 (0, 0)) ∧ Ext h h'),
    fun z => N - z.1, (0, none, 0, [], fun _ => 0), ⟨rfl, rfl, rfl, trivial⟩, ⟨⟨Nat.zero_le _, rfl⟩, hm2, S2, V2, B2, .inl ⟨rfl, rfl, rfl⟩, (fun i r hr => by simp at hr), (fun i j hi => absurd hi (Nat.not_lt_zero _)), x2.blk hib, n1.ext.trans x2⟩, ?_⟩
  rintro ⟨k, Q, qc, R, rb⟩ h3 ⟨⟨hk, hRl⟩, hm3, S3, V3, B3, Q3, rows3, inj3, hib3, x3⟩
  simp only at hk hRl hm3 Q3 rows3 inj3
  refine ⟨_, cell_blk hib3 rfl, ?_⟩
  refine xif_of (fun hlt => ?_) (fun hge => ?_)
  · have hlt : (k : Int) < N := of_decide_eq_true hlt
    refine ⟨_, cell_blk hm3 rfl, _, cell_blk hib3 rfl, p1, Int.le_refl _, p3', p4, ?_⟩
    intro rk h4 m4
    have y4 := m4.ext
    rw [Int.toNat_natCast] at m4
    have row4 : OwnA encSl 1 64 h.size h4 (some ⟨rk, 0, none⟩) N (List.replicate N ⟨none, 0, 0⟩) := OwnA.made (z := (⟨none, 0, 0⟩ : Sl)) N m4 rfl x3.size
    have rkn : h3.size ≤ rk := m4.ge (Ext.refl _)
    have hm4 := y4.blk hm3
    have Q4 := Q3.ext y4
    refine ⟨⟨cell_blk hm4 rfl, trivial⟩, ?_⟩
    intro bs h5 n5
    refine ⟨⟨cell_blk (n5.ext.blk hm4) rfl, trivial⟩, ?_⟩
    refine xappend_one' (x := (⟨some ⟨rk, 0, none⟩, N, N⟩ : Sl)) slInfo2 slZero2 rfl (by decide) encSl_len encSl_one Q4 n5 hRl (by omega) (x3.trans y4).size fun Q' qc' h6 o6 k6 alt => ?_
    have f6 : Fr (fun j => Q = some ⟨j, 0, none⟩) h4 h6 := k6.fr' fun _ e => e
    have off : ∀ T : TypeId, (158 : TypeId) ≠ T → Off (fun j => Q = some ⟨j, 0, none⟩) h4 T := by
      intro T hT j c e g hj hc
      rw [hj] at Q4
      obtain ⟨cx, hx⟩ := own_blk Q4
      rw [ty_eq hc hx]
      exact hT
    have hm6 := f6.blk hm4 ((off _ (by decide)).not hm4)
    have hib4 := y4.blk hib3
    have hib6 := f6.blk hib4 ((off _ (by decide)).not hib4)
    refine ⟨rfl, rfl, canset_blk hm6 rfl, fun h7 s7 => ?_⟩
    have hm7 : h7[m]? = some (.cells [.int .i64 N, .slice A na ca, .slice B nb cb, .int .i64 s.sh, .int .i64 s.bk, .int .i64 s.sl, .int .i64 tries, .int .i64 ring, .int .u32 normal, .int .u32 short, .slice (some ⟨sb, 0, none⟩) N N, .slice E nb e, .pointer (some ⟨b, 0, none⟩), .slice Q' (k + 1) qc'].toArray 157 (0, 0)) := s7.put hm6
    have f7 : Fr (fun j => j = m) h6 h7 := s7.fr rfl
    have off7 : ∀ T : TypeId, (157 : TypeId) ≠ T → Off (fun j => j = m) h6 T := fun T hT => offOne hm6 hT
    have x6 : Ext h h6 := f6.ext (x3.trans y4) fun j hj => Q4.ge j hj
    have x7 : Ext h h7 := f7.ext x6 fun j hj => by rw [hj]; exact mg
    have hrl : ∀ i, i < k → ∃ r, R[i]? = some r := fun i hi => ⟨R[i]'(by omega), List.getElem?_eq_getElem (by omega)⟩
    refine ⟨(k + 1, Q', qc', R ++ [⟨some ⟨rk, 0, none⟩, N, N⟩], fun i => if i = k then rk else rb i), ⟨rfl, rfl, slot_inc (i := k) (by omega), trivial⟩,
      ⟨⟨by show k + 1 ≤ N; omega, by show (R ++ [_]).length = k + 1; simp; omega⟩, hm7, ((S3.ext y4).frT f6 (off _ (by decide))).frT f7 (off7 _ (by decide)), ((V3.ext y4).frT f6 (off _ (by decide))).frT f7 (off7 _ (by decide)), ((B3.ext y4).frT f6 (off _ (by decide)) (off _ (by decide)) (off _ (by decide))).frT f7 (off7 _ (by decide)) (off7 _ (by decide)) (off7 _ (by decide)), o6.frT f7 (off7 _ (by decide)), ?_, ?_, f7.blk hib6 ((off7 _ (by decide)).not hib6), x7⟩, by show N - (k + 1) < N - k; omega⟩
    · intro i r hr
      by_cases hik : i < k
      · have hr : R[i]? = some r := by rw [← List.getElem?_append_left (l₂ := [⟨some ⟨rk, 0, none⟩, N, N⟩]) (by omega)]; exact hr
        obtain ⟨e1, e2, e3⟩ := rows3 i r hr
        refine ⟨?_, e2, ((e3.ext y4).frT f6 (off _ (by decide))).frT f7 (off7 _ (by decide))⟩
        show r.a = some ⟨if i = k then rk else rb i, 0, none⟩
        rw [if_neg (by omega)]; exact e1
      · have hl := (List.getElem?_eq_some_iff.1 hr).1
        have hik : i = k := by simp at hl; omega
        subst hik
        have hr : (R ++ [(⟨some ⟨rk, 0, none⟩, N, N⟩ : Sl)])[i]? = some r := hr
        rw [List.getElem?_append_right (by omega), hRl, Nat.sub_self] at hr
        cases hr
        refine ⟨?_, rfl, (row4.frT f6 (off _ (by decide))).frT f7 (off7 _ (by decide))⟩
        show some (⟨rk, 0, none⟩ : Addr) = some ⟨if i = i then rk else rb i, 0, none⟩
        rw [if_pos rfl]
    · intro i j hi hj he
      have hi : i < k + 1 := hi
      have hj : j < k + 1 := hj
      have he : (if i = k then rk else rb i) = (if j = k then rk else rb j) := he
      have old : ∀ i, i < k → rb i < h3.size := fun i hi => by
        obtain ⟨r, hr⟩ := hrl i hi
        obtain ⟨e1, _, e3⟩ := rows3 i r hr
        rw [e1] at e3
        obtain ⟨cx, hx⟩ := own_blk e3
        exact blk_lt hx
      by_cases h1 : i = k
      · by_cases h2 : j = k
        · omega
        · rw [if_pos h1, if_neg h2] at he
          have := old j (by omega)
          omega
      · by_cases h2 : j = k
        · rw [if_neg h1, if_pos h2] at he
          have := old i (by omega)
          omega
        · rw [if_neg h1, if_neg h2] at he
          exact inj3 i j (by omega) (by omega) he
  have hge : ¬ (k : Int) < N := of_decide_eq_false hge
  obtain rfl : k = N := by omega
  obtain ⟨qb, hqb⟩ : ∃ qb, Q = some ⟨qb, 0, none⟩ := by
    rcases Q3 with ⟨_, e, _⟩ | ⟨b, _, e, _⟩
    · rw [e] at hRl; simp at hRl; omega
    · exact ⟨b, e⟩
  subst hqb
  refine ⟨m, ⟨.slice A na ca, .slice B nb cb, sb, k, E, e, b, tb, qb, qc, rb⟩, rfl, ⟨mg, fun _ h => h.elim, fun _ h => h.elim, fun i j hi hj he => inj3 i j (by have : (i : Int) < (k : Int) := hi; omega) (by have : (j : Int) < (k : Int) := hj; omega) he, ?_, ?_, V3, B3, ⟨R, fun _ => List.replicate k ⟨none, 0, 0⟩, Q3, by show (R.length : Int) = (k : Int); omega, ?_, ?_⟩⟩, x3, rfl, rfl⟩
  · show h3[m]? = some (.cells [.int .i64 k, .slice A na ca, .slice B nb cb, .int .i64 s.sh, .int .i64 s.bk, .int .i64 s.sl, .int .i64 tries, .int .i64 ring, .int .u32 normal, .int .u32 short, .slice (some ⟨sb, 0, none⟩) (List.replicate (k : Int).toNat (⟨0, 0⟩ : Stn)).length k, .slice E vls.length e, .pointer (some ⟨b, 0, none⟩), .slice (some ⟨qb, 0, none⟩) (k : Int).toNat qc].toArray 157 (0, 0))
    rw [List.length_replicate, Int.toNat_natCast, hlb]
    exact hm3
  · show OwnA encSn 2 168 h.size h3 (some ⟨sb, 0, none⟩) k (List.replicate (k : Int).toNat ⟨0, 0⟩)
    rw [Int.toNat_natCast]
    exact S3
  · intro i r hr
    obtain ⟨e1, e2, e3⟩ := rows3 i r hr
    exact ⟨e1, by rw [e2, List.length_replicate], by show ((List.replicate k (⟨none, 0, 0⟩ : Sl)).length : Int) = (k : Int); rw [List.length_replicate], e3⟩
  · intro i j r hi hr
    have := (List.mem_replicate.1 (List.mem_of_getElem? hr)).2
    subst this
    exact ⟨rfl, .inl ⟨rfl, rfl, rfl⟩, fun b e => by cases e⟩
theorem rNew17_spec {A B : Option Addr} {na ca nb cb : Nat} {vls : List Vl} {ports tries ring normal short : Int} {s : Sz} (hrb : Row encVl 3 h B vls) (hlb : vls.length = nb) (hn2 : nb ≤ 1000) (hp : 2 ≤ ports ∧ ports ≤ 64) (so : s.Ok) :
    HCalls Tryz.prog 18 #[.agg (planV ports (.slice A na ca) (.slice B nb cb) s tries ring normal short).toArray] h (fun v h' => ∃ m D, v = .pointer (some ⟨m, 0, none⟩) ∧ MdR h.size (fun _ => False) h' m D ⟨ports, s, tries, ring, normal, short⟩ (newM ⟨ports, s, tries, ring, normal, short⟩ vls) ∧ Ext h h') := by
  refine (rNew17_specR hrb hlb hn2 hp so).mono ?_
  rintro v h1 ⟨m, D, e1, e2, e3, _⟩
  exact ⟨m, D, e1, e2, e3⟩
end
end Go.Proofs.YtjjempefncgfhaaGreatDoorE
/- The program's model's shape. Conditions: the arguments are of their types. -/
set_option linter.unusedVariables false
set_option linter.unusedSimpArgs false
set_option maxRecDepth 100000
namespace Go.Proofs.YtjjempefncgfhaaGreatDoorE
open Go Go.Proofs
section
variable {base : Nat} {F : Nat → Prop} {h h1 h' : Heap} {m : Nat} {D : Dat} {p : Pl} {M M' : Md}
theorem snInfo : (Tryz.prog.info? 167).map (fun i => (i.size, i.bytes)) = some (2, 16) := by kernel_rfl
theorem snZero : xzero Tryz.prog 167 = some (encSn ⟨0, 0⟩) := by kernel_rfl
/-- Lists of lists, as they are read. -/
def Rows2 {α : Type} (enc : α → List Value) (sz : Nat) (h : Heap) (R : List Sl) (L : List (List α)) : Prop := ∀ (i : Nat) r l, R[i]? = some r → L[i]? = some l → r.n = l.length ∧ Row enc sz h r.a l
def Rows3 (h : Heap) (R : List Sl) (n : Nat) (q : Int → Int → List Int) : Prop := ∀ (i : Nat) r, R[i]? = some r → r.n = n ∧ ∃ S : List Sl, S.length = n ∧ Row encSl 1 h r.a S ∧ ∀ (j : Nat) t, S[j]? = some t → t.n = (q i j).length ∧ Row encI 1 h t.a (q i j)
theorem bksInfo : (Tryz.prog.info? 173).map (fun i => (i.size, i.bytes)) = some (1, 24) := by kernel_rfl
theorem bksZero : xzero Tryz.prog 173 = some (encSl ⟨none, 0, 0⟩) := by kernel_rfl
theorem slInfo1 : (Tryz.prog.info? 64).map (fun i => (i.size, i.bytes)) = some (1, 24) := by kernel_rfl
theorem slZero1 : xzero Tryz.prog 64 = some (encSl ⟨none, 0, 0⟩) := by kernel_rfl
end
end Go.Proofs.YtjjempefncgfhaaGreatDoorE
