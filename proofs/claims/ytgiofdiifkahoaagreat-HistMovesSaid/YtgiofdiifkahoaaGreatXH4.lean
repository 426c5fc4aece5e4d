/- Histories: their entries, the order of those that took effect. Conditions: the arguments are of their types, and not too many. -/
import Derived.Test.YtgiofdiifkahoaaGreatXH3
import Derived.Test.YtgiofdiifkahoaaGreatXA4
set_option linter.unusedVariables false
set_option linter.unusedSimpArgs false
set_option maxRecDepth 100000
namespace Go.Proofs.YtgiofdiifkahoaaGreatE
open Go Go.Proofs
def env_hOrder1 : Nat → Ann
  | 1 => ⟨.op 0 [] <| .op 1 [] <| .op 2 [] <| .op 3 [] <| .op 4 [] <| .op 5 [] <| .op 6 [] <| .op 7 [] <| .op 8 [] <| .op 9 [] <| .op 10 [] <| .op 11 [] <| .nil, [0, 0, 3, 7, 15, 0, 0, 96, 224, 480, 1023, 2047], false⟩
  | _ => ⟨.nil, [], false⟩
structure He where
  who : Int
  beg : Int
  mark : Int
  fin : Int
  op : Op17
  ans : Int
def encHe (e : He) : List Value := [.int .i64 e.who, .int .i64 e.beg, .int .i64 e.mark, .int .i64 e.fin, .int .i64 e.op.kind, .int .i64 e.op.port, .int .i64 e.op.to, .int .i64 e.op.vid, .int .i64 e.op.state, .int .i64 e.op.kvid, .int .u64 e.op.mac, .int .u64 e.op.mem, .int .u64 e.op.unt, .int .u32 e.op.now, .int .u32 e.op.limit, .int .i64 e.op.shard, .int .i64 e.op.bucket, .int .i64 e.op.id, .int .i64 e.ans]
theorem encHe_len (e : He) : (encHe e).length = 19 := rfl
theorem encHe_one (e : He) : (encHe e).all Value.oneCell' = true := rfl
def op0 : Op17 := ⟨0, 0, 0, 0, 0, 0, 0, 0, 0, 0, 0, 0, 0, 0⟩
def he0 : He := ⟨0, 0, 0, 0, op0, 0⟩
/-- When the one at a place took effect. -/
def mkI (l : List He) (x : Int) : Int := (l.getD x.toNat he0).mark
theorem mkI_at {l : List He} {i : Nat} {e : He} (h : l[i]? = some e) : mkI l i = e.mark := by unfold mkI; rw [Int.toNat_natCast, List.getD_eq_getElem?_getD, h]; rfl
def ltM (l : List He) (x y : EI) : Prop := mkI l x < mkI l y
def bfM (x y : Int) : Prop := x < y
theorem ltM_swo (l : List He) : Swo (ltM l) := ⟨fun x y h => by unfold ltM at *; omega, fun x y z h k => by unfold ltM at *; omega⟩
/-- The places of the first n that took effect. -/
def plcN (l : List He) : Nat → List Int
  | 0 => []
  | n + 1 => plcN l n ++ (if 0 < mkI l n then [(n : Int)] else [])
theorem plcN_len (l : List He) : ∀ n, (plcN l n).length ≤ n
  | 0 => Nat.le_refl _
  | n + 1 => by
    have := plcN_len l n
    rw [plcN, List.length_append]
    split
    · rw [List.length_singleton]; omega
    · rw [List.length_nil]; omega
theorem plcN_mem (l : List He) : ∀ n (x : Int), x ∈ plcN l n ↔ 0 ≤ x ∧ x < n ∧ 0 < mkI l x
  | 0, x => by simp [plcN]; omega
  | n + 1, x => by
    rw [plcN, List.mem_append, plcN_mem l n]
    by_cases h : 0 < mkI l n
    · rw [if_pos h, List.mem_singleton]
      constructor
      · rintro (q | rfl)
        · exact ⟨q.1, by omega, q.2.2⟩
        · exact ⟨by omega, by omega, h⟩
      · rintro ⟨q1, q2, q3⟩
        by_cases e : x = n
        · exact .inr e
        · exact .inl ⟨q1, by omega, q3⟩
    · rw [if_neg h]
      constructor
      · rintro (q | q)
        · exact ⟨q.1, by omega, q.2.2⟩
        · cases q
      · rintro ⟨q1, q2, q3⟩
        by_cases e : x = n
        · subst e; exact absurd q3 h
        · exact .inl ⟨q1, by omega, q3⟩
theorem plcN_asc (l : List He) : ∀ n, (plcN l n).Pairwise bfM
  | 0 => List.Pairwise.nil
  | n + 1 => by
    rw [plcN]
    refine List.pairwise_append.2 ⟨plcN_asc l n, ?_, fun x hx y hy => ?_⟩
    · split
      · exact List.pairwise_singleton _ _
      · exact List.Pairwise.nil
    · split at hy
      · rw [List.mem_singleton] at hy
        have := ((plcN_mem l n x).1 hx).2.1
        unfold bfM; omega
      · cases hy
/-- The order of those that took effect. -/
structure IsOrd (l : List He) (n : Nat) (O : List Int) : Prop where
  perm : O.Perm (plcN l n)
  sorted : O.Pairwise (Lx (ltM l) bfM)
theorem IsOrd.one {l : List He} {n : Nat} {O O' : List Int} (h : IsOrd l n O) (h' : IsOrd l n O') : O = O' :=
  pw_unique (ltM_swo l) (fun x y a b => by unfold bfM at *; omega) (h.perm.trans h'.perm.symm) h.sorted h'.sorted
theorem IsOrd.mem {l : List He} {n : Nat} {O : List Int} (h : IsOrd l n O) {x : Int} (hx : x ∈ O) : 0 ≤ x ∧ x < n ∧ 0 < mkI l x := (plcN_mem l n x).1 (h.perm.mem_iff.1 hx)
theorem IsOrd.len {l : List He} {n : Nat} {O : List Int} (h : IsOrd l n O) : O.length ≤ n := by rw [h.perm.length_eq]; exact plcN_len l n
section
variable {h : Heap}
theorem cIsNan_spec (x : Int) : HCalls Tryz.prog 122 #[.int .i64 x] h (fun v h' => v = .bool false ∧ h' = h) := by
  refine xcalls env0 Tryz.func122 rfl (by kernel_rfl) rfl (by kernel_rfl) ?_
  exact ⟨congrArg Value.bool (by simp), rfl⟩
theorem cCompare_spec (x y : Int) : HCalls Tryz.prog 86 #[.int .i64 x, .int .i64 y] h (fun v h' => v = .int .i64 (if x < y then -1 else if y < x then 1 else 0) ∧ h' = h) := by
  refine xcalls env0 Tryz.func86 rfl (by kernel_rfl) rfl (by kernel_rfl) ?_
  refine (cIsNan_spec x).mono ?_
  rintro v h1 ⟨rfl, rfl⟩
  refine (cIsNan_spec y).mono ?_
  rintro v h2 ⟨rfl, rfl⟩
  refine xif_of (fun q => ?_) (fun q => ?_)
  · have q : x < y := of_decide_eq_true q
    exact ⟨by rw [if_pos q]; rfl, rfl⟩
  have q : ¬ x < y := of_decide_eq_false q
  refine xif_of (fun q2 => ?_) (fun q2 => ?_)
  · have q2 : x > y := of_decide_eq_true q2
    exact ⟨by rw [if_neg q, if_pos q2]; rfl, rfl⟩
  · have q2 : ¬ x > y := of_decide_eq_false q2
    exact ⟨by rw [if_neg q, if_neg q2]; rfl, rfl⟩
theorem heInfoI : (Tryz.prog.info? 3).map (fun i => (i.size, i.bytes)) = some (1, 8) := by kernel_rfl
theorem hOrder_cmp {A : Option Addr} {n c lb : Nat} {l : List He} (hr : Row encHe 19 h A l) (hl : l.length = n) (hb : h[lb]? = some (.cells [.slice A n c].toArray 70 (0, 0))) : CmpOk h (ltM l) (fun x => 0 ≤ x ∧ x < (n : Int)) 85 lb := by
  refine ⟨fun h1 x y e hx hy => ?_⟩
  obtain ⟨i, rfl⟩ : ∃ i : Nat, x = i := ⟨x.toNat, (Int.toNat_of_nonneg hx.1).symm⟩
  obtain ⟨j, rfl⟩ : ∃ j : Nat, y = j := ⟨y.toNat, (Int.toNat_of_nonneg hy.1).symm⟩
  have hi : (i : Int) < n := hx.2
  have hj : (j : Int) < n := hy.2
  obtain ⟨u, hu⟩ : ∃ u, l[i]? = some u := ⟨l[i]'(by omega), List.getElem?_eq_getElem (by omega)⟩
  obtain ⟨w, hw⟩ : ∃ w, l[j]? = some w := ⟨l[j]'(by omega), List.getElem?_eq_getElem (by omega)⟩
  obtain ⟨a1, hA1, r1⟩ := (e.row hr) i u hu
  obtain ⟨a2, hA2, r2⟩ := (e.row hr) j w hw
  have hb1 := e.blk hb
  have m1 := mkI_at hu
  have m2 := mkI_at hw
  have i0 : (0 : Int) ≤ i := by omega
  have j0 : (0 : Int) ≤ j := by omega
  refine xcalls env_hOrder1 Tryz.func85 rfl (by kernel_rfl) rfl (by kernel_rfl) ?_
  refine ⟨_, cell_blk hb1 rfl, a1, hA1, i0, hi, _, r1.get 2 rfl, _, cell_blk hb1 rfl, a2, hA2, j0, hj, _, r2.get 2 rfl, ?_⟩
  refine (cCompare_spec u.mark w.mark).mono ?_
  rintro v h2 ⟨rfl, rfl⟩
  refine ⟨_, rfl, ?_, Ext.refl _⟩
  unfold ltM
  rw [m1, m2]
  split
  · constructor <;> intro <;> omega
  · split
    · constructor <;> intro <;> omega
    · constructor <;> intro <;> omega
set_option maxHeartbeats 2000000 in
theorem hOrder_spec {A : Option Addr} {n c : Nat} {l : List He} (hr : Row encHe 19 h A l) (hl : l.length = n) (hn : n ≤ 2000) :
    HCalls Tryz.prog 28 #[.slice A n c] h (fun v h' => ∃ A' c' O, v = .slice A' O.length c' ∧ IsOrd l n O ∧ OwnA encI 1 3 h.size h' A' c' O ∧ Ext h h') := by
  refine xcalls env0 Tryz.func28 rfl (by kernel_rfl) rfl (by kernel_rfl) ?_
  intro lb g n1
  have hlb : g[lb]? = some (.cells [.slice A n c].toArray 70 (0, 0)) := n1.this
  have x1 := n1.ext
  refine ⟨_, cell_blk hlb rfl, ?_⟩
  refine ⟨Nat × Option Addr × Nat × Nat, fun z => [(1, .pointer (some ⟨lb, 0, none⟩)), (3, .slice z.2.1 z.2.2.2 z.2.2.1), (6, .slice A n c), (7, .int .i64 n), (8, .int .i64 z.1)],
    fun z h' => (z.1 ≤ n ∧ (plcN l z.1).length = z.2.2.2) ∧ Lst g h' z.2.1 z.2.2.1 (plcN l z.1), fun z => n - z.1, (0, none, 0, 0), ⟨rfl, rfl, rfl, rfl, rfl, trivial⟩, ⟨⟨Nat.zero_le _, rfl⟩, .inl ⟨rfl, rfl, rfl⟩, Ext.refl _⟩, ?_⟩
  rintro ⟨i, B, d, k⟩ h2 ⟨⟨hi, hk⟩, H2⟩
  simp only at hi hk H2
  refine xif_of (fun hlt => ?_) (fun hge => ?_)
  · have hlt : (i : Int) < n := of_decide_eq_true hlt
    obtain ⟨u, hu⟩ : ∃ u, l[i]? = some u := ⟨l[i]'(by omega), List.getElem?_eq_getElem (by omega)⟩
    obtain ⟨a1, hA1, r1⟩ := ((x1.trans H2.ext).row hr) i u hu
    have m1 := mkI_at hu
    refine ⟨a1, hA1, by omega, hlt, encHe u, rfl, r1, ?_⟩
    intro eb h3 n3
    refine ⟨rfl, rfl, canset_blk n3.this rfl, fun h4 s4 => ?_⟩
    have heb : h4[eb]? = some (.cells (encHe u).toArray 85 (0, 0)) := n3.fill rfl s4
    have x24 : Ext h2 h4 := n3.ext.stored s4 (n3.ge (Ext.refl _))
    have H4 := H2.after x24
    refine ⟨_, cell_blk heb rfl, ?_⟩
    refine xif_of (fun q => ?_) (fun q => ?_)
    · have q : u.mark > 0 := of_decide_eq_true q
      intro bs h5 n5
      have hpl := plcN_len l i
      refine xappend_one (x := (i : Int)) intInfo intZero rfl (by decide) encI_len encI_one H4.own n5 hk (by show (k + 1) * 8 ≤ _; omega) H4.ext.size fun B' d' h' o k' => ?_
      have e : plcN l (i + 1) = plcN l i ++ [(i : Int)] := by rw [plcN, m1, if_pos q]
      rw [← e] at o
      refine ⟨(i + 1, B', d', k + 1), ⟨rfl, rfl, rfl, rfl, slot_inc (by omega), trivial⟩, ⟨⟨by show i + 1 ≤ n; omega, by show (plcN l (i + 1)).length = k + 1; rw [e, List.length_append, hk]; rfl⟩, o, k'.ext H4.ext fun b hb => H4.own.ge b hb⟩, by show n - (i + 1) < n - i; omega⟩
    · have q : ¬ u.mark > 0 := of_decide_eq_false q
      have e : plcN l (i + 1) = plcN l i := by rw [plcN, m1, if_neg q, List.append_nil]
      exact ⟨(i + 1, B, d, k), ⟨rfl, rfl, rfl, rfl, slot_inc (by omega), trivial⟩, ⟨⟨by show i + 1 ≤ n; omega, by show (plcN l (i + 1)).length = k; rw [e, hk]⟩, by show Lst g h4 B d (plcN l (i + 1)); rw [e]; exact H4⟩, by show n - (i + 1) < n - i; omega⟩
  have hge : ¬ (i : Int) < n := of_decide_eq_false hge
  obtain rfl : i = n := by omega
  have C := hOrder_cmp (x1.row hr) hl hlb
  have hpl := plcN_len l i
  refine (gSort_spec (bf := bfM) (ltM_swo l) C H2 hk (by omega) (plcN_asc l i) (fun x hx => ⟨((plcN_mem l i x).1 hx).1, ((plcN_mem l i x).1 hx).2.1⟩)).mono ?_
  rintro v h3 ⟨O, H3, p3, s3⟩
  have := p3.length_eq
  rw [hk] at this
  exact ⟨B, d, O, by rw [this]; rfl, ⟨p3, s3⟩, H3.own.mono x1.size, x1.trans H3.ext⟩
end
end Go.Proofs.YtgiofdiifkahoaaGreatE
