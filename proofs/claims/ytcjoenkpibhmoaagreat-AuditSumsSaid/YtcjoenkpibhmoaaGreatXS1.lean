/- The sums of a report's counts. Conditions: the arguments are of their types, and not too many. -/
import Derived.Test.YtcjoenkpibhmoaaGreatXJB
set_option linter.unusedVariables false
set_option linter.unusedSimpArgs false
set_option maxRecDepth 100000
namespace Go.Proofs.YtcjoenkpibhmoaaGreatE
open Go Go.Proofs
section
variable {h : Heap}
def addC (a x : Cn) : Cn := ⟨IntKind.i64.wrap (a.off + x.off), IntKind.i64.wrap (a.full + x.full), IntKind.i64.wrap (a.sent + x.sent), IntKind.i64.wrap (a.late + x.late), IntKind.i64.wrap (a.drain + x.drain), IntKind.i64.wrap (a.wait + x.wait)⟩
def sumR (a : Cn) (l : List Cn) : Cn := l.foldl addC a
def sumsM (a : Cn) (l : List Cr) : Cn := l.foldl (fun a x => sumR a x.l) a
theorem sumR_next {l : List Cn} {a x : Cn} {i : Nat} (h : l[i]? = some x) : sumR a (l.take (i + 1)) = addC (sumR a (l.take i)) x := by
  rw [← take_next h]; unfold sumR; rw [List.foldl_append]; rfl
theorem sumsM_next {l : List Cr} {a : Cn} {x : Cr} {i : Nat} (h : l[i]? = some x) : sumsM a (l.take (i + 1)) = sumR (sumsM a (l.take i)) x.l := by
  rw [← take_next h]; unfold sumsM; rw [List.foldl_append]; rfl
set_option maxHeartbeats 4000000 in
theorem aSums_spec {r : Rp} (R : RpOk h r) (hrn : ∀ x ∈ r.cnts, x.n ≤ 20) : HCalls Tryz.prog 11 #[.agg (encRp r).toArray] h (fun v h' => v = .agg (encCn (sumsM cn0 r.cnts)).toArray ∧ Ext h h') := by
  refine xcalls env0 Tryz.func11 rfl (by kernel_rfl) rfl (by kernel_rfl) ?_
  intro rb h1 n1 ob h2 n2 wb h3 n3
  have hrb : h3[rb]? = some (.cells (encRp r).toArray 50 (0, 0)) := n3.ext.blk (n2.ext.blk n1.this)
  have hob : h3[ob]? = some (.cells (encCn cn0).toArray 57 (0, 0)) := n3.ext.blk n2.this
  have hwb : h3[wb]? = some (.cells (encCn cn0).toArray 57 (0, 0)) := n3.this
  have x3 := n1.ext.trans (n2.ext.trans n3.ext)
  refine ⟨_, cell_blk hrb rfl, ?_⟩
  have kl := R.cntsl
  have oge : h.size ≤ ob := n2.ge n1.ext
  have wge : h.size ≤ wb := n3.ge (n1.ext.trans n2.ext)
  have owne : ob ≠ wb := by have : ob < wb := n3.lt n2.this; omega
  refine ⟨Nat, fun i => [(2, .pointer (some ⟨ob, 0, none⟩)), (3, .pointer (some ⟨wb, 0, none⟩)), (9, .slice r.KA r.kn r.kc), (10, .int .i64 r.kn), (11, .int .i64 i)],
    fun i h' => i ≤ r.kn ∧ h'[wb]? = some (.cells (encCn (sumsM cn0 (r.cnts.take i))).toArray 57 (0, 0)) ∧ h'[ob]? = some (.cells (encCn cn0).toArray 57 (0, 0)) ∧ Ext h h', fun i => r.kn - i, 0, ⟨rfl, rfl, rfl, rfl, rfl, trivial⟩, ⟨Nat.zero_le _, hwb, hob, x3⟩, ?_⟩
  rintro i h4 ⟨hi, hwb4, hob4, x4⟩
  refine xif_of (fun hlt => ?_) (fun hge => ?_)
  · have hlt : (i : Int) < r.kn := of_decide_eq_true hlt
    obtain ⟨row, hrow⟩ : ∃ row, r.cnts[i]? = some row := ⟨r.cnts[i]'(by omega), List.getElem?_eq_getElem (by omega)⟩
    have RO := R.cntsr row (List.mem_of_getElem? hrow)
    have rl := RO.len
    have ks := R.cntss
    obtain ⟨ka, hKA, krd⟩ := (x4.row R.cnts) i row hrow
    have k0 : cell h4 (ka.add ((i : Int).toNat * 1)) = some (.slice row.A row.n row.c) := by
      have := krd.get 0 (v := .slice row.A row.n row.c) rfl
      rwa [add_zero'] at this
    refine ⟨ka, hKA, by omega, hlt, _, k0, ?_⟩
    have rn := hrn row (List.mem_of_getElem? hrow)
    refine ⟨Nat, fun k => [(2, .pointer (some ⟨ob, 0, none⟩)), (3, .pointer (some ⟨wb, 0, none⟩)), (9, .slice r.KA r.kn r.kc), (10, .int .i64 r.kn), (11, .int .i64 i), (15, .slice row.A row.n row.c), (16, .int .i64 row.n), (17, .int .i64 k)],
      fun k h' => k ≤ row.n ∧ h'[wb]? = some (.cells (encCn (sumR (sumsM cn0 (r.cnts.take i)) (row.l.take k))).toArray 57 (0, 0)) ∧ h'[ob]? = some (.cells (encCn cn0).toArray 57 (0, 0)) ∧ Ext h h', fun k => row.n - k, 0, ⟨rfl, rfl, rfl, rfl, rfl, rfl, rfl, rfl, trivial⟩, ⟨Nat.zero_le _, hwb4, hob4, x4⟩, ?_⟩
    rintro k h5 ⟨hk, hwb5, hob5, x5⟩
    refine xif_of (fun hlt2 => ?_) (fun hge2 => ?_)
    · have hlt2 : (k : Int) < row.n := of_decide_eq_true hlt2
      obtain ⟨c, hc⟩ : ∃ c, row.l[k]? = some c := ⟨row.l[k]'(by omega), List.getElem?_eq_getElem (by omega)⟩
      obtain ⟨ca, hCA, crd⟩ := (x5.row RO.row) k c hc
      refine ⟨ca, hCA, by omega, hlt2, encCn c, rfl, crd, ?_⟩
      intro xb h6 n6
      refine ⟨rfl, rfl, canset_blk n6.this rfl, fun h7 s7 => ?_⟩
      have hxb : h7[xb]? = some (.cells (encCn c).toArray 57 (0, 0)) := n6.fill rfl s7
      have x57 : Ext h5 h7 := n6.ext.stored s7 (n6.ge (Ext.refl _))
      have wlx : xb ≠ wb := by have : wb < xb := n6.lt hwb5; omega
      obtain ⟨a, ha⟩ : ∃ a, a = sumR (sumsM cn0 (r.cnts.take i)) (row.l.take k) := ⟨_, rfl⟩
      rw [← ha] at hwb5
      have w0 := x57.blk hwb5
      have o0 := x57.blk hob5
      refine ⟨_, cell_blk w0 rfl, _, cell_blk hxb rfl, rfl, rfl, canset_blk w0 rfl, fun g1 s1 => ?_⟩
      have w1 : g1[wb]? = some (.cells (encCn ⟨IntKind.i64.wrap (a.off + c.off), a.full, a.sent, a.late, a.drain, a.wait⟩).toArray 57 (0, 0)) := s1.put w0
      have q1 := s1.blk hxb wlx
      refine ⟨_, cell_blk w1 rfl, _, cell_blk q1 rfl, rfl, rfl, canset_blk w1 rfl, fun g2 s2 => ?_⟩
      have w2 : g2[wb]? = some (.cells (encCn ⟨IntKind.i64.wrap (a.off + c.off), IntKind.i64.wrap (a.full + c.full), a.sent, a.late, a.drain, a.wait⟩).toArray 57 (0, 0)) := s2.put w1
      have q2 := s2.blk q1 wlx
      refine ⟨_, cell_blk w2 rfl, _, cell_blk q2 rfl, rfl, rfl, canset_blk w2 rfl, fun g3 s3 => ?_⟩
      have w3 : g3[wb]? = some (.cells (encCn ⟨IntKind.i64.wrap (a.off + c.off), IntKind.i64.wrap (a.full + c.full), IntKind.i64.wrap (a.sent + c.sent), a.late, a.drain, a.wait⟩).toArray 57 (0, 0)) := s3.put w2
      have q3 := s3.blk q2 wlx
      refine ⟨_, cell_blk w3 rfl, _, cell_blk q3 rfl, rfl, rfl, canset_blk w3 rfl, fun g4 s4 => ?_⟩
      have w4 : g4[wb]? = some (.cells (encCn ⟨IntKind.i64.wrap (a.off + c.off), IntKind.i64.wrap (a.full + c.full), IntKind.i64.wrap (a.sent + c.sent), IntKind.i64.wrap (a.late + c.late), a.drain, a.wait⟩).toArray 57 (0, 0)) := s4.put w3
      have q4 := s4.blk q3 wlx
      refine ⟨_, cell_blk w4 rfl, _, cell_blk q4 rfl, rfl, rfl, canset_blk w4 rfl, fun g5 s5 => ?_⟩
      have w5 : g5[wb]? = some (.cells (encCn ⟨IntKind.i64.wrap (a.off + c.off), IntKind.i64.wrap (a.full + c.full), IntKind.i64.wrap (a.sent + c.sent), IntKind.i64.wrap (a.late + c.late), IntKind.i64.wrap (a.drain + c.drain), a.wait⟩).toArray 57 (0, 0)) := s5.put w4
      have q5 := s5.blk q4 wlx
      refine ⟨_, cell_blk w5 rfl, _, cell_blk q5 rfl, rfl, rfl, canset_blk w5 rfl, fun g6 s6 => ?_⟩
      have w6 : g6[wb]? = some (.cells (encCn (addC a c)).toArray 57 (0, 0)) := s6.put w5
      have o6 := s6.blk (s5.blk (s4.blk (s3.blk (s2.blk (s1.blk o0 owne) owne) owne) owne) owne) owne
      have x06 : Ext h g6 := ((((((x5.trans x57).stored s1 wge).stored s2 wge).stored s3 wge).stored s4 wge).stored s5 wge).stored s6 wge
      exact ⟨k + 1, ⟨rfl, rfl, rfl, rfl, rfl, rfl, rfl, slot_inc (by omega), trivial⟩, ⟨by omega, by rw [sumR_next hc, ← ha]; exact w6, o6, x06⟩, by show row.n - (k + 1) < row.n - k; omega⟩
    · have hge2 : ¬ (k : Int) < row.n := of_decide_eq_false hge2
      obtain rfl : k = row.n := by omega
      rw [List.take_of_length_le (l := row.l) (by omega), ← sumsM_next hrow] at hwb5
      exact ⟨i + 1, ⟨rfl, rfl, rfl, rfl, slot_inc (by omega), trivial⟩, ⟨by omega, hwb5, hob5, x5⟩, by show r.kn - (i + 1) < r.kn - i; omega⟩
  · have hge : ¬ (i : Int) < r.kn := of_decide_eq_false hge
    obtain rfl : i = r.kn := by omega
    rw [List.take_of_length_le (by omega)] at hwb4
    refine ⟨_, rfl, reads_all hwb4, rfl, rfl, canset_blk hob4 rfl, fun h9 s9 => ?_⟩
    have hob9 := s9.fill0 hob4 rfl
    exact ⟨_, rfl, reads_all hob9, rfl, x4.stored s9 oge⟩
end
end Go.Proofs.YtcjoenkpibhmoaaGreatE
