/- A shape is as the document's model has it; a model is as the document's. Conditions: both are of one state. -/
import Derived.Test.YtgiofdiifkahoaaGreatXW4
import Derived.Test.YtgiofdiifkahoaaGreatXB6
set_option linter.unusedVariables false
set_option linter.unusedSimpArgs false
set_option maxRecDepth 100000
namespace Go.Proofs.YtgiofdiifkahoaaGreatE
open Go Go.Proofs
def env_lShaped : Nat → Ann
  | 2 => ⟨.op 0 [] <| .op 1 [] <| .op 2 [] <| .op 3 [] <| .op 4 [] <| .op 5 [] <| .op 6 [] <| .op 7 [] <| .op 8 [] <| .op 9 [] <| .op 10 [] <| .op 11 [] <| .op 12 [] <| .op 13 [] <| .op 14 [] <| .op 15 [] <| .op 16 [] <| .op 17 [] <| .op 18 [] <| .op 19 [] <| .op 20 [] <| .op 21 [] <| .op 22 [] <| .op 23 [] <| .op 24 [] <| .op 25 [] <| .op 26 [] <| .op 27 [] <| .op 28 [] <| .op 29 [] <| .op 30 [] <| .op 31 [] <| .op 32 [] <| .op 33 [] <| .op 34 [] <| .op 35 [] <| .op 36 [] <| .op 37 [] <| .op 38 [] <| .op 39 [] <| .op 40 [] <| .op 41 [] <| .nil, [0, 1, 3, 0, 8, 24, 56, 120, 255, 511, 1023, 2047, 4095, 1023, 9215, 25599, 58367, 123903, 262143, 524287, 1048575, 2097151, 4194303, 8388607, 2097151, 18874367, 52428799, 119537663, 253755391, 536870911, 1073741823, 2147483647, 4294967295, 8589934591, 17179869183, 4294967295, 38654705663, 107374182399, 244813135871, 519691042815, 1099511627775, 2199023255551], false⟩
  | 7 => ⟨.op 0 [] <| .op 1 [] <| .op 2 [] <| .op 3 [] <| .op 4 [] <| .op 5 [] <| .op 6 [] <| .op 7 [] <| .op 8 [] <| .op 9 [] <| .op 10 [] <| .op 11 [] <| .op 12 [] <| .op 13 [] <| .op 14 [] <| .op 15 [] <| .op 16 [] <| .op 17 [] <| .op 18 [] <| .op 19 [] <| .op 20 [] <| .op 21 [] <| .op 22 [] <| .op 23 [] <| .op 24 [] <| .op 25 [] <| .op 26 [] <| .op 27 [] <| .op 28 [] <| .op 29 [] <| .op 30 [] <| .op 31 [] <| .op 32 [] <| .op 33 [] <| .op 34 [] <| .op 35 [] <| .op 36 [] <| .op 37 [] <| .op 38 [] <| .op 39 [] <| .op 40 [] <| .op 41 [] <| .op 42 [] <| .op 43 [] <| .op 44 [] <| .op 45 [] <| .op 46 [] <| .op 47 [] <| .op 48 [] <| .nil, [0, 1, 0, 7, 15, 31, 0, 64, 192, 448, 0, 1984, 4032, 8128, 16383, 32767, 65535, 131071, 65535, 524287, 1048575, 2097151, 65535, 4259839, 12648447, 29425663, 65535, 130088959, 264306687, 532742143, 1073741823, 2147483647, 4294967295, 8589934591, 17179869183, 8589934591, 68719476735, 137438953471, 274877906943, 8589934591, 558345748479, 1657857376255, 3856880631807, 8589934591, 17051020165119, 34643206209535, 69827578298367, 140737488355327, 281474976710655], false⟩
  | 12 => ⟨.op 0 [] <| .op 1 [] <| .op 2 [] <| .op 3 [] <| .op 4 [] <| .op 5 [] <| .op 6 [] <| .op 7 [] <| .op 8 [] <| .op 9 [] <| .op 10 [] <| .op 11 [] <| .op 12 [] <| .op 13 [] <| .op 14 [] <| .op 15 [] <| .op 16 [] <| .op 17 [] <| .op 18 [] <| .op 19 [] <| .op 20 [] <| .op 21 [] <| .op 22 [] <| .op 23 [] <| .op 24 [] <| .op 25 [] <| .op 26 [] <| .op 27 [] <| .op 28 [] <| .op 29 [] <| .op 30 [] <| .op 31 [] <| .op 32 [] <| .op 33 [] <| .op 34 [] <| .op 35 [] <| .op 36 [] <| .op 37 [] <| .op 38 [] <| .op 39 [] <| .op 40 [] <| .op 41 [] <| .op 42 [] <| .op 43 [] <| .op 44 [] <| .op 45 [] <| .nil, [0, 1, 0, 7, 15, 31, 0, 64, 192, 448, 0, 1984, 4032, 8128, 16383, 32767, 65535, 131071, 65535, 524287, 1048575, 2097151, 65535, 4259839, 12648447, 29425663, 65535, 130088959, 264306687, 532742143, 1073741823, 2147483647, 4294967295, 8589934591, 17179869183, 8589934591, 68719476735, 137438953471, 274877906943, 8589934591, 558345748479, 1657857376255, 3856880631807, 8254927142911, 17592186044415, 35184372088831], false⟩
  | 17 => ⟨.op 0 [] <| .op 1 [] <| .op 2 [] <| .op 3 [] <| .op 4 [] <| .op 5 [] <| .op 6 [] <| .op 7 [] <| .op 8 [] <| .op 9 [] <| .op 10 [] <| .op 11 [] <| .op 12 [] <| .op 13 [] <| .op 14 [] <| .op 15 [] <| .op 16 [] <| .op 17 [] <| .op 18 [] <| .op 19 [] <| .nil, [0, 1, 0, 7, 15, 0, 63, 127, 0, 256, 768, 1792, 0, 7936, 16128, 0, 65280, 130816, 262143, 524287], false⟩
  | 22 => ⟨.op 0 [] <| .op 1 [] <| .op 2 [] <| .op 3 [] <| .op 4 [] <| .op 6 [] <| .op 7 [] <| .op 8 [] <| .op 9 [] <| .op 10 [] <| .op 11 [] <| .op 12 [] <| .op 5 [9, 12] <| .op 13 [] <| .op 14 [] <| .nil, [0, 1, 0, 7, 15, 31, 0, 64, 192, 448, 0, 1984, 4032, 8191, 16383], false⟩
  | _ => ⟨.nil, [], false⟩
def env_lSame17 : Nat → Ann
  | 7 => ⟨.op 0 [] <| .op 1 [] <| .op 2 [] <| .op 3 [] <| .op 4 [] <| .op 5 [] <| .op 6 [] <| .op 7 [] <| .op 8 [] <| .op 9 [] <| .op 10 [] <| .op 11 [] <| .op 12 [] <| .op 13 [] <| .op 14 [] <| .op 15 [] <| .op 16 [] <| .op 17 [] <| .op 18 [] <| .op 19 [] <| .op 20 [] <| .op 21 [] <| .op 22 [] <| .nil, [0, 0, 2, 6, 14, 30, 63, 127, 255, 255, 1023, 2047, 4095, 255, 8447, 24831, 57599, 255, 254207, 516351, 1040639, 2097151, 4194303], false⟩
  | 13 => ⟨.op 0 [] <| .op 1 [] <| .op 2 [] <| .op 3 [] <| .op 4 [] <| .op 5 [] <| .op 6 [] <| .op 7 [] <| .op 8 [] <| .op 9 [] <| .op 10 [] <| .op 11 [] <| .op 12 [] <| .op 13 [] <| .op 14 [] <| .op 15 [] <| .op 16 [] <| .op 17 [] <| .op 18 [] <| .op 19 [] <| .op 20 [] <| .op 21 [] <| .op 22 [] <| .op 23 [] <| .nil, [0, 1, 0, 4, 12, 28, 0, 124, 252, 508, 1023, 2047, 4095, 8191, 4095, 20479, 53247, 118783, 4095, 511999, 1036287, 2084863, 4194303, 8388607], false⟩
  | 18 => ⟨.op 0 [] <| .op 1 [] <| .op 2 [] <| .op 4 [] <| .op 5 [] <| .op 6 [] <| .op 7 [] <| .op 8 [] <| .op 9 [] <| .op 10 [] <| .op 11 [] <| .op 12 [] <| .op 13 [] <| .op 3 [7, 10, 13] <| .op 14 [] <| .op 15 [] <| .nil, [0, 0, 0, 7, 0, 16, 48, 112, 0, 496, 1008, 0, 4080, 8176, 16383, 32767], false⟩
  | 24 => ⟨.op 0 [] <| .op 1 [] <| .op 2 [] <| .op 3 [] <| .op 4 [] <| .op 5 [] <| .op 6 [] <| .op 7 [] <| .op 8 [] <| .op 9 [] <| .op 10 [] <| .op 11 [] <| .op 12 [] <| .op 13 [] <| .op 14 [] <| .op 17 [] <| .op 18 [] <| .op 19 [] <| .op 20 [] <| .op 21 [] <| .op 22 [] <| .op 23 [] <| .op 15 [20, 23] <| .op 16 [20, 23] <| .op 24 [] <| .op 25 [] <| .nil, [0, 0, 0, 4, 12, 28, 60, 126, 0, 0, 512, 1536, 3584, 7680, 16128, 32767, 65535, 0, 131072, 393216, 917504, 0, 4063232, 8257536, 16777215, 33554431], false⟩
  | _ => ⟨.nil, [], false⟩
section
variable {base base' : Nat} {F G : Nat → Prop} {h h1 h' : Heap} {m w : Nat} {D D' : Dat} {p : Pl} {M M' : Md}
structure ShapeAt (h : Heap) (p : Pl) (M : Md) (SA VA BA QA : Option Addr) (B Q : List Sl) : Prop where
  st : Row encSn 2 h SA M.stands
  vl : Row encVl 3 h VA M.vlans
  bl : B.length = M.book.length
  b : Row encSl 1 h BA B
  bs : Rows2 encP 6 h B M.book
  ql : Q.length = p.ports.toNat
  q : Row encSl 1 h QA Q
  qs : Rows3 h Q p.ports.toNat M.queues
theorem ShapeAt.ext {SA VA BA QA : Option Addr} {B Q : List Sl} (H : ShapeAt h p M SA VA BA QA B Q) (x : Ext h h') : ShapeAt h' p M SA VA BA QA B Q := by
  refine ⟨x.row H.st, x.row H.vl, H.bl, x.row H.b, fun i r l hr hl => ⟨(H.bs i r l hr hl).1, x.row (H.bs i r l hr hl).2⟩, H.ql, x.row H.q, fun i r hr => ?_⟩
  obtain ⟨e, S, e2, r1, r2⟩ := H.qs i r hr
  exact ⟨e, S, e2, x.row r1, fun j t ht => ⟨(r2 j t ht).1, x.row (r2 j t ht).2⟩⟩
theorem lShaped_spec (po : p.Ok) (K : MdOk p M) (hv : M.vlans.length ≤ 1000) (W : MdR base' G h w D' p M) {SA VA BA QA : Option Addr} {sc vc bc qc : Nat} {B Q : List Sl} (S : ShapeAt h p M SA VA BA QA B Q) :
    HCalls Tryz.prog 63 #[.agg #[.slice SA M.stands.length sc, .slice VA M.vlans.length vc, .slice BA M.book.length bc, .slice QA p.ports.toNat qc], .pointer (some ⟨w, 0, none⟩)] h (fun v h' => v = .bool true ∧ Ext h h') := by
  refine xcalls env_lShaped Tryz.func63 rfl (by kernel_rfl) rfl (by kernel_rfl) ?_
  have hst := K.st
  have hp2 := po.lo
  have hp64 := po.hi
  intro sb h1 n1
  have hsb : h1[sb]? = some (.cells [.slice SA M.stands.length sc, .slice VA M.vlans.length vc, .slice BA M.book.length bc, .slice QA p.ports.toNat qc].toArray 147 (0, 0)) := n1.this
  have x1 := n1.ext
  have W1 := W.ext x1
  refine ⟨_, cell_blk W1.blk rfl, ?_⟩
  refine ⟨_, cell_blk hsb rfl, _, cell_blk W1.blk rfl, ?_⟩
  refine xif_of (fun q => absurd q (by simp)) (fun _ => ?_)
  refine ⟨_, cell_blk hsb rfl, _, cell_blk W1.blk rfl, ?_⟩
  refine xif_of (fun q => absurd q (by simp [hst])) (fun _ => ?_)
  refine ⟨_, cell_blk hsb rfl, _, cell_blk W1.blk rfl, ?_⟩
  refine xif_of (fun q => absurd q (by simp; omega)) (fun _ => ?_)
  obtain ⟨c0, c1, c2, ⟨cap, _, c3⟩, _⟩ := W1.book.cells
  refine ⟨_, cell_blk hsb rfl, _, c3, ?_⟩
  refine xif_of (fun q => absurd q (by simp)) (fun _ => ?_)
  refine ⟨Nat, fun i => [(1, .pointer (some ⟨w, 0, none⟩)), (2, .pointer (some ⟨sb, 0, none⟩)), (5, .pointer (some ⟨D'.b, 0, none⟩)), (6, .int .i64 i)], fun i h' => i ≤ M.vlans.length ∧ h' = h1, fun i => M.vlans.length - i, 0, ⟨rfl, rfl, rfl, rfl, trivial⟩, ⟨Nat.zero_le _, rfl⟩, ?_⟩
  rintro i h2 ⟨hi, rfl⟩
  refine ⟨_, cell_blk hsb rfl, ?_⟩
  refine xif_of (fun hlt => ?_) (fun hge => ?_)
  · have hlt : (i : Int) < M.vlans.length := of_decide_eq_true hlt
    have i0 : (0 : Int) ≤ i := by omega
    obtain ⟨v, hv'⟩ : ∃ v, M.vlans[i]? = some v := ⟨M.vlans[i]'(by omega), List.getElem?_eq_getElem (by omega)⟩
    obtain ⟨a, hA, hrd⟩ := (x1.row S.vl) i v hv'
    obtain ⟨a', hA', hrd'⟩ := (W1.vlans.row encVl_len) i v hv'
    refine ⟨_, cell_blk hsb rfl, a, hA, i0, hlt, _, hrd.get 0 rfl, _, cell_blk W1.blk rfl, a', hA', i0, hlt, _, hrd'.get 0 rfl, ?_⟩
    refine xif_of (fun q => absurd q (by simp)) (fun _ => ?_)
    refine ⟨_, cell_blk hsb rfl, a, hA, i0, hlt, _, hrd.get 1 rfl, _, cell_blk W1.blk rfl, a', hA', i0, hlt, _, hrd'.get 1 rfl, ?_⟩
    refine xif_of (fun q => absurd q (by simp)) (fun _ => ?_)
    refine ⟨_, cell_blk hsb rfl, a, hA, i0, hlt, _, hrd.get 2 rfl, _, cell_blk W1.blk rfl, a', hA', i0, hlt, _, hrd'.get 2 rfl, ?_⟩
    refine xif_of (fun q => absurd q (by simp)) (fun _ => ?_)
    exact ⟨i + 1, ⟨rfl, rfl, rfl, slot_inc (by omega), trivial⟩, ⟨by omega, rfl⟩, by show M.vlans.length - (i + 1) < M.vlans.length - i; omega⟩
  obtain ⟨N, hN⟩ : ∃ N : Nat, p.ports = N := ⟨p.ports.toNat, by omega⟩
  have hNN : p.ports.toNat = N := by omega
  refine ⟨Nat, fun i => [(1, .pointer (some ⟨w, 0, none⟩)), (2, .pointer (some ⟨sb, 0, none⟩)), (5, .pointer (some ⟨D'.b, 0, none⟩)), (7, .int .i64 i)], fun i h' => i ≤ N ∧ Ext h2 h', fun i => N - i, 0, ⟨rfl, rfl, rfl, rfl, trivial⟩, ⟨Nat.zero_le _, Ext.refl _⟩, ?_⟩
  rintro k h3 ⟨hk, x3⟩
  have W3 := W1.ext x3
  have hsb3 := x3.blk hsb
  have S3 := S.ext (x1.trans x3)
  refine ⟨_, cell_blk W3.blk rfl, ?_⟩
  refine xif_of (fun hlt => ?_) (fun hge => ?_)
  · have hlt : (k : Int) < p.ports := of_decide_eq_true hlt
    have k0 : (0 : Int) ≤ k := by omega
    have hlt' : (k : Int) < M.stands.length := by omega
    obtain ⟨v, hv'⟩ : ∃ v, M.stands[k]? = some v := ⟨M.stands[k]'(by omega), List.getElem?_eq_getElem (by omega)⟩
    obtain ⟨a, hA, hrd⟩ := S3.st k v hv'
    obtain ⟨a', hA', hrd'⟩ := (W3.stands.row encSn_len) k v hv'
    have hql := S3.ql
    obtain ⟨r, hr⟩ : ∃ r, Q[k]? = some r := ⟨Q[k]'(by omega), List.getElem?_eq_getElem (by omega)⟩
    obtain ⟨aq, hAq, hrq⟩ := S3.q k r hr
    obtain ⟨rn, T, Tl, rT, rS⟩ := S3.qs k r hr
    have hlq : (k : Int) < p.ports.toNat := by omega
    refine ⟨_, cell_blk hsb3 rfl, a, hA, k0, hlt', _, hrd.get 0 rfl, _, cell_blk W3.blk rfl, a', hA', k0, hlt', _, hrd'.get 0 rfl, ?_⟩
    refine xif_of (fun q => absurd q (by simp)) (fun _ => ?_)
    refine ⟨_, cell_blk hsb3 rfl, a, hA, k0, hlt', _, hrd.get 1 rfl, _, cell_blk W3.blk rfl, a', hA', k0, hlt', _, hrd'.get 1 rfl, ?_⟩
    refine xif_of (fun q => absurd q (by simp)) (fun _ => ?_)
    refine ⟨_, cell_blk hsb3 rfl, aq, hAq, k0, hlq, _, hrq.get 0 rfl, _, cell_blk W3.blk rfl, ?_⟩
    refine xif_of (fun q => absurd q (by simp; omega)) (fun _ => ?_)
    refine ⟨Nat, fun j => [(1, .pointer (some ⟨w, 0, none⟩)), (2, .pointer (some ⟨sb, 0, none⟩)), (5, .pointer (some ⟨D'.b, 0, none⟩)), (7, .int .i64 k), (8, .int .i64 j)], fun j h' => j ≤ N ∧ Ext h3 h', fun j => N - j, 0, ⟨rfl, rfl, rfl, rfl, rfl, trivial⟩, ⟨Nat.zero_le _, Ext.refl _⟩, ?_⟩
    rintro j h4 ⟨hj, x4⟩
    have W4 := W3.ext x4
    have hsb4 := x4.blk hsb3
    have S4 := S3.ext x4
    refine ⟨_, cell_blk W4.blk rfl, ?_⟩
    refine xif_of (fun hlt2 => ?_) (fun hge2 => ?_)
    · have hlt2 : (j : Int) < p.ports := of_decide_eq_true hlt2
      have j0 : (0 : Int) ≤ j := by omega
      obtain ⟨aq, hAq, hrq⟩ := S4.q k r hr
      obtain ⟨rn, T, Tl, rT, rS⟩ := S4.qs k r hr
      obtain ⟨t, ht⟩ : ∃ t, T[j]? = some t := ⟨T[j]'(by omega), List.getElem?_eq_getElem (by omega)⟩
      obtain ⟨at', hAt, hrt⟩ := rT j t ht
      obtain ⟨tn, rQ⟩ := rS j t ht
      obtain ⟨⟨cc, q1⟩, A2, c2, q2, oq, _⟩ := W4.queue hlt hlt2
      have hlj : (j : Int) < r.n := by omega
      have hlj' : (j : Int) < p.ports.toNat := by omega
      have q1' : cell h4 ((⟨D'.mb, 0, none⟩ : Addr).add ((k : Int).toNat * 1)) = some (.slice (some ⟨D'.rb k, 0, none⟩) p.ports.toNat cc) := by rw [add_lit]; simpa using q1
      have q2' : cell h4 ((⟨D'.rb k, 0, none⟩ : Addr).add ((j : Int).toNat * 1)) = some (.slice A2 (M.queues k j).length c2) := by rw [add_lit]; simpa using q2
      have hlen := K.q k j
      have hrg := po.ring1
      refine ⟨_, cell_blk hsb4 rfl, aq, hAq, k0, hlq, _, hrq.get 0 rfl, at', hAt, j0, hlj, _, hrt.get 0 rfl, _, cell_blk W4.blk rfl, _, rfl, k0, hlq, _, q1', _, rfl, j0, hlj', _, q2', ?_⟩
      rw [tn]
      refine (l3Ints_spec rQ (oq.row encI_len) rfl rfl (by omega) (by omega)).mono ?_
      rintro v h5 ⟨rfl, x5⟩
      refine xif_of (fun q => absurd q (by simp)) (fun _ => ?_)
      exact ⟨j + 1, ⟨rfl, rfl, rfl, rfl, slot_inc (by omega), trivial⟩, ⟨by omega, x4.trans x5⟩, by show N - (j + 1) < N - j; omega⟩
    exact ⟨k + 1, ⟨rfl, rfl, rfl, slot_inc (by omega), trivial⟩, ⟨by omega, x3.trans x4⟩, by show N - (k + 1) < N - k; omega⟩
  refine ⟨Nat, fun i => [(1, .pointer (some ⟨w, 0, none⟩)), (2, .pointer (some ⟨sb, 0, none⟩)), (5, .pointer (some ⟨D'.b, 0, none⟩)), (9, .int .i64 i)], fun i h' => i ≤ M.book.length ∧ Ext h3 h', fun i => M.book.length - i, 0, ⟨rfl, rfl, rfl, rfl, trivial⟩, ⟨Nat.zero_le _, Ext.refl _⟩, ?_⟩
  rintro i h4 ⟨hi, x4⟩
  have W4 := W3.ext x4
  have hsb4 := x4.blk hsb3
  have S4 := S3.ext x4
  obtain ⟨_, _, _, ⟨cap4, _, c34⟩, _⟩ := W4.book.cells
  refine ⟨_, c34, ?_⟩
  have hL := K.book.bok.len
  have hm := po.size.many
  refine xif_of (fun hlt => ?_) (fun hge => ?_)
  · have hlt : (i : Int) < M.book.length := of_decide_eq_true hlt
    have i0 : (0 : Int) ≤ i := by omega
    obtain ⟨l, hl⟩ : ∃ l, M.book[i]? = some l := ⟨M.book[i]'(by omega), List.getElem?_eq_getElem (by omega)⟩
    have hbl := S4.bl
    obtain ⟨r, hr⟩ : ∃ r, B[i]? = some r := ⟨B[i]'(by omega), List.getElem?_eq_getElem (by omega)⟩
    obtain ⟨ab, hAb, hrb⟩ := S4.b i r hr
    obtain ⟨rn, rl⟩ := S4.bs i r l hr hl
    obtain ⟨A2, c2, q2, oq⟩ := W4.book.bucket hl
    have q2' : cell h4 ((⟨D'.tb, 0, none⟩ : Addr).add ((i : Int).toNat * 1)) = some (.slice A2 l.length c2) := by rw [add_lit]; simpa using q2
    have hll : l.length ≤ 1000000 := by
      have := K.book.bok.each l (List.mem_of_getElem? hl)
      have := po.size.sl2
      omega
    refine ⟨_, cell_blk hsb4 rfl, ab, hAb, i0, hlt, _, hrb.get 0 rfl, _, c34, _, rfl, i0, hlt, _, q2', ?_⟩
    rw [rn]
    refine (l10From_spec rl rfl hll).mono ?_
    rintro v h5 ⟨A5, c5, rfl, o5, x5⟩
    refine ⟨⟨x5.cell q2', x5.cell c34, trivial⟩, ?_⟩
    refine (rSame_spec (o5.row encP_len) (x5.row (oq.row encP_len)) rfl rfl hll).mono ?_
    rintro v h6 ⟨rfl, rfl⟩
    refine xif_of (fun q => absurd q (by simp)) (fun _ => ?_)
    exact ⟨i + 1, ⟨rfl, rfl, rfl, slot_inc (by omega), trivial⟩, ⟨by omega, x4.trans x5⟩, by show M.book.length - (i + 1) < M.book.length - i; omega⟩
  exact ⟨rfl, x1.trans (x3.trans x4)⟩
theorem lSame17_spec (po : p.Ok) (K : MdOk p M) (hv : M.vlans.length ≤ 1000) (H : MdP base F h m D p M) (W : MdR base' G h w D' p M) :
    HCalls Tryz.prog 17 #[.pointer (some ⟨m, 0, none⟩), .pointer (some ⟨w, 0, none⟩)] h (fun v h' => v = .bool true ∧ Ext h h') := by
  refine xcalls env_lSame17 Tryz.func17 rfl (by kernel_rfl) rfl (by kernel_rfl) ?_
  have hst := K.st
  have hp2 := po.lo
  have hp64 := po.hi
  refine (mShape_spec po K hv H).mono ?_
  rintro v h1 ⟨SA, VA, BA, QA, sc, vc, bc, qc, B, Q, rfl, s1, s2, ⟨s3, s4, s5⟩, ⟨s6, s7, s8⟩, x1⟩
  refine (lShaped_spec po K hv (W.ext x1) ⟨s1, s2, s3, s4, s5, s6, s7, s8⟩).mono ?_
  rintro v h2 ⟨rfl, x2⟩
  have x02 := x1.trans x2
  refine (mVlans_spec (H.ext x02) (by omega)).mono ?_
  rintro v h3 ⟨VA3, vc3, rfl, oV3, x3⟩
  have x03 := x02.trans x3
  have H3 := H.ext x03
  have W3 := W.ext x03
  refine ⟨Nat, fun i => [(0, .pointer (some ⟨m, 0, none⟩)), (1, .pointer (some ⟨w, 0, none⟩)), (5, .slice VA3 M.vlans.length vc3), (6, .int .i64 i)], fun i h' => i ≤ M.vlans.length ∧ h' = h3, fun i => M.vlans.length - i, 0, ⟨rfl, rfl, rfl, rfl, trivial⟩, ⟨Nat.zero_le _, rfl⟩, ?_⟩
  rintro i h4 ⟨hi, rfl⟩
  refine xif_of (fun hlt => ?_) (fun hge => ?_)
  · have hlt : (i : Int) < M.vlans.length := of_decide_eq_true hlt
    have i0 : (0 : Int) ≤ i := by omega
    obtain ⟨v, hv'⟩ : ∃ v, M.vlans[i]? = some v := ⟨M.vlans[i]'(by omega), List.getElem?_eq_getElem (by omega)⟩
    obtain ⟨a, hA, hrd⟩ := (oV3.row encVl_len) i v hv'
    obtain ⟨a', hA', hrd'⟩ := (W3.vlans.row encVl_len) i v hv'
    refine ⟨_, cell_blk W3.blk rfl, ?_⟩
    refine xif_of (fun q => absurd (of_decide_eq_true q) (by omega)) (fun _ => ?_)
    refine ⟨a, hA, i0, hlt, _, hrd.get 1 rfl, _, cell_blk W3.blk rfl, a', hA', i0, hlt, _, hrd'.get 1 rfl, ?_⟩
    refine xif_of (fun q => absurd q (by simp)) (fun _ => ?_)
    exact ⟨i + 1, ⟨rfl, rfl, rfl, slot_inc (by omega), trivial⟩, ⟨by omega, rfl⟩, by show M.vlans.length - (i + 1) < M.vlans.length - i; omega⟩
  obtain ⟨N, hN⟩ : ∃ N : Nat, p.ports = N := ⟨p.ports.toNat, by omega⟩
  refine ⟨Nat, fun i => [(0, .pointer (some ⟨m, 0, none⟩)), (1, .pointer (some ⟨w, 0, none⟩)), (5, .slice VA3 M.vlans.length vc3), (7, .int .i64 i)], fun i h' => i ≤ N ∧ Ext h4 h', fun i => N - i, 0, ⟨rfl, rfl, rfl, rfl, trivial⟩, ⟨Nat.zero_le _, Ext.refl _⟩, ?_⟩
  rintro k h5 ⟨hk, x5⟩
  have W5 := W3.ext x5
  have H5 := H3.ext x5
  refine ⟨_, cell_blk W5.blk rfl, ?_⟩
  refine xif_of (fun hlt => ?_) (fun hge => ?_)
  · have hlt : (k : Int) < p.ports := of_decide_eq_true hlt
    have k0 : (0 : Int) ≤ k := by omega
    have hik : inP p k := ⟨k0, hlt⟩
    have hlt' : (k : Int) < M.stands.length := by omega
    obtain ⟨v, hv'⟩ : ∃ v, M.stands[k]? = some v := ⟨M.stands[k]'(by omega), List.getElem?_eq_getElem (by omega)⟩
    refine (mStand_spec K hp64 H5 k).mono ?_
    rintro u h6 ⟨rfl, x6⟩
    have hgd : M.stands.getD (k : Int).toNat ⟨0, 0⟩ = v := by rw [Int.toNat_natCast, List.getD_eq_getElem?_getD, hv']; rfl
    rw [if_pos hik, hgd]
    intro tb h7 n7
    refine ⟨rfl, rfl, canset_blk n7.this rfl, fun h8 s8 => ?_⟩
    have htb : h8[tb]? = some (.cells (encSn v).toArray 60 (0, 0)) := s8.put n7.this
    have x58 : Ext h5 h8 := (x6.trans n7.ext).stored s8 (n7.ge x6)
    have W8 := W5.ext x58
    have H8 := H5.ext x58
    obtain ⟨a', hA', hrd'⟩ := (W8.stands.row encSn_len) k v hv'
    refine ⟨_, cell_blk htb rfl, _, cell_blk W8.blk rfl, a', hA', k0, hlt', _, hrd'.get 0 rfl, ?_⟩
    refine xif_of (fun q => absurd q (by simp)) (fun _ => ?_)
    refine ⟨_, cell_blk htb rfl, _, cell_blk W8.blk rfl, a', hA', k0, hlt', _, hrd'.get 1 rfl, ?_⟩
    refine xif_of (fun q => absurd q (by simp)) (fun _ => ?_)
    refine ⟨Nat, fun j => [(0, .pointer (some ⟨m, 0, none⟩)), (1, .pointer (some ⟨w, 0, none⟩)), (5, .slice VA3 M.vlans.length vc3), (7, .int .i64 k), (9, .int .i64 j)], fun j h' => j ≤ N ∧ Ext h8 h', fun j => N - j, 0, ⟨rfl, rfl, rfl, rfl, rfl, trivial⟩, ⟨Nat.zero_le _, Ext.refl _⟩, ?_⟩
    rintro j h9 ⟨hj, x9⟩
    have W9 := W8.ext x9
    have H9 := H8.ext x9
    refine ⟨_, cell_blk W9.blk rfl, ?_⟩
    refine xif_of (fun hlt2 => ?_) (fun hge2 => ?_)
    · have hlt2 : (j : Int) < p.ports := of_decide_eq_true hlt2
      have j0 : (0 : Int) ≤ j := by omega
      have hij : inP p k ∧ inP p j := ⟨hik, j0, hlt2⟩
      obtain ⟨⟨cc, q1⟩, A2, c2, q2, oq, _⟩ := W9.queue hlt hlt2
      have hlk : (k : Int) < p.ports.toNat := by omega
      have hlj' : (j : Int) < p.ports.toNat := by omega
      have q1' : cell h9 ((⟨D'.mb, 0, none⟩ : Addr).add ((k : Int).toNat * 1)) = some (.slice (some ⟨D'.rb k, 0, none⟩) p.ports.toNat cc) := by rw [add_lit]; simpa using q1
      have q2' : cell h9 ((⟨D'.rb k, 0, none⟩ : Addr).add ((j : Int).toNat * 1)) = some (.slice A2 (M.queues k j).length c2) := by rw [add_lit]; simpa using q2
      have hlen := K.q k j
      have hrg := po.ring1
      refine ⟨_, cell_blk W9.blk rfl, _, rfl, k0, hlk, _, q1', _, rfl, j0, hlj', _, q2', ?_⟩
      refine (mQueue_spec po K H9 k j).mono ?_
      rintro u h10 ⟨A9, c9, rfl, o9, x10⟩
      rw [if_pos hij] at o9 ⊢
      refine ⟨⟨x10.cell q2', x10.cell q1', cell_blk (x10.blk W9.blk) rfl, trivial⟩, ?_⟩
      refine (l3Ints_spec (o9.row encI_len) (x10.row (oq.row encI_len)) rfl rfl (by omega) (by omega)).mono ?_
      rintro u h11 ⟨rfl, x11⟩
      refine xif_of (fun q => absurd q (by simp)) (fun _ => ?_)
      exact ⟨j + 1, ⟨rfl, rfl, rfl, rfl, slot_inc (by omega), trivial⟩, ⟨by omega, x9.trans (x10.trans x11)⟩, by show N - (j + 1) < N - j; omega⟩
    exact ⟨k + 1, ⟨rfl, rfl, rfl, slot_inc (by omega), trivial⟩, ⟨by omega, x5.trans (x58.trans x9)⟩, by show N - (k + 1) < N - k; omega⟩
  refine ⟨_, cell_blk W5.blk rfl, ?_⟩
  refine ⟨Nat, fun i => [(0, .pointer (some ⟨m, 0, none⟩)), (1, .pointer (some ⟨w, 0, none⟩)), (5, .slice VA3 M.vlans.length vc3), (10, .pointer (some ⟨D'.b, 0, none⟩)), (11, .int .i64 i)], fun i h' => i ≤ M.book.length ∧ Ext h5 h', fun i => M.book.length - i, 0, ⟨rfl, rfl, rfl, rfl, rfl, trivial⟩, ⟨Nat.zero_le _, Ext.refl _⟩, ?_⟩
  rintro i h6 ⟨hi, x6⟩
  have W6 := W5.ext x6
  have H6 := H5.ext x6
  obtain ⟨_, c16, _, ⟨cap6, _, c36⟩, _⟩ := W6.book.cells
  refine ⟨_, c36, ?_⟩
  have hL := K.book.bok.len
  have hm := po.size.many
  have hb1 := po.size.bk1
  have hs1 := po.size.sh1
  have hb16 := po.size.bk2
  refine xif_of (fun hlt => ?_) (fun hge => ?_)
  · have hlt : (i : Int) < M.book.length := of_decide_eq_true hlt
    have i0 : (0 : Int) ≤ i := by omega
    have hlt' : (i : Int) < p.size.sh * p.size.bk := by omega
    have hai := at_ix po.size (i := i) (by omega) hlt'
    have q1 := quo_ix (i := i) (k := p.size.bk) (by omega) (by omega) hb1
    have q2 : (i : Int).tmod p.size.bk = i % p.size.bk := Int.tmod_eq_emod_of_nonneg (by omega)
    have nz : p.size.bk ≠ 0 := by omega
    obtain ⟨l, hl⟩ : ∃ l, M.book[i]? = some l := ⟨M.book[i]'(by omega), List.getElem?_eq_getElem (by omega)⟩
    obtain ⟨A2, c2, q2', oq⟩ := W6.book.bucket hl
    have q2'' : cell h6 ((⟨D'.tb, 0, none⟩ : Addr).add ((i : Int).toNat * 1)) = some (.slice A2 l.length c2) := by rw [add_lit]; simpa using q2'
    have hll : l.length ≤ 1000000 := by
      have := K.book.bok.each l (List.mem_of_getElem? hl)
      have := po.size.sl2
      omega
    refine ⟨_, c16, nz, _, c16, nz, _, c36, _, rfl, i0, hlt, _, q2'', ?_⟩
    rw [q1, q2]
    refine (mBucket_spec po K H6 _ _).mono ?_
    rintro u h7 ⟨A7, c7, l7, e7, rfl, o7, x7⟩
    rw [hai, if_neg (by omega), Int.toNat_natCast, List.getD_eq_getElem?_getD, hl] at e7
    have e7 : l7 = l := e7
    subst e7
    refine ⟨⟨x7.cell q2'', x7.cell c36, trivial⟩, ?_⟩
    refine (l10From_spec (o7.row encP_len) rfl hll).mono ?_
    rintro u h8 ⟨A8, c8, rfl, o8, x8⟩
    have x78 := x7.trans x8
    refine ⟨⟨x78.cell q2'', x78.cell c36, trivial⟩, ?_⟩
    refine (rSame_spec (o8.row encP_len) (x78.row (oq.row encP_len)) rfl rfl hll).mono ?_
    rintro u h9 ⟨rfl, rfl⟩
    refine xif_of (fun q => absurd q (by simp)) (fun _ => ?_)
    exact ⟨i + 1, ⟨rfl, rfl, rfl, rfl, slot_inc (by omega), trivial⟩, ⟨by omega, x6.trans x78⟩, by show M.book.length - (i + 1) < M.book.length - i; omega⟩
  refine (mList_spec po K H6).mono ?_
  rintro u h7 ⟨A7, c7, rfl, o7, x7⟩
  obtain ⟨E, hE⟩ : ∃ E, listB M.book = E := ⟨_, rfl⟩
  have hlen : E.length ≤ 2000 := by
    rw [← hE, listB, List.length_flatMap]
    have : ∀ (L : List (List Place)), (∀ l ∈ L, l.length ≤ 8) → (L.map (fun l => (l.filter fun p => p.used).length)).sum ≤ 8 * L.length := by
      intro L
      induction L with
      | nil => intro _; simp
      | cons l L ih =>
        intro hM
        have h1 := ih fun l hl => hM l (by simp [hl])
        have h2 := hM l (by simp)
        have h3 := List.length_filter_le (fun p : Place => p.used) l
        simp only [List.map_cons, List.sum_cons, List.length_cons]
        omega
    have := this M.book fun l hl => sl_small po.size (K.book.bok.each l hl)
    omega
  rw [hE] at o7 ⊢
  have W7 := W6.ext x7
  refine ⟨Nat × Option Addr × Nat, fun z => [(1, .pointer (some ⟨w, 0, none⟩)), (5, .slice VA3 M.vlans.length vc3), (10, .pointer (some ⟨D'.b, 0, none⟩)), (12, .slice A7 E.length c7), (13, .slice z.2.1 z.1 z.2.2), (14, .int .i64 z.1)],
    fun z h' => z.1 ≤ E.length ∧ OwnA encE 5 162 h7.size h' z.2.1 z.2.2 (E.take z.1) ∧ Ext h7 h', fun z => E.length - z.1, (0, none, 0), ⟨rfl, rfl, rfl, rfl, rfl, rfl, trivial⟩, ⟨Nat.zero_le _, .inl ⟨rfl, rfl, rfl⟩, Ext.refl _⟩, ?_⟩
  rintro ⟨e, C, d⟩ h8 ⟨he, own8, x8⟩
  simp only at he own8
  refine xif_of (fun hlt => ?_) (fun hge => ?_)
  · have hlt : (e : Int) < E.length := of_decide_eq_true hlt
    obtain ⟨q, hq⟩ : ∃ q, E[e]? = some q := ⟨E[e]'(by omega), List.getElem?_eq_getElem (by omega)⟩
    obtain ⟨a, hA, hrd⟩ := ((o7.ext x8).row encE_len) e q hq
    refine ⟨a, hA, by omega, hlt, encE q, rfl, hrd, ?_⟩
    refine (l9From_spec q _).mono ?_
    rintro u h9 ⟨rfl, x9⟩
    intro eb h10 n10
    have hl2 : (E.take e).length = e := by simp; omega
    refine xappend_one (x := q) entInfoR entZeroR rfl (by decide) encE_len encE_one (own8.ext x9) n10 hl2 (by omega) (x8.trans x9).size fun A' c' h' oo k => ?_
    rw [take_next hq] at oo
    exact ⟨(e + 1, A', c'), ⟨rfl, rfl, rfl, rfl, rfl, slot_inc (by omega), trivial⟩, ⟨by show e + 1 ≤ E.length; omega, oo, k.ext (x8.trans x9) own8.ge⟩, by show E.length - (e + 1) < E.length - e; omega⟩
  have hge : ¬ (e : Int) < E.length := of_decide_eq_false hge
  obtain rfl : e = E.length := by omega
  rw [List.take_length] at own8
  have W8 := W7.ext x8
  refine ⟨_, cell_blk W8.blk rfl, ?_⟩
  refine xif_of (fun _ => ?_) (fun q => absurd q (by simp))
  refine (rbList_spec po.size K.book.bok W8.book).mono ?_
  rintro u h9 ⟨A9, c9, rfl, o9, x9⟩
  rw [hE] at o9 ⊢
  refine (lEntries_spec (own8.ext x9) o9 (by omega)).mono ?_
  rintro u h10 ⟨rfl, rfl⟩
  exact ⟨rfl, x02.trans (x3.trans (x5.trans (x6.trans (x7.trans (x8.trans x9)))))⟩
end
end Go.Proofs.YtgiofdiifkahoaaGreatE
