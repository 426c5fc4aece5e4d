/- A shape is as the document's model has it; a model is as the document's. Conditions: both are of one state. -/
import Derived.Test.YtjjempefncgfhaaGreatDoorXW3
import Derived.Test.YtjjempefncgfhaaGreatDoorXB6
set_option linter.unusedVariables false
set_option linter.unusedSimpArgs false
set_option maxRecDepth 100000
namespace Go.Proofs.YtjjempefncgfhaaGreatDoorE
open Go Go.Proofs
def env_lShaped : Nat → Ann
  | 2 => ⟨.op 0 [] <| .op 1 [] <| .op 2 [] <| .op 3 [] <| .op 4 [] <| .op 5 [] <| .op 6 [] <| .op 7 [] <| .op 8 [] <| .op 9 [] <| .op 10 [] <| .op 11 [] <| .op 12 [] <| .op 13 [] <| .op 14 [] <| .op 15 [] <| .op 16 [] <| .op 17 [] <| .op 18 [] <| .op 19 [] <| .op 20 [] <| .op 21 [] <| .op 22 [] <| .op 23 [] <| .op 24 [] <| .op 25 [] <| .op 26 [] <| .op 27 [] <| .op 28 [] <| .op 29 [] <| .op 30 [] <| .op 31 [] <| .op 32 [] <| .op 33 [] <| .op 34 [] <| .op 35 [] <| .op 36 [] <| .op 37 [] <| .op 38 [] <| .op 39 [] <| .op 40 [] <| .op 41 [] <| .nil, [0, 1, 3, 0, 8, 24, 56, 120, 255, 511, 1023, 2047, 4095, 1023, 9215, 25599, 58367, 123903, 262143, 524287, 1048575, 2097151, 4194303, 8388607, 2097151, 18874367, 52428799, 119537663, 253755391, 536870911, 1073741823, 2147483647, 4294967295, 8589934591, 17179869183, 4294967295, 38654705663, 107374182399, 244813135871, 519691042815, 1099511627775, 2199023255551], false⟩
  | 7 => ⟨.op 0 [] <| .op 1 [] <| .op 2 [] <| .op 3 [] <| .op 4 [] <| .op 5 [] <| .op 6 [] <| .op 7 [] <| .op 8 [] <| .op 9 [] <| .op 10 [] <| .op 11 [] <| .op 12 [] <| .op 13 [] <| .op 14 [] <| .op 15 [] <| .op 16 [] <| .op 17 [] <| .op 18 [] <| .op 19 [] <| .op 20 [] <| .op 21 [] <| .op 22 [] <| .op 23 [] <| .op 24 [] <| .op 25 [] <| .op 26 [] <| .op 27 [] <| .op 28 [] <| .op 29 [] <| .op 30 [] <| .op 31 [] <| .op 32 [] <| .op 33 [] <| .op 34 [] <| .op 35 [] <| .op 36 [] <| .op 37 [] <| .op 38 [] <| .op 39 [] <| .op 40 [] <| .op 41 [] <| .op 42 [] <| .op 43 [] <| .op 44 [] <| .op 45 [] <| .op 46 [] <| .op 47 [] <| .op 48 [] <| .nil, [0, 1, 0, 7, 15, 31, 0, 64, 192, 448, 0, 1984, 4032, 8128, 16383, 32767, 65535, 131071, 65535, 524287, 1048575, 2097151, 65535, 4259839, 12648447, 29425663, 65535, 130088959, 264306687, 532742143, 1073741823, 2147483647, 4294967295, 8589934591, 17179869183, 8589934591, 68719476735, 137438953471, 274877906943, 8589934591, 558345748479, 1657857376255, 3856880631807, 8589934591, 17051020165119, 34643206209535, 69827578298367, 140737488355327, 281474976710655], false⟩
  | 12 => ⟨.op 0 [] <| .op 1 [] <| .op 2 [] <| .op 3 [] <| .op 4 [] <| .op 5 [] <| .op 6 [] <| .op 7 [] <| .op 8 [] <| .op 9 [] <| .op 10 [] <| .op 11 [] <| .op 12 [] <| .op 13 [] <| .op 14 [] <| .op 15 [] <| .op 16 [] <| .op 17 [] <| .op 18 [] <| .op 19 [] <| .op 20 [] <| .op 21 [] <| .op 22 [] <| .op 23 [] <| .op 24 [] <| .op 25 [] <| .op 26 [] <| .op 27 [] <| .op 28 [] <| .op 29 [] <| .op 30 [] <| .op 31 [] <| .op 32 [] <| .op 33 [] <| .op 34 [] <| .op 35 [] <| .op 36 [] <| .op 37 [] <| .op 38 [] <| .op 39 [] <| .op 40 [] <| .op 41 [] <| .op 42 [] <| .op 43 [] <| .op 44 [] <| .op 45 [] <| .nil, [0, 1, 0, 7, 15, 31, 0, 64, 192, 448, 0, 1984, 4032, 8128, 16383, 32767, 65535, 131071, 65535, 524287, 1048575, 2097151, 65535, 4259839, 12648447, 29425663, 65535, 130088959, 264306687, 532742143, 1073741823, 2147483647, 4294967295, 8589934591, 17179869183, 8589934591, 68719476735, 137438953471, 274877906943, 8589934591, 558345748479, 1657857376255, 3856880631807, 8254927142911, 17592186044415, 35184372088831], false⟩
  | 17 => ⟨.op 0 [] <| .op 1 [] <| .op 2 [] <| .op 3 [] <| .op 4 [] <| .op 5 [] <| .op 6 [] <| .op 7 [] <| .op 8 [] <| .op 9 [] <| .op 10 [] <| .op 11 [] <| .op 12 [] <| .op 13 [] <| .op 14 [] <| .op 15 [] <| .op 16 [] <| .op 17 [] <| .op 18 [] <| .op 19 [] <| .nil, [0, 1, 0, 7, 15, 0, 63, 127, 0, 256, 768, 1792, 0, 7936, 16128, 0, 65280, 130816, 262143, 524287], false⟩
  | 22 => ⟨.op 0 [] <| .op 1 [] <| .op 2 [] <| .op 3 [] <| .op 4 [] <| .op 6 [] <| .op 7 [] <| .op 8 [] <| .op 9 [] <| .op 10 [] <| .op 11 [] <| .op 12 [] <| .op 5 [9, 12] <| .op 13 [] <| .op 14 [] <| .nil, [0, 1, 0, 7, 15, 31, 0, 64, 192, 448, 0, 1984, 4032, 8191, 16383], false⟩
  | _ => ⟨.nil, [], false⟩
section
variable {base base' : Nat} {F G : Nat → Prop} {h h1 h' : Heap} {m w : Nat} {D D' : Dat} {p : Pl} {M M' : Md}
structure ShapeAt (h : Heap) (p : Pl) (M : Md) (SA VA BA QA : Option Addr) (B Q : List Sl) : Prop where
  st : Row encSn 2 h SA M.stands
  vl : Row encVl 3 h VA M.vlans
  bl : B.length = M.book.length
  b : Row encSl 1 h BA B
  bs : Rows2 encP 6 h B M.book
  ql : Q.length = p.ports.toNat
  q : Row encSl 1 h QA Q
  qs : Rows3 h Q p.ports.toNat M.queues
theorem ShapeAt.ext {SA VA BA QA : Option Addr} {B Q : List Sl} (H : ShapeAt h p M SA VA BA QA B Q) (x : Ext h h') : ShapeAt h' p M SA VA BA QA B Q := by
  refine ⟨x.row H.st, x.row H.vl, H.bl, x.row H.b, fun i r l hr hl => ⟨(H.bs i r l hr hl).1, x.row (H.bs i r l hr hl).2⟩, H.ql, x.row H.q, fun i r hr => ?_⟩
  obtain ⟨e, S, e2, r1, r2⟩ := H.qs i r hr
  exact ⟨e, S, e2, x.row r1, fun j t ht => ⟨(r2 j t ht).1, x.row (r2 j t ht).2⟩⟩
theorem lShaped_spec (po : p.Ok) (K : MdOk p M) (hv : M.vlans.length ≤ 1000) (W : MdR base' G h w D' p M) {SA VA BA QA : Option Addr} {sc vc bc qc : Nat} {B Q : List Sl} (S : ShapeAt h p M SA VA BA QA B Q) :
    HCalls Tryz.prog 22 #[.agg #[.slice SA M.stands.length sc, .slice VA M.vlans.length vc, .slice BA M.book.length bc, .slice QA p.ports.toNat qc], .pointer (some ⟨w, 0, none⟩)] h (fun v h' => v = .bool true ∧ Ext h h') := by
  refine xcalls env_lShaped Tryz.func22 rfl (by kernel_rfl) rfl (by kernel_rfl) ?_
  have hst := K.st
  have hp2 := po.lo
  have hp64 := po.hi
  intro sb h1 n1
  have hsb : h1[sb]? = some (.cells [.slice SA M.stands.length sc, .slice VA M.vlans.length vc, .slice BA M.book.length bc, .slice QA p.ports.toNat qc].toArray 73 (0, 0)) := n1.this
  have x1 := n1.ext
  have W1 := W.ext x1
  refine ⟨_, cell_blk W1.blk rfl, ?_⟩
  refine ⟨_, cell_blk hsb rfl, _, cell_blk W1.blk rfl, ?_⟩
  refine xif_of (fun q => absurd q (by simp)) (fun _ => ?_)
  refine ⟨_, cell_blk hsb rfl, _, cell_blk W1.blk rfl, ?_⟩
  refine xif_of (fun q => absurd q (by simp [hst])) (fun _ => ?_)
  refine ⟨_, cell_blk hsb rfl, _, cell_blk W1.blk rfl, ?_⟩
  refine xif_of (fun q => absurd q (by simp; omega)) (fun _ => ?_)
  obtain ⟨c0, c1, c2, ⟨cap, _, c3⟩, _⟩ := W1.book.cells
  refine ⟨_, cell_blk hsb rfl, _, c3, ?_⟩
  refine xif_of (fun q => absurd q (by simp)) (fun _ => ?_)
  refine ⟨Nat, fun i => [(1, .pointer (some ⟨w, 0, none⟩)), (2, .pointer (some ⟨sb, 0, none⟩)), (5, .pointer (some ⟨D'.b, 0, none⟩)), (6, .int .i64 i)], fun i h' => i ≤ M.vlans.length ∧ h' = h1, fun i => M.vlans.length - i, 0, ⟨rfl, rfl, rfl, rfl, trivial⟩, ⟨Nat.zero_le _, rfl⟩, ?_⟩
  rintro i h2 ⟨hi, rfl⟩
  refine ⟨_, cell_blk hsb rfl, ?_⟩
  refine xif_of (fun hlt => ?_) (fun hge => ?_)
  · have hlt : (i : Int) < M.vlans.length := of_decide_eq_true hlt
    have i0 : (0 : Int) ≤ i := by omega
    obtain ⟨v, hv'⟩ : ∃ v, M.vlans[i]? = some v := ⟨M.vlans[i]'(by omega), List.getElem?_eq_getElem (by omega)⟩
    obtain ⟨a, hA, hrd⟩ := (x1.row S.vl) i v hv'
    obtain ⟨a', hA', hrd'⟩ := (W1.vlans.row encVl_len) i v hv'
    refine ⟨_, cell_blk hsb rfl, a, hA, i0, hlt, _, hrd.get 0 rfl, _, cell_blk W1.blk rfl, a', hA', i0, hlt, _, hrd'.get 0 rfl, ?_⟩
    refine xif_of (fun q => absurd q (by simp)) (fun _ => ?_)
    refine ⟨_, cell_blk hsb rfl, a, hA, i0, hlt, _, hrd.get 1 rfl, _, cell_blk W1.blk rfl, a', hA', i0, hlt, _, hrd'.get 1 rfl, ?_⟩
    refine xif_of (fun q => absurd q (by simp)) (fun _ => ?_)
    refine ⟨_, cell_blk hsb rfl, a, hA, i0, hlt, _, hrd.get 2 rfl, _, cell_blk W1.blk rfl, a', hA', i0, hlt, _, hrd'.get 2 rfl, ?_⟩
    refine xif_of (fun q => absurd q (by simp)) (fun _ => ?_)
    exact ⟨i + 1, ⟨rfl, rfl, rfl, slot_inc (by omega), trivial⟩, ⟨by omega, rfl⟩, by show M.vlans.length - (i + 1) < M.vlans.length - i; omega⟩
  obtain ⟨N, hN⟩ : ∃ N : Nat, p.ports = N := ⟨p.ports.toNat, by omega⟩
  have hNN : p.ports.toNat = N := by omega
  refine ⟨Nat, fun i => [(1, .pointer (some ⟨w, 0, none⟩)), (2, .pointer (some ⟨sb, 0, none⟩)), (5, .pointer (some ⟨D'.b, 0, none⟩)), (7, .int .i64 i)], fun i h' => i ≤ N ∧ Ext h2 h', fun i => N - i, 0, ⟨rfl, rfl, rfl, rfl, trivial⟩, ⟨Nat.zero_le _, Ext.refl _⟩, ?_⟩
  rintro k h3 ⟨hk, x3⟩
  have W3 := W1.ext x3
  have hsb3 := x3.blk hsb
  have S3 := S.ext (x1.trans x3)
  refine ⟨_, cell_blk W3.blk rfl, ?_⟩
  refine xif_of (fun hlt => ?_) (fun hge => ?_)
  · have hlt : (k : Int) < p.ports := of_decide_eq_true hlt
    have k0 : (0 : Int) ≤ k := by omega
    have hlt' : (k : Int) < M.stands.length := by omega
    obtain ⟨v, hv'⟩ : ∃ v, M.stands[k]? = some v := ⟨M.stands[k]'(by omega), List.getElem?_eq_getElem (by omega)⟩
    obtain ⟨a, hA, hrd⟩ := S3.st k v hv'
    obtain ⟨a', hA', hrd'⟩ := (W3.stands.row encSn_len) k v hv'
    have hql := S3.ql
    obtain ⟨r, hr⟩ : ∃ r, Q[k]? = some r := ⟨Q[k]'(by omega), List.getElem?_eq_getElem (by omega)⟩
    obtain ⟨aq, hAq, hrq⟩ := S3.q k r hr
    obtain ⟨rn, T, Tl, rT, rS⟩ := S3.qs k r hr
    have hlq : (k : Int) < p.ports.toNat := by omega
    refine ⟨_, cell_blk hsb3 rfl, a, hA, k0, hlt', _, hrd.get 0 rfl, _, cell_blk W3.blk rfl, a', hA', k0, hlt', _, hrd'.get 0 rfl, ?_⟩
    refine xif_of (fun q => absurd q (by simp)) (fun _ => ?_)
    refine ⟨_, cell_blk hsb3 rfl, a, hA, k0, hlt', _, hrd.get 1 rfl, _, cell_blk W3.blk rfl, a', hA', k0, hlt', _, hrd'.get 1 rfl, ?_⟩
    refine xif_of (fun q => absurd q (by simp)) (fun _ => ?_)
    refine ⟨_, cell_blk hsb3 rfl, aq, hAq, k0, hlq, _, hrq.get 0 rfl, _, cell_blk W3.blk rfl, ?_⟩
    refine xif_of (fun q => absurd q (by simp; omega)) (fun _ => ?_)
    refine ⟨Nat, fun j => [(1, .pointer (some ⟨w, 0, none⟩)), (2, .pointer (some ⟨sb, 0, none⟩)), (5, .pointer (some ⟨D'.b, 0, none⟩)), (7, .int .i64 k), (8, .int .i64 j)], fun j h' => j ≤ N ∧ Ext h3 h', fun j => N - j, 0, ⟨rfl, rfl, rfl, rfl, rfl, trivial⟩, ⟨Nat.zero_le _, Ext.refl _⟩, ?_⟩
    rintro j h4 ⟨hj, x4⟩
    have W4 := W3.ext x4
    have hsb4 := x4.blk hsb3
    have S4 := S3.ext x4
    refine ⟨_, cell_blk W4.blk rfl, ?_⟩
    refine xif_of (fun hlt2 => ?_) (fun hge2 => ?_)
    · have hlt2 : (j : Int) < p.ports := of_decide_eq_true hlt2
      have j0 : (0 : Int) ≤ j := by omega
      obtain ⟨aq, hAq, hrq⟩ := S4.q k r hr
      obtain ⟨rn, T, Tl, rT, rS⟩ := S4.qs k r hr
      obtain ⟨t, ht⟩ : ∃ t, T[j]? = some t := ⟨T[j]'(by omega), List.getElem?_eq_getElem (by omega)⟩
      obtain ⟨at', hAt, hrt⟩ := rT j t ht
      obtain ⟨tn, rQ⟩ := rS j t ht
      obtain ⟨⟨cc, q1⟩, A2, c2, q2, oq, _⟩ := W4.queue hlt hlt2
      have hlj : (j : Int) < r.n := by omega
      have hlj' : (j : Int) < p.ports.toNat := by omega
      have q1' : cell h4 ((⟨D'.mb, 0, none⟩ : Addr).add ((k : Int).toNat * 1)) = some (.slice (some ⟨D'.rb k, 0, none⟩) p.ports.toNat cc) := by rw [add_lit]; simpa using q1
      have q2' : cell h4 ((⟨D'.rb k, 0, none⟩ : Addr).add ((j : Int).toNat * 1)) = some (.slice A2 (M.queues k j).length c2) := by rw [add_lit]; simpa using q2
      have hlen := K.q k j
      have hrg := po.ring1
      refine ⟨_, cell_blk hsb4 rfl, aq, hAq, k0, hlq, _, hrq.get 0 rfl, at', hAt, j0, hlj, _, hrt.get 0 rfl, _, cell_blk W4.blk rfl, _, rfl, k0, hlq, _, q1', _, rfl, j0, hlj', _, q2', ?_⟩
      rw [tn]
      refine (l3Ints_spec rQ (oq.row encI_len) rfl rfl (by omega) (by omega)).mono ?_
      rintro v h5 ⟨rfl, x5⟩
      refine xif_of (fun q => absurd q (by simp)) (fun _ => ?_)
      exact ⟨j + 1, ⟨rfl, rfl, rfl, rfl, slot_inc (by omega), trivial⟩, ⟨by omega, x4.trans x5⟩, by show N - (j + 1) < N - j; omega⟩
    exact ⟨k + 1, ⟨rfl, rfl, rfl, slot_inc (by omega), trivial⟩, ⟨by omega, x3.trans x4⟩, by show N - (k + 1) < N - k; omega⟩
  refine ⟨Nat, fun i => [(1, .pointer (some ⟨w, 0, none⟩)), (2, .pointer (some ⟨sb, 0, none⟩)), (5, .pointer (some ⟨D'.b, 0, none⟩)), (9, .int .i64 i)], fun i h' => i ≤ M.book.length ∧ Ext h3 h', fun i => M.book.length - i, 0, ⟨rfl, rfl, rfl, rfl, trivial⟩, ⟨Nat.zero_le _, Ext.refl _⟩, ?_⟩
  rintro i h4 ⟨hi, x4⟩
  have W4 := W3.ext x4
  have hsb4 := x4.blk hsb3
  have S4 := S3.ext x4
  obtain ⟨_, _, _, ⟨cap4, _, c34⟩, _⟩ := W4.book.cells
  refine ⟨_, c34, ?_⟩
  have hL := K.book.bok.len
  have hm := po.size.many
  refine xif_of (fun hlt => ?_) (fun hge => ?_)
  · have hlt : (i : Int) < M.book.length := of_decide_eq_true hlt
    have i0 : (0 : Int) ≤ i := by omega
    obtain ⟨l, hl⟩ : ∃ l, M.book[i]? = some l := ⟨M.book[i]'(by omega), List.getElem?_eq_getElem (by omega)⟩
    have hbl := S4.bl
    obtain ⟨r, hr⟩ : ∃ r, B[i]? = some r := ⟨B[i]'(by omega), List.getElem?_eq_getElem (by omega)⟩
    obtain ⟨ab, hAb, hrb⟩ := S4.b i r hr
    obtain ⟨rn, rl⟩ := S4.bs i r l hr hl
    obtain ⟨A2, c2, q2, oq⟩ := W4.book.bucket hl
    have q2' : cell h4 ((⟨D'.tb, 0, none⟩ : Addr).add ((i : Int).toNat * 1)) = some (.slice A2 l.length c2) := by rw [add_lit]; simpa using q2
    have hll : l.length ≤ 1000000 := by
      have := K.book.bok.each l (List.mem_of_getElem? hl)
      have := po.size.sl2
      omega
    refine ⟨_, cell_blk hsb4 rfl, ab, hAb, i0, hlt, _, hrb.get 0 rfl, _, c34, _, rfl, i0, hlt, _, q2', ?_⟩
    rw [rn]
    refine (l10From_spec rl rfl hll).mono ?_
    rintro v h5 ⟨A5, c5, rfl, o5, x5⟩
    refine ⟨⟨x5.cell q2', x5.cell c34, trivial⟩, ?_⟩
    refine (rSame_spec (o5.row encP_len) (x5.row (oq.row encP_len)) rfl rfl hll).mono ?_
    rintro v h6 ⟨rfl, rfl⟩
    refine xif_of (fun q => absurd q (by simp)) (fun _ => ?_)
    exact ⟨i + 1, ⟨rfl, rfl, rfl, slot_inc (by omega), trivial⟩, ⟨by omega, x4.trans x5⟩, by show M.book.length - (i + 1) < M.book.length - i; omega⟩
  exact ⟨rfl, x1.trans (x3.trans x4)⟩
end
end Go.Proofs.YtjjempefncgfhaaGreatDoorE
