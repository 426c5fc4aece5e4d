/- What the reference's functions of layers 8 to 10 answer. Conditions: the arguments are of their types. -/
import Derived.Test.YthoikbogkhpciaaGreatXLib
import Derived.Test.YthoikbogkhpciaaGreatXA1
set_option linter.unusedVariables false
set_option linter.unusedSimpArgs false
set_option maxRecDepth 100000
namespace Go.Proofs.YthoikbogkhpciaaGreatE
open Go Go.Proofs
theorem rKeyFix_spec {vid mac : Int} (wf : KeyWf vid mac) (h : Heap) : HCalls Tryz.prog 65 #[.agg #[.int .i64 vid, .int .u64 mac]] h (fun v h' => v = .agg #[.int .i64 (fixVid vid), .int .u64 (fixMac mac)] ∧ Ext h h') := by
  have m0 : 0 ≤ mac % 281474976710656 := by omega
  have m1 : mac % 281474976710656 < 18446744073709551616 := by omega
  have hv : IntKind.i64.wrap (1 + IntKind.i64.wrap ((IntKind.u64.wrap vid).tmod 4094)) = fixVid vid := by
    rw [IntKind.wrap_u64, Int.tmod_eq_emod_of_nonneg (by omega), wrap_i64 (x := vid % _ % _) (by omega) (by omega), wrap_i64 (by omega) (by omega)]; rfl
  refine xcalls env0 Tryz.func65 rfl (by kernel_rfl) rfl (by kernel_rfl) ?_
  intro b1 h1 n1 b2 h2 n2
  have hb1 := n2.ext.blk n1.this
  have hb2 := n2.this
  have hne : b1 ≠ b2 := by have := n2.lt n1.this; omega
  refine ⟨_, cell_blk hb1 rfl, by decide, ?_⟩
  refine ⟨rfl, rfl, canset_blk hb1 rfl, fun h3 s3 => ?_⟩
  have hc1 : h3[b1]? = some (.cells [.int .i64 (fixVid vid), .int .u64 mac].toArray 56 (0, 0)) := by rw [← hv]; exact s3.put hb1
  have x3 : Ext h h3 := (n1.ext.trans n2.ext).stored s3 (n1.ge (Ext.refl _))
  have hc2 := s3.blk hb2 hne.symm
  refine ⟨_, cell_blk hc1 rfl, ?_⟩
  refine (rLow_spec wf.mac0 _).mono ?_
  rintro v h4 ⟨rfl, e4⟩
  rw [← e4] at hc1 hc2 x3
  refine ⟨rfl, rfl, canset_blk hc1 rfl, fun h5 s5 => ?_⟩
  have hd1 : h5[b1]? = some (.cells [.int .i64 (fixVid vid), .int .u64 (mac % 281474976710656)].toArray 56 (0, 0)) := s5.put hc1
  have x5 := x3.stored s5 (n1.ge (Ext.refl _))
  have hd2 := s5.blk hc2 hne.symm
  refine ⟨_, cell_blk hd1 rfl, ?_⟩
  refine (rBytes_spec m0 m1 _).mono ?_
  rintro v h6 ⟨a, c, rfl, hr, x6⟩
  have he1 := x6.blk hd1
  have he2 := x6.blk hd2
  have last : ∀ (h7 : Heap) (m : Int), h7[b1]? = some (.cells [.int .i64 (fixVid vid), .int .u64 m].toArray 56 (0, 0)) → h7[b2]? = some (.cells [.int .i64 0, .int .u64 0].toArray 56 (0, 0)) → Ext h h7 →
      ∃ vs : List Value, vs.length = 2 ∧ Reads h7 ⟨b1, 0, none⟩ vs ∧ vs = [.int .i64 (fixVid vid), .int .u64 m] := fun h7 m k1 k2 kx => ⟨_, rfl, reads_all k1, rfl⟩
  have fin : ∀ (m : Int), m = fixMac0 mac → (if m = 0 then (1 : Int) else m) = fixMac mac := fun m hm => by rw [hm]; rfl
  refine ⟨a, rfl, by decide, by decide, .int .u8 (divN 5 (mac % 281474976710656) % 256), by have := hr.get 0 (v := .int .u8 (divN 5 (mac % 281474976710656) % 256)) rfl; exact this, by decide, ?_⟩
  have hodd : (divN 5 (mac % 281474976710656) % 256).tmod 2 = divN 5 (mac % 281474976710656) % 256 % 2 := Int.tmod_eq_emod_of_nonneg (by omega)
  refine xif_of (fun q1 => ?_) (fun q1 => ?_)
  · replace q1 : ((divN 5 (mac % 281474976710656) % 256).tmod 2 == 1) = true := q1
    rw [hodd] at q1
    have q1 : divN 5 (mac % 281474976710656) % 256 % 2 = 1 := by simpa using q1
    have hm : IntKind.u64.wrap (mac % 281474976710656 - 1099511627776) = fixMac0 mac := by
      rw [fixMac0, if_pos q1, wrap_u64 (by simp only [divN] at q1; omega) (by omega)]
    refine ⟨_, cell_blk he1 rfl, ?_⟩
    refine ⟨rfl, rfl, canset_blk he1 rfl, fun h7 s7 => ?_⟩
    have hf1 : h7[b1]? = some (.cells [.int .i64 (fixVid vid), .int .u64 (fixMac0 mac)].toArray 56 (0, 0)) := by rw [← hm]; exact s7.put he1
    have x7 := (x5.trans x6).stored s7 (n1.ge (Ext.refl _))
    have hf2 := s7.blk he2 hne.symm
    refine ⟨_, cell_blk hf1 rfl, ?_⟩
    refine xif_of (fun q2 => ?_) (fun q2 => ?_)
    · have q2 : fixMac0 mac = 0 := by simpa using q2
      refine ⟨rfl, rfl, canset_blk hf1 rfl, fun h8 s8 => ?_⟩
      have hg1 : h8[b1]? = some (.cells [.int .i64 (fixVid vid), .int .u64 1].toArray 56 (0, 0)) := s8.put hf1
      have hg2 := s8.blk hf2 hne.symm
      have x8 := x7.stored s8 (n1.ge (Ext.refl _))
      refine ⟨_, rfl, reads_all hg1, ?_⟩
      refine ⟨rfl, rfl, canset_blk hg2 rfl, fun h9 s9 => ?_⟩
      have hh2 : h9[b2]? = some (.cells [.int .i64 (fixVid vid), .int .u64 1].toArray 56 (0, 0)) := s9.put hg2
      refine ⟨_, rfl, reads_all hh2, ?_, x8.stored s9 (n2.ge n1.ext)⟩
      rw [fixMac, if_pos q2]; rfl
    · have q2 : ¬ fixMac0 mac = 0 := by simpa using q2
      refine ⟨_, rfl, reads_all hf1, ?_⟩
      refine ⟨rfl, rfl, canset_blk hf2 rfl, fun h9 s9 => ?_⟩
      have hh2 : h9[b2]? = some (.cells [.int .i64 (fixVid vid), .int .u64 (fixMac0 mac)].toArray 56 (0, 0)) := s9.put hf2
      refine ⟨_, rfl, reads_all hh2, ?_, x7.stored s9 (n2.ge n1.ext)⟩
      rw [fixMac, if_neg q2]; rfl
  · replace q1 : ((divN 5 (mac % 281474976710656) % 256).tmod 2 == 1) = false := q1
    rw [hodd] at q1
    have q1 : ¬ divN 5 (mac % 281474976710656) % 256 % 2 = 1 := by simpa using q1
    have hm : mac % 281474976710656 = fixMac0 mac := by rw [fixMac0, if_neg q1]
    rw [hm] at he1
    refine ⟨_, cell_blk he1 rfl, ?_⟩
    have x7 := x5.trans x6
    refine xif_of (fun q2 => ?_) (fun q2 => ?_)
    · have q2 : fixMac0 mac = 0 := by simpa using q2
      refine ⟨rfl, rfl, canset_blk he1 rfl, fun h8 s8 => ?_⟩
      have hg1 : h8[b1]? = some (.cells [.int .i64 (fixVid vid), .int .u64 1].toArray 56 (0, 0)) := s8.put he1
      have hg2 := s8.blk he2 hne.symm
      have x8 := x7.stored s8 (n1.ge (Ext.refl _))
      refine ⟨_, rfl, reads_all hg1, ?_⟩
      refine ⟨rfl, rfl, canset_blk hg2 rfl, fun h9 s9 => ?_⟩
      have hh2 : h9[b2]? = some (.cells [.int .i64 (fixVid vid), .int .u64 1].toArray 56 (0, 0)) := s9.put hg2
      refine ⟨_, rfl, reads_all hh2, ?_, x8.stored s9 (n2.ge n1.ext)⟩
      rw [fixMac, if_pos q2]; rfl
    · have q2 : ¬ fixMac0 mac = 0 := by simpa using q2
      refine ⟨_, rfl, reads_all he1, ?_⟩
      refine ⟨rfl, rfl, canset_blk he2 rfl, fun h9 s9 => ?_⟩
      have hh2 : h9[b2]? = some (.cells [.int .i64 (fixVid vid), .int .u64 (fixMac0 mac)].toArray 56 (0, 0)) := s9.put he2
      refine ⟨_, rfl, reads_all hh2, ?_, x7.stored s9 (n2.ge n1.ext)⟩
      rw [fixMac, if_neg q2]; rfl
theorem eqKeyR (a b c d : Int) : eqv Tryz.prog 60 56 (.agg #[.int .i64 a, .int .u64 b]) (.agg #[.int .i64 c, .int .u64 d]) = some (a == c && (b == d && true)) := by kernel_rfl
theorem eqKeyRG (a b : Int) : guardBad Tryz.prog 56 (.agg #[.int .i64 a, .int .u64 b]) = false := by kernel_rfl
theorem encP_one (p : Place) : (encP p).all Value.oneCell' = true := rfl
theorem Reads.cellAt {h : Heap} {a : Addr} {o k : Nat} {vs : List Value} {v : Value} (H : Reads h (a.add o) vs) (j : Nat) (hk : k = o + j) (hv : nth vs j = some v) : cell h (a.add k) = some v := by
  rw [hk, ← add_add]; exact H.get j (by rw [nth_eq] at hv; exact hv)
theorem clean_wfR {xs : List Place} (h : ∀ p ∈ xs, p.Wf) : ∀ p ∈ xs.map cleanP, p.Wf := by
  intro p hp
  obtain ⟨q, hq, rfl⟩ := List.mem_map.1 hp
  unfold cleanP
  split
  · exact h q hq
  · exact none_wf
theorem Place.decEq' (p q : Place) : ((p.used == q.used) && ((((p.vid == q.vid) && ((p.mac == q.mac) && true)) && ((p.port == q.port) && ((p.static == q.static) && ((p.stamp == q.stamp) && true)))) && true)) = decide (p = q) := by
  obtain ⟨a, b, c, d, e, f⟩ := p
  obtain ⟨a', b', c', d', e', f'⟩ := q
  rw [Bool.eq_iff_iff]
  simp [and_assoc]
theorem wo_step {cl : List Place} (f : Place → Place) (q : Place → Bool) {i : Nat} {p : Place} (hp : cl[i]? = some p) :
    ((cl.take i).map f ++ cl.drop i)[i]? = some p ∧ cl.drop i = p :: cl.drop (i + 1) ∧ ((cl.take i).map f ++ cl.drop i).set i (f p) = (cl.take (i + 1)).map f ++ cl.drop (i + 1) ∧
      (cl.take (i + 1)).countP q = (cl.take i).countP q + (if q p = true then 1 else 0) ∧ (cl.take i).countP q ≤ i := by
  obtain ⟨hlt, hpi⟩ := List.getElem?_eq_some_iff.1 hp
  have hdrop : cl.drop i = p :: cl.drop (i + 1) := by rw [List.drop_eq_getElem_cons hlt, hpi]
  refine ⟨?_, hdrop, ?_, ?_, Nat.le_trans List.countP_le_length (List.length_take_le _ _)⟩
  · rw [List.getElem?_append_right (by simp; omega)]
    simp [Nat.min_eq_left (Nat.le_of_lt hlt), hp]
  · rw [List.set_append_right _ _ (by simp; omega), List.take_succ_eq_append_getElem hlt, hpi, hdrop]
    simp [Nat.min_eq_left (Nat.le_of_lt hlt)]
  · rw [List.take_succ_eq_append_getElem hlt, hpi, List.countP_append]
    simp [List.countP_cons]
end Go.Proofs.YthoikbogkhpciaaGreatE
