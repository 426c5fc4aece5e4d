/- Plans: whether they may be, as the program has them; a new model. Conditions: the arguments are of their types. -/
import Derived.Test.YtjjempefncgfhaaGreatDoorXN6
set_option linter.unusedVariables false
set_option linter.unusedSimpArgs false
set_option maxRecDepth 100000
namespace Go.Proofs.YtjjempefncgfhaaGreatDoorE
open Go Go.Proofs
def env_vCheck : Nat → Ann
  | 11 => ⟨.op 0 [] <| .op 1 [] <| .op 2 [] <| .op 3 [1] <| .op 4 [] <| .op 5 [] <| .op 6 [] <| .nil, [0, 1, 0, 4, 15, 31, 63], false⟩
  | _ => ⟨.nil, [], false⟩
def env_l3To : Nat → Ann
  | 5 => ⟨.op 0 [] <| .op 1 [] <| .op 2 [] <| .op 3 [] <| .op 4 [] <| .op 5 [] <| .op 6 [] <| .op 7 [] <| .op 8 [] <| .op 9 [] <| .op 10 [] <| .op 11 [] <| .op 12 [] <| .op 13 [] <| .op 14 [] <| .op 15 [] <| .op 16 [] <| .op 17 [] <| .op 18 [] <| .op 19 [] <| .nil, [0, 0, 0, 6, 14, 30, 0, 0, 192, 448, 960, 0, 0, 6144, 14336, 30720, 65534, 131070, 262143, 524287], false⟩
  | _ => ⟨.nil, [], false⟩
section
variable {h : Heap}
def vChk (all : Int) : List Vl → Int → Int
  | [], _ => 0
  | v :: l, last => if (v.vid < 1 ∨ 4094 < v.vid) ∨ v.vid ≤ last then 6 else if withinM v.mem all = false then 5 else if withinM v.unt v.mem = false then 1 else vChk all l v.vid
def vCheckM (l : List Vl) (ports : Int) : Int := if ports < 2 ∨ 64 < ports then 5 else if 16 < l.length then 8 else vChk (allM ports) l 0
theorem andNot_within {a b : Int} (wa : SetWf a) (wb : SetWf b) : (IntKind.u64.wrap ((BitVec.ofInt 64 a &&& ~~~BitVec.ofInt 64 b).toNat : Int) != 0) = !withinM a b := by
  obtain ⟨m, rfl⟩ : ∃ m : Nat, a = m := ⟨a.toNat, by have := wa.lo; omega⟩
  obtain ⟨n, rfl⟩ : ∃ n : Nat, b = n := ⟨b.toNat, by have := wb.lo; omega⟩
  have hm := wa.hi
  have hn := wb.hi
  have e1 : BitVec.ofInt 64 (m : Int) = BitVec.ofNat 64 m := by apply BitVec.eq_of_toNat_eq; rw [ofInt_toNat (by omega) (by omega), BitVec.toNat_ofNat, Nat.mod_eq_of_lt (by omega)]; simp
  have e2 : BitVec.ofInt 64 (n : Int) = BitVec.ofNat 64 n := by apply BitVec.eq_of_toNat_eq; rw [ofInt_toNat (by omega) (by omega), BitVec.toNat_ofNat, Nat.mod_eq_of_lt (by omega)]; simp
  have key : (BitVec.ofNat 64 m &&& ~~~BitVec.ofNat 64 n) = 0#64 ↔ m &&& n = m := by
    rw [sub_bits (by omega)]
    constructor
    · intro h p hp hb
      have h1 := congrArg (fun x : BitVec 64 => x.getLsbD p) h
      simp only [BitVec.getLsbD_and, BitVec.getLsbD_not, BitVec.getLsbD_ofNat, hp, decide_true, Bool.true_and, hb, BitVec.getLsbD_zero] at h1
      simpa using h1
    · intro h
      apply BitVec.eq_of_getLsbD_eq
      intro p hp
      simp only [BitVec.getLsbD_and, BitVec.getLsbD_not, BitVec.getLsbD_ofNat, hp, decide_true, Bool.true_and, BitVec.getLsbD_zero]
      cases hb : m.testBit p with
      | false => simp
      | true => simp [h p hp hb]
  rw [e1, e2]
  have hz : ((BitVec.ofNat 64 m &&& ~~~BitVec.ofNat 64 n).toNat : Int) < 18446744073709551616 := by
    have := (BitVec.ofNat 64 m &&& ~~~BitVec.ofNat 64 n).isLt
    omega
  rw [wrap_u64 (by omega) hz]
  have hw : withinM (m : Int) n = decide (m &&& n = m) := by
    unfold withinM
    rw [Int.toNat_natCast, Int.toNat_natCast, Bool.eq_iff_iff]
    simp
  rw [hw, Bool.eq_iff_iff]
  simp only [bne_iff_ne, ne_eq, Bool.not_eq_true', decide_eq_false_iff_not, ← key]
  rw [← BitVec.toNat_inj]
  simp
theorem vMay_spec (n : Int) : HCalls Tryz.prog 204 #[.int .i64 n] h (fun v h' => v = .bool (decide (1 ≤ n ∧ n ≤ 4094)) ∧ h' = h) := by
  refine xcalls env0 Tryz.func204 rfl (by kernel_rfl) rfl (by kernel_rfl) ?_
  refine xif_of (fun q => ?_) (fun q => ?_)
  · have q : n ≥ 1 := of_decide_eq_true q
    exact ⟨congrArg Value.bool (by rw [Bool.eq_iff_iff]; simp; omega), rfl⟩
  · have q : ¬ n ≥ 1 := of_decide_eq_false q
    exact ⟨congrArg Value.bool (by rw [Bool.eq_iff_iff]; simp; omega), rfl⟩
theorem vCheck_spec {A : Option Addr} {c n : Nat} {l : List Vl} {ports : Int} (hr : Row encVl 3 h A l) (wf : ∀ v ∈ l, SetWf v.mem ∧ SetWf v.unt) (hl : l.length = n) (hn : n ≤ 1000000) : HCalls Tryz.prog 148 #[.slice A n c, .int .i64 ports] h (fun v h' => v = .int .i64 (vCheckM l ports) ∧ Ext h h') := by
  subst hl
  unfold vCheckM
  have wall := allM_wf ports
  refine xcalls env_vCheck Tryz.func148 rfl (by kernel_rfl) rfl (by kernel_rfl) ?_
  refine xif_of (fun q => ?_) (fun q => ?_)
  · have q : ports < 2 := of_decide_eq_true q
    exact ⟨by rw [if_pos (.inl q)]; rfl, Ext.refl _⟩
  have q : ¬ ports < 2 := of_decide_eq_false q
  refine xif_of (fun q2 => ?_) (fun q2 => ?_)
  · have q2 : ports > 64 := of_decide_eq_true q2
    exact ⟨by rw [if_pos (.inr q2)]; rfl, Ext.refl _⟩
  have q2 : ¬ ports > 64 := of_decide_eq_false q2
  rw [if_neg (by omega)]
  refine xif_of (fun q3 => ?_) (fun q3 => ?_)
  · have q3 : (l.length : Int) > 16 := of_decide_eq_true q3
    exact ⟨by rw [if_pos (by omega)]; rfl, Ext.refl _⟩
  have q3 : ¬ (l.length : Int) > 16 := of_decide_eq_false q3
  rw [if_neg (by omega)]
  refine ⟨Nat × Int, fun z => [(1, .int .i64 ports), (5, .int .i64 z.2), (19, .slice A l.length c), (20, .int .i64 l.length), (21, .int .i64 z.1)], fun z h' => z.1 ≤ l.length ∧ vChk (allM ports) (l.drop z.1) z.2 = vChk (allM ports) l 0 ∧ Ext h h', fun z => l.length - z.1, (0, 0), ⟨rfl, rfl, rfl, rfl, rfl, trivial⟩, ⟨Nat.zero_le _, rfl, Ext.refl _⟩, ?_⟩
  rintro ⟨i, last⟩ h2 ⟨hi, hf, x2⟩
  simp only at hi hf
  refine xif_of (fun hlt => ?_) (fun hge => ?_)
  · have hlt : (i : Int) < l.length := of_decide_eq_true hlt
    obtain ⟨v, hv⟩ : ∃ v, l[i]? = some v := ⟨l[i]'(by omega), List.getElem?_eq_getElem (by omega)⟩
    have wv := wf v (List.mem_of_getElem? hv)
    have hd : l.drop i = v :: l.drop (i + 1) := by
      obtain ⟨hil, he⟩ := List.getElem?_eq_some_iff.1 hv
      rw [List.drop_eq_getElem_cons hil, he]
    rw [hd, vChk] at hf
    obtain ⟨a, rfl, hrd⟩ := (x2.row hr) i v hv
    refine ⟨_, rfl, (by show (0 : Int) ≤ i; omega), hlt, encVl v, rfl, hrd, ?_⟩
    intro qb h3 n3
    refine ⟨rfl, rfl, canset_blk n3.this rfl, fun h4 s4 => ?_⟩
    have hqb : h4[qb]? = some (.cells (encVl v).toArray 165 (0, 0)) := s4.put n3.this
    have x4 : Ext h h4 := x2.trans ((Ext.refl _ |>.trans n3.ext).stored s4 (n3.ge (Ext.refl _)))
    refine ⟨_, cell_blk hqb rfl, ?_⟩
    refine (vMay_spec _).mono ?_
    rintro w h5 ⟨rfl, rfl⟩
    refine xif_of (fun c1 => ?_) (fun c1 => ?_)
    · have c1 : decide (1 ≤ v.vid ∧ v.vid ≤ 4094) = false := by rw [Bool.not_eq_true'] at c1; exact c1
      have c1 := of_decide_eq_false c1
      rw [if_pos (.inl (by omega))] at hf
      exact ⟨congrArg (Value.int .i64) hf, x4⟩
    have c1 : decide (1 ≤ v.vid ∧ v.vid ≤ 4094) = true := by rw [Bool.not_eq_false'] at c1; exact c1
    have c1 := of_decide_eq_true c1
    refine ⟨_, cell_blk hqb rfl, ?_⟩
    refine xif_of (fun c2 => ?_) (fun c2 => ?_)
    · have c2 : v.vid ≤ last := of_decide_eq_true c2
      rw [if_pos (.inr c2)] at hf
      exact ⟨congrArg (Value.int .i64) hf, x4⟩
    have c2 : ¬ v.vid ≤ last := of_decide_eq_false c2
    rw [if_neg (by omega)] at hf
    refine ⟨_, cell_blk hqb rfl, ?_⟩
    refine (vAll_spec ports).mono ?_
    rintro w h5 ⟨rfl, rfl⟩
    have e1 := andNot_within wv.1 wall
    refine ⟨⟨cell_blk hqb rfl, trivial⟩, ?_⟩
    refine xif_of (fun c3 => ?_) (fun c3 => ?_)
    · replace c3 : (IntKind.u64.wrap ((BitVec.ofInt 64 v.mem &&& ~~~BitVec.ofInt 64 (allM ports)).toNat : Int) != 0) = true := c3
      rw [e1] at c3
      rw [if_pos (by simpa using c3)] at hf
      exact ⟨congrArg (Value.int .i64) hf, x4⟩
    replace c3 : (IntKind.u64.wrap ((BitVec.ofInt 64 v.mem &&& ~~~BitVec.ofInt 64 (allM ports)).toNat : Int) != 0) = false := c3
    rw [e1] at c3
    rw [if_neg (by simpa using c3)] at hf
    have e2 := andNot_within wv.2 wv.1
    refine ⟨_, cell_blk hqb rfl, _, cell_blk hqb rfl, ?_⟩
    refine xif_of (fun c4 => ?_) (fun c4 => ?_)
    · replace c4 : (IntKind.u64.wrap ((BitVec.ofInt 64 v.unt &&& ~~~BitVec.ofInt 64 v.mem).toNat : Int) != 0) = true := c4
      rw [e2] at c4
      rw [if_pos (by simpa using c4)] at hf
      exact ⟨congrArg (Value.int .i64) hf, x4⟩
    replace c4 : (IntKind.u64.wrap ((BitVec.ofInt 64 v.unt &&& ~~~BitVec.ofInt 64 v.mem).toNat : Int) != 0) = false := c4
    rw [e2] at c4
    rw [if_neg (by simpa using c4)] at hf
    refine ⟨_, cell_blk hqb rfl, ?_⟩
    exact ⟨(i + 1, v.vid), ⟨rfl, rfl, rfl, rfl, slot_inc (by omega), trivial⟩, ⟨by show i + 1 ≤ l.length; omega, hf, x4⟩, by show l.length - (i + 1) < l.length - i; omega⟩
  · have hge : ¬ (i : Int) < l.length := of_decide_eq_false hge
    rw [List.drop_eq_nil_of_le (by omega)] at hf
    exact ⟨congrArg (Value.int .i64) hf, x2⟩
def rightR (r : Ru) : Bool := decide (1 ≤ r.pvid ∧ r.pvid ≤ 4094) && decide (0 ≤ r.acc ∧ r.acc ≤ 2)
theorem vRight_spec (r : Ru) : HCalls Tryz.prog 150 #[.agg (encRu r).toArray] h (fun v h' => v = .bool (rightR r) ∧ Ext h h') := by
  unfold rightR
  refine xcalls env0 Tryz.func150 rfl (by kernel_rfl) rfl (by kernel_rfl) ?_
  intro b h1 n1
  have hb : h1[b]? = some (.cells (encRu r).toArray 221 (0, 0)) := n1.this
  refine ⟨_, cell_blk hb rfl, ?_⟩
  refine (vMay_spec _).mono ?_
  rintro v h2 ⟨rfl, rfl⟩
  refine xif_of (fun q => ?_) (fun q => ?_)
  · refine ⟨_, cell_blk hb rfl, ?_⟩
    refine xif_of (fun q2 => ?_) (fun q2 => ?_)
    · have q2 : r.acc ≥ 0 := of_decide_eq_true q2
      refine ⟨_, cell_blk hb rfl, congrArg Value.bool ?_, n1.ext⟩
      rw [q, Bool.true_and, Bool.eq_iff_iff]; simp; omega
    · have q2 : ¬ r.acc ≥ 0 := of_decide_eq_false q2
      exact ⟨congrArg Value.bool (by rw [decide_eq_false (p := 0 ≤ r.acc ∧ r.acc ≤ 2) (by omega), Bool.and_false]), n1.ext⟩
  · exact ⟨congrArg Value.bool (by rw [q]; rfl), n1.ext⟩
theorem mCheck1_spec (r : Ru) : HCalls Tryz.prog 149 #[.agg (encRu r).toArray] h (fun v h' => v = .bool (!rightR r) ∧ Ext h h') := by
  refine xcalls env0 Tryz.func149 rfl (by kernel_rfl) rfl (by kernel_rfl) ?_
  intro b h1 n1
  have hb : h1[b]? = some (.cells (encRu r).toArray 221 (0, 0)) := n1.this
  refine ⟨encRu r, rfl, reads_all hb, ?_⟩
  refine (vRight_spec r).mono ?_
  rintro v h2 ⟨rfl, x2⟩
  exact ⟨rfl, n1.ext.trans x2⟩
theorem ruContains_spec {A : Option Addr} {c n : Nat} {l : List Ru} (hr : Row encRu 2 h A l) (hl : l.length = n) (hn : n ≤ 1000000) : HCalls Tryz.prog 151 #[.slice A n c, .func (.func 149) #[] #[]] h (fun v h' => v = .bool (l.any fun r => !rightR r) ∧ Ext h h') := by
  subst hl
  refine xcalls env0 Tryz.func151 rfl (by kernel_rfl) rfl (by kernel_rfl) ?_
  have key : HCalls Tryz.prog 205 #[.slice A l.length c, .func (.func 149) #[] #[]] h (fun v h' => ∃ z : Int, v = .int .i64 z ∧ (decide (0 ≤ z) = l.any fun r => !rightR r) ∧ Ext h h') := by
    refine xcalls env0 Tryz.func205 rfl (by kernel_rfl) rfl (by kernel_rfl) ?_
    refine ⟨Nat, fun i => [(0, .slice A l.length c), (1, .func (.func 149) #[] #[]), (7, .int .i64 l.length), (8, .int .i64 i)], fun i h' => i ≤ l.length ∧ Ext h h' ∧ ((l.drop i).any fun r => !rightR r) = l.any fun r => !rightR r, fun i => l.length - i, 0, ⟨rfl, rfl, rfl, rfl, trivial⟩, ⟨Nat.zero_le _, Ext.refl _, rfl⟩, ?_⟩
    rintro i h2 ⟨hi, x2, hf⟩
    refine xif_of (fun hlt => ?_) (fun hge => ?_)
    · have hlt : (i : Int) < l.length := of_decide_eq_true hlt
      obtain ⟨v, hv⟩ : ∃ v, l[i]? = some v := ⟨l[i]'(by omega), List.getElem?_eq_getElem (by omega)⟩
      obtain ⟨a, rfl, hrd⟩ := (x2.row hr) i v hv
      have hd : l.drop i = v :: l.drop (i + 1) := by
        obtain ⟨hil, he⟩ := List.getElem?_eq_some_iff.1 hv
        rw [List.drop_eq_getElem_cons hil, he]
      rw [hd, List.any_cons] at hf
      refine ⟨_, rfl, (by show (0 : Int) ≤ i; omega), hlt, encRu v, rfl, hrd, ?_⟩
      refine (mCheck1_spec v).mono ?_
      rintro w h3 ⟨rfl, x3⟩
      refine xif_of (fun q => ?_) (fun q => ?_)
      · rw [q, Bool.true_or] at hf
        exact ⟨(i : Int), rfl, by rw [← hf]; simp, x2.trans x3⟩
      · rw [q, Bool.false_or] at hf
        exact ⟨i + 1, ⟨rfl, rfl, rfl, slot_inc (by omega), trivial⟩, ⟨by omega, x2.trans x3, hf⟩, by show l.length - (i + 1) < l.length - i; omega⟩
    · have hge : ¬ (i : Int) < l.length := of_decide_eq_false hge
      rw [List.drop_eq_nil_of_le (by omega)] at hf
      exact ⟨-1, rfl, by rw [← hf]; rfl, x2⟩
  refine key.mono ?_
  rintro v h2 ⟨z, rfl, hz, x2⟩
  exact ⟨congrArg Value.bool hz, x2⟩
def mCheckM (ports : Int) (rules : List Ru) (vls : List Vl) (s : Sz) (tries ring : Int) : Int :=
  if vCheckM vls ports ≠ 0 then vCheckM vls ports
  else if (rules.length : Int) ≠ ports ∨ (rules.any fun r => !rightR r) = true ∨ rightM s = false then 1
  else if tries < 1 ∨ 8 < tries ∨ ring < 1 ∨ 64 < ring then 1 else 0
theorem mCheck_spec {A B : Option Addr} {na ca nb cb : Nat} {rules : List Ru} {vls : List Vl} {ports tries ring normal short : Int} {s : Sz} (hra : Row encRu 2 h A rules) (hla : rules.length = na) (hrb : Row encVl 3 h B vls) (hlb : vls.length = nb) (hn : na ≤ 1000000) (hn2 : nb ≤ 1000000) (wf : ∀ v ∈ vls, SetWf v.mem ∧ SetWf v.unt) :
    HCalls Tryz.prog 91 #[.agg (planV ports (.slice A na ca) (.slice B nb cb) s tries ring normal short).toArray] h (fun v h' => v = .int .i64 (mCheckM ports rules vls s tries ring) ∧ Ext h h') := by
  subst hla hlb
  unfold mCheckM
  refine xcalls env0 Tryz.func91 rfl (by kernel_rfl) rfl (by kernel_rfl) ?_
  intro ib h1 n1
  have hib : h1[ib]? = some (.cells (planV ports (.slice A rules.length ca) (.slice B vls.length cb) s tries ring normal short).toArray 128 (0, 0)) := n1.this
  refine ⟨_, cell_blk hib rfl, _, cell_blk hib rfl, ?_⟩
  refine (vCheck_spec (n1.ext.row hrb) wf rfl hn2).mono ?_
  rintro v h2 ⟨rfl, x2⟩
  have hib2 := x2.blk hib
  have x02 := n1.ext.trans x2
  refine xif_of (fun q => ?_) (fun q => ?_)
  · have q : vCheckM vls ports ≠ 0 := by simpa using q
    exact ⟨by rw [if_pos q]; rfl, x02⟩
  have q : ¬ vCheckM vls ports ≠ 0 := by simpa using q
  rw [if_neg q]
  refine ⟨_, cell_blk hib2 rfl, _, cell_blk hib2 rfl, ?_⟩
  refine xif_of (fun c1 => ?_) (fun c1 => ?_)
  · refine xif_true c1 ?_
    have c1 : (rules.length : Int) ≠ ports := by simpa using c1
    exact ⟨by rw [if_pos (.inl c1)]; rfl, x02⟩
  have c1 : (rules.length : Int) = ports := by simpa using c1
  refine ⟨_, cell_blk hib2 rfl, ?_⟩
  refine (ruContains_spec (x02.row hra) rfl hn).mono ?_
  rintro v h3 ⟨rfl, x3⟩
  have hib3 := x3.blk hib2
  refine xif_of (fun c2 => ?_) (fun c2 => ?_)
  · refine xif_true c2 ?_
    exact ⟨by rw [if_pos (.inr (.inl c2))]; rfl, x02.trans x3⟩
  refine ⟨[.int .i64 s.sh, .int .i64 s.bk, .int .i64 s.sl], rfl, reads_at hib3 rfl, ?_⟩
  refine (kRight_spec s _).mono ?_
  rintro v h4 ⟨rfl, x4⟩
  have hib4 := x4.blk hib3
  have x04 := x02.trans (x3.trans x4)
  refine xif_of (fun c3 => ?_) (fun c3 => ?_)
  · have c3 : rightM s = false := by simpa using c3
    exact ⟨by rw [if_pos (.inr (.inr c3))]; rfl, x04⟩
  have c3 : rightM s = true := by simpa using c3
  rw [if_neg (by simp [c1, c2, c3])]
  refine ⟨_, cell_blk hib4 rfl, ?_⟩
  refine xif_of (fun d1 => ?_) (fun d1 => ?_)
  · refine xif_true d1 ?_
    have d1 : tries < 1 := of_decide_eq_true d1
    exact ⟨by rw [if_pos (by omega)]; rfl, x04⟩
  have d1 : ¬ tries < 1 := of_decide_eq_false d1
  refine ⟨_, cell_blk hib4 rfl, ?_⟩
  refine xif_of (fun d2 => ?_) (fun d2 => ?_)
  · refine xif_true d2 ?_
    have d2 : tries > 8 := of_decide_eq_true d2
    exact ⟨by rw [if_pos (by omega)]; rfl, x04⟩
  have d2 : ¬ tries > 8 := of_decide_eq_false d2
  refine ⟨_, cell_blk hib4 rfl, ?_⟩
  refine xif_of (fun d3 => ?_) (fun d3 => ?_)
  · refine xif_true d3 ?_
    have d3 : ring < 1 := of_decide_eq_true d3
    exact ⟨by rw [if_pos (by omega)]; rfl, x04⟩
  have d3 : ¬ ring < 1 := of_decide_eq_false d3
  refine ⟨_, cell_blk hib4 rfl, ?_⟩
  refine xif_of (fun d4 => ?_) (fun d4 => ?_)
  · have d4 : ring > 64 := of_decide_eq_true d4
    exact ⟨by rw [if_pos (by omega)]; rfl, x04⟩
  · have d4 : ¬ ring > 64 := of_decide_eq_false d4
    exact ⟨by rw [if_neg (by omega)]; rfl, x04⟩
/-! ### A plan, an Op, as the program has them -/
theorem ruInfo : (Tryz.prog.info? 221).map (fun i => (i.size, i.bytes)) = some (2, 16) := by kernel_rfl
theorem ruZero : xzero Tryz.prog 221 = some (encRu ⟨0, 0⟩) := by kernel_rfl
theorem vlInfo : (Tryz.prog.info? 165).map (fun i => (i.size, i.bytes)) = some (3, 24) := by kernel_rfl
theorem vlZero : xzero Tryz.prog 165 = some (encVl ⟨0, 0, 0⟩) := by kernel_rfl
theorem ruClone_spec {base : Nat} {A : Option Addr} {c n : Nat} {l : List Ru} (own : OwnA encRu 2 221 base h A c l) (hl : l.length = n) (hn : n ≤ 100000) : HCalls Tryz.prog 152 #[.slice A n c] h (fun v h' => ∃ A' c', v = .slice A' n c' ∧ OwnA encRu 2 221 h.size h' A' c' l ∧ Ext h h') := by
  subst hl
  refine xcalls env0 Tryz.func152 rfl (by kernel_rfl) rfl (by kernel_rfl) ?_
  cases A with
  | none =>
    rcases own with ⟨_, rfl, rfl⟩ | ⟨_, _, e, _⟩
    · exact ⟨none, 0, rfl, .inl ⟨rfl, rfl, rfl⟩, Ext.refl _⟩
    · cases e
  | some a =>
    intro b1 h1 n1
    have own1 : OwnA encRu 2 221 h.size h1 (some ⟨b1, 0, none⟩) 0 ([] : List Ru) := .inr ⟨b1, [], rfl, n1.ge (Ext.refl _), n1.this, rfl, Nat.le_refl _⟩
    refine xappend_many (xs := []) (ys := l) ruInfo ruZero rfl (by decide) encRu_len encRu_one own1 rfl rfl ((own.ext n1.ext).reads) (by omega) n1.ext.size fun A' c' h' o k => ?_
    exact ⟨A', c', by rw [Nat.zero_add]; rfl, o, k.ext n1.ext (fun b' e => by cases e; exact n1.ge (Ext.refl _))⟩
theorem vlClone_spec {base : Nat} {A : Option Addr} {c n : Nat} {l : List Vl} (own : OwnA encVl 3 165 base h A c l) (hl : l.length = n) (hn : n ≤ 100000) : HCalls Tryz.prog 153 #[.slice A n c] h (fun v h' => ∃ A' c', v = .slice A' n c' ∧ OwnA encVl 3 165 h.size h' A' c' l ∧ Ext h h') := by
  subst hl
  refine xcalls env0 Tryz.func153 rfl (by kernel_rfl) rfl (by kernel_rfl) ?_
  cases A with
  | none =>
    rcases own with ⟨_, rfl, rfl⟩ | ⟨_, _, e, _⟩
    · exact ⟨none, 0, rfl, .inl ⟨rfl, rfl, rfl⟩, Ext.refl _⟩
    · cases e
  | some a =>
    intro b1 h1 n1
    have own1 : OwnA encVl 3 165 h.size h1 (some ⟨b1, 0, none⟩) 0 ([] : List Vl) := .inr ⟨b1, [], rfl, n1.ge (Ext.refl _), n1.this, rfl, Nat.le_refl _⟩
    refine xappend_many (xs := []) (ys := l) vlInfo vlZero rfl (by decide) encVl_len encVl_one own1 rfl rfl ((own.ext n1.ext).reads) (by omega) n1.ext.size fun A' c' h' o k => ?_
    exact ⟨A', c', by rw [Nat.zero_add]; rfl, o, k.ext n1.ext (fun b' e => by cases e; exact n1.ge (Ext.refl _))⟩
theorem l3To_spec {A : Option Addr} {c n : Nat} {l : List Vl} (hr : Row encVl 3 h A l) (hl : l.length = n) (hn : n ≤ 1000000) : HCalls Tryz.prog 100 #[.slice A n c] h (fun v h' => ∃ A' c', v = .slice A' n c' ∧ OwnA encVl 3 165 h.size h' A' c' l ∧ Ext h h') := by
  subst hl
  refine xcalls env_l3To Tryz.func100 rfl (by kernel_rfl) rfl (by kernel_rfl) ?_
  refine ⟨Nat × Option Addr × Nat, fun z => [(0, .slice A l.length c), (3, .slice z.2.1 z.1 z.2.2), (4, .int .i64 z.1)], fun z h' => z.1 ≤ l.length ∧ OwnA encVl 3 165 h.size h' z.2.1 z.2.2 (l.take z.1) ∧ Ext h h', fun z => l.length - z.1, (0, none, 0), ⟨rfl, rfl, rfl, trivial⟩, ⟨Nat.zero_le _, .inl ⟨rfl, rfl, rfl⟩, Ext.refl _⟩, ?_⟩
  rintro ⟨i, C, d⟩ h2 ⟨hi, own2, x2⟩
  simp only at hi own2
  refine xif_of (fun hlt => ?_) (fun hge => ?_)
  · have hlt : (i : Int) < l.length := of_decide_eq_true hlt
    obtain ⟨v, hv⟩ : ∃ v, l[i]? = some v := ⟨l[i]'(by omega), List.getElem?_eq_getElem (by omega)⟩
    obtain ⟨a, rfl, hrd⟩ := (x2.row hr) i v hv
    have q0 : (0 : Int) ≤ i := by omega
    refine ⟨_, rfl, q0, hlt, _, hrd.get 0 rfl, _, rfl, q0, hlt, _, hrd.get 1 rfl, _, rfl, q0, hlt, _, hrd.get 2 rfl, ?_⟩
    intro sb h3 n3
    refine xappend_one (enc := encVl) (x := v) vlInfo vlZero rfl (by decide) encVl_len encVl_one own2 n3 (by simp; omega) (by omega) x2.size fun A' c' h' o k => ?_
    rw [take_next hv] at o
    exact ⟨(i + 1, A', c'), ⟨rfl, rfl, slot_inc (by omega), trivial⟩, ⟨by show i + 1 ≤ l.length; omega, o, k.ext x2 own2.ge⟩, by show l.length - (i + 1) < l.length - i; omega⟩
  · have hge : ¬ (i : Int) < l.length := of_decide_eq_false hge
    have : i = l.length := by omega
    subst this
    rw [List.take_length] at own2
    exact ⟨C, d, rfl, own2, x2⟩
end
end Go.Proofs.YtjjempefncgfhaaGreatDoorE
