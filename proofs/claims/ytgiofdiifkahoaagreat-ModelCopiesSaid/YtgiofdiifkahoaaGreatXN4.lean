/- What the program's model answers: what is sent, and whatever is done. Conditions: the arguments are of their types. -/
import Derived.Test.YtgiofdiifkahoaaGreatXN3
set_option linter.unusedVariables false
set_option linter.unusedSimpArgs false
set_option maxRecDepth 100000
namespace Go.Proofs.YtgiofdiifkahoaaGreatE
open Go Go.Proofs
def env_mDo : Nat → Ann
  | 5 => ⟨.op 0 [] <| .op 1 [] <| .op 2 [] <| .op 3 [] <| .op 4 [] <| .op 5 [] <| .op 6 [] <| .op 7 [] <| .op 8 [] <| .op 9 [] <| .nil, [0, 1, 3, 7, 0, 16, 63, 127, 255, 511], false⟩
  | _ => ⟨.nil, [], false⟩
section
variable {base : Nat} {F : Nat → Prop} {h h1 h' : Heap} {m : Nat} {D : Dat} {p : Pl} {M M' : Md}
theorem mSend_spec (K : MdOk p M) (hp : p.ports ≤ 64) (hv : M.vlans.length ≤ 1000) (H : MdP base F h m D p M) {n : Int} (vid : Int) (h0 : 0 ≤ n) (hn : n < p.ports) :
    HCalls Tryz.prog 52 #[.pointer (some ⟨m, 0, none⟩), .int .i64 n, .int .i64 vid] h (fun v h' => v = .int .i64 (sendM M n vid) ∧ Ext h h') := by
  obtain ⟨k, rfl⟩ : ∃ k : Nat, n = k := ⟨n.toNat, by omega⟩
  have hst := K.st
  obtain ⟨w, hw⟩ : ∃ w, M.stands[k]? = some w := ⟨M.stands[k]'(by omega), List.getElem?_eq_getElem (by omega)⟩
  have hg : M.stands.getD (k : Int).toNat ⟨0, 0⟩ = w := by rw [Int.toNat_natCast, List.getD_eq_getElem?_getD, hw]; rfl
  unfold sendM
  rw [hg]
  simp only
  refine xcalls env0 Tryz.func52 rfl (by kernel_rfl) rfl (by kernel_rfl) ?_
  refine ⟨_, cell_blk H.blk rfl, ?_⟩
  refine (vFind_spec (H.vlans.row encVl_len) (by omega)).mono ?_
  rintro v h1 ⟨rfl, x1⟩
  have H1 := H.ext x1
  obtain ⟨a, ha, hrd⟩ := (H1.stands.row encSn_len) k w hw
  cases ha
  refine ⟨_, cell_blk H1.blk rfl, _, rfl, by omega, by omega, _, hrd.get 0 rfl, ?_⟩
  refine (pForwards_spec _).mono ?_
  rintro v h2 ⟨rfl, rfl⟩
  refine xif_of (fun q => ?_) (fun q => ?_)
  · have q : ¬ w.st = 4 := by simpa using q
    exact ⟨by rw [if_pos q]; rfl, x1⟩
  have q : ¬ (¬ w.st = 4) := by simpa using q
  rw [if_neg q]
  rcases findV_range (vid := vid) M.vlans 0 with hf | ⟨f0, f1⟩
  · refine xif_of (fun _ => ?_) (fun q => absurd (of_decide_eq_false q) (by omega))
    exact ⟨by rw [if_pos (by omega)]; rfl, x1⟩
  · refine xif_of (fun q => absurd (of_decide_eq_true q) (by omega)) (fun _ => ?_)
    obtain ⟨i, hi⟩ : ∃ i : Nat, findV vid M.vlans 0 = i := ⟨_, (Int.toNat_of_nonneg (by omega)).symm⟩
    have hil : i < M.vlans.length := by omega
    obtain ⟨u, hu⟩ : ∃ w, M.vlans[i]? = some w := ⟨M.vlans[i], List.getElem?_eq_getElem hil⟩
    have hgu : M.vlans.getD (i : Int).toNat ⟨0, 0, 0⟩ = u := by rw [Int.toNat_natCast, List.getD_eq_getElem?_getD, hu]; rfl
    have wu := K.vl u (List.mem_of_getElem? hu)
    rw [hi, if_neg (by omega), hgu]
    obtain ⟨a, ha, hru⟩ := (H1.vlans.row encVl_len) i u hu
    have q0 : (0 : Int) ≤ i := by omega
    have q1 : (i : Int) < M.vlans.length := by omega
    refine ⟨_, cell_blk H1.blk rfl, a, ha, q0, q1, _, hru.get 1 rfl, ?_⟩
    refine (vHas_spec wu.1).mono ?_
    rintro v h2 ⟨rfl, rfl⟩
    refine xif_of (fun q => ?_) (fun q => ?_)
    · have q : hasM u.mem k = false := by simpa using q
      exact ⟨by rw [if_pos q]; rfl, x1⟩
    have q : hasM u.mem k = true := by simpa using q
    rw [if_neg (by simp [q])]
    refine ⟨_, cell_blk H1.blk rfl, a, ha, q0, q1, _, hru.get 2 rfl, ?_⟩
    refine (vHas_spec wu.2).mono ?_
    rintro v h3 ⟨rfl, rfl⟩
    refine xif_of (fun q => ?_) (fun q => ?_)
    · exact ⟨by rw [if_pos q]; rfl, x1⟩
    · exact ⟨by rw [if_neg (by simp [q])]; rfl, x1⟩
theorem ent_eq {o : Op17} (hm : mayO p o = true) (hk : 2 ≤ o.kind ∧ o.kind ≤ 7) : do17 p M o = entM p M o := by
  unfold do17 entM
  rw [if_neg (by simp [hm]), if_neg (by omega), if_neg (by omega)]
  by_cases h2 : o.kind = 2
  · rw [if_pos h2, if_pos h2]
  rw [if_neg h2, if_neg h2]
  by_cases h3 : o.kind = 3
  · rw [if_pos h3, if_pos h3]
  rw [if_neg h3, if_neg h3]
  by_cases h4 : o.kind = 4
  · rw [if_pos h4, if_pos h4]
  rw [if_neg h4, if_neg h4]
  by_cases h5 : o.kind = 5
  · rw [if_pos h5, if_neg (by omega), if_neg (by omega)]
  rw [if_neg h5]
  by_cases h6 : o.kind = 6
  · rw [if_pos h6, if_pos h6]
  rw [if_neg h6, if_neg h6, if_pos (by omega), if_pos (by omega)]
theorem mDo_spec (po : p.Ok) (K : MdOk p M) (hv : M.vlans.length ≤ 1000) (H : MdP base F h m D p M) {o : Op17} (w : o.Wf) :
    HCalls Tryz.prog 14 #[.pointer (some ⟨m, 0, none⟩), .agg (encO17 o).toArray] h (fun v h' => v = .int .i64 (do17 p M o).2 ∧ Did base F h m D p (do17 p M o).1 h') := by
  refine xcalls env_mDo Tryz.func14 rfl (by kernel_rfl) rfl (by kernel_rfl) ?_
  intro ob h1 n1
  have hb : h1[ob]? = some (.cells (encO17 o).toArray 51 (0, 0)) := n1.this
  have H1 := H.ext n1.ext
  refine ⟨_, rfl, reads_all hb, ?_⟩
  refine (mMay_spec H1 o).mono ?_
  rintro v h2 ⟨rfl, x2⟩
  have H2 := H1.ext x2
  have hb2 := x2.blk hb
  have x02 := n1.ext.trans x2
  refine xif_of (fun q => ?_) (fun q => ?_)
  · have q : mayO p o = false := by simpa using q
    have e : do17 p M o = (M, -1) := by unfold do17; rw [if_pos q]
    rw [e]
    exact ⟨rfl, Did.same H x02⟩
  have hm : mayO p o = true := by simpa using q
  have hmn : ¬ mayO p o = false := by simp [hm]
  have hpp := po.hi
  have inPort : (o.kind = 0 ∨ o.kind = 2 ∨ o.kind = 4 ∨ o.kind = 8) → inP p o.port := fun q => by
    have := hm
    rw [mayO, if_pos q] at this
    exact of_decide_eq_true this
  refine ⟨_, cell_blk hb2 rfl, ?_⟩
  refine xif_of (fun q => ?_) (fun q0 => ?_)
  · have q : o.kind = 0 := by simpa using q
    obtain ⟨i0, i1⟩ := inPort (.inl q)
    obtain ⟨k, hk⟩ : ∃ k : Nat, o.port = k := ⟨o.port.toNat, by omega⟩
    have hst := K.st
    obtain ⟨s, hs⟩ : ∃ w, M.stands[k]? = some w := ⟨M.stands[k]'(by omega), List.getElem?_eq_getElem (by omega)⟩
    obtain ⟨a, ha, hrd⟩ := (H2.stands.row encSn_len) k s hs
    cases ha
    have e : do17 p M o = (M, s.st) := by unfold do17; rw [if_neg hmn, if_pos q, hk, Int.toNat_natCast, List.getD_eq_getElem?_getD, hs]; rfl
    have hc : cell h2 ((⟨D.sb, 0, none⟩ : Addr).add (o.port.toNat * 2)) = some (.int .i64 s.st) := by
      rw [hk, Int.toNat_natCast]
      exact hrd.cons
    rw [e]
    refine ⟨_, cell_blk H2.blk rfl, _, cell_blk hb2 rfl, _, rfl, i0, (by show o.port < (M.stands.length : Int); omega), _, (by rw [add_zero']; exact hc), rfl, Did.same H x02⟩
  have q0 : ¬ o.kind = 0 := by simpa using q0
  refine xif_of (fun q => ?_) (fun q1 => ?_)
  · have q : o.kind = 1 := by simpa using q
    refine ⟨_, cell_blk hb2 rfl, ?_⟩
    refine (mMembers_spec H2 hv o.vid).mono ?_
    rintro v h3 ⟨rfl, x3⟩
    have e : do17 p M o = (M, if findV o.vid M.vlans 0 < 0 then 0 else IntKind.i64.wrap (M.vlans.getD (findV o.vid M.vlans 0).toNat ⟨0, 0, 0⟩).mem) := by unfold do17; rw [if_neg hmn, if_neg q0, if_pos q]
    rw [e]
    refine ⟨congrArg (Value.int .i64) ?_, Did.same H (x02.trans x3)⟩
    show IntKind.i64.wrap (if findV o.vid M.vlans 0 < 0 then 0 else (M.vlans.getD (findV o.vid M.vlans 0).toNat ⟨0, 0, 0⟩).mem) = _
    split
    · rfl
    · rfl
  have q1 : ¬ o.kind = 1 := by simpa using q1
  have ents : (2 ≤ o.kind ∧ o.kind ≤ 7) → HCalls Tryz.prog 47 #[.pointer (some ⟨m, 0, none⟩), .agg (encO17 o).toArray] h2 (fun v h' => v = .int .i64 (do17 p M o).2 ∧ Did base F h m D p (do17 p M o).1 h') := fun hk => by
    rw [ent_eq hm hk]
    exact (mEntries_spec po K H2 w).mono fun v h' hh => ⟨hh.1, Did.after x02 hh.2⟩
  refine xif_of (fun q => ?_) (fun q2 => ?_)
  · refine xif_true q ?_
    refine ⟨_, rfl, reads_all hb2, ?_⟩
    exact ents (by have : o.kind = 2 := by simpa using q
                   omega)
  have q2 : ¬ o.kind = 2 := by simpa using q2
  refine xif_of (fun q => ?_) (fun q3 => ?_)
  · refine xif_true q ?_
    refine ⟨_, rfl, reads_all hb2, ?_⟩
    exact ents (by have : o.kind = 3 := by simpa using q
                   omega)
  have q3 : ¬ o.kind = 3 := by simpa using q3
  refine xif_of (fun q => ?_) (fun q4 => ?_)
  · refine xif_true q ?_
    refine ⟨_, rfl, reads_all hb2, ?_⟩
    exact ents (by have : o.kind = 4 := by simpa using q
                   omega)
  have q4 : ¬ o.kind = 4 := by simpa using q4
  refine xif_of (fun q => ?_) (fun q5 => ?_)
  · refine xif_true q ?_
    refine ⟨_, rfl, reads_all hb2, ?_⟩
    exact ents (by have : o.kind = 5 := by simpa using q
                   omega)
  have q5 : ¬ o.kind = 5 := by simpa using q5
  refine xif_of (fun q => ?_) (fun q6 => ?_)
  · refine xif_true q ?_
    refine ⟨_, rfl, reads_all hb2, ?_⟩
    exact ents (by have : o.kind = 6 := by simpa using q
                   omega)
  have q6 : ¬ o.kind = 6 := by simpa using q6
  refine xif_of (fun q => ?_) (fun q7 => ?_)
  · refine ⟨_, rfl, reads_all hb2, ?_⟩
    exact ents (by have : o.kind = 7 := by simpa using q
                   omega)
  have q7 : ¬ o.kind = 7 := by simpa using q7
  have chain : do17 p M o = (if o.kind = 8 then if rightSt o.state = false then (M, -1) else
    let e := IntKind.u32.wrap ((M.stands.getD o.port.toNat ⟨0, 0⟩).ep + 1)
    ({ M with stands := M.stands.set o.port.toNat ⟨o.state, e⟩ }, IntKind.i64.wrap e)
  else if o.kind = 9 then setVlanM p M o
  else if o.kind = 10 then
    let q := M.queues o.port o.to
    if p.ring ≤ q.length then (M, 0) else ({ M with queues := setQ M.queues o.port o.to (q ++ [o.id]) }, 1)
  else if o.kind = 11 then
    match M.queues o.port o.to with
    | [] => (M, -1)
    | x :: q => ({ M with queues := setQ M.queues o.port o.to q }, x)
  else if o.kind = 12 then (M, sendM M o.to o.vid)
  else (M, -1)) := by
    unfold do17
    rw [if_neg hmn, if_neg q0, if_neg q1, if_neg q2, if_neg q3, if_neg q4, if_neg q5, if_neg q6, if_neg q7]
    rfl
  rw [chain]
  refine xif_of (fun q => ?_) (fun q8 => ?_)
  · have q : o.kind = 8 := by simpa using q
    obtain ⟨i0, i1⟩ := inPort (by omega)
    refine ⟨_, cell_blk hb2 rfl, _, cell_blk hb2 rfl, ?_⟩
    refine (mSet_spec K hpp H2 i0 i1).mono ?_
    rintro v h3 ⟨rfl, d3⟩
    rw [if_pos q]
    have d := Did.after x02 d3
    by_cases hq : rightSt o.state = false
    · rw [if_pos hq] at d ⊢
      rw [if_pos hq]
      exact ⟨rfl, d⟩
    · rw [if_neg hq] at d ⊢
      rw [if_neg hq]
      exact ⟨rfl, d⟩
  have q8 : ¬ o.kind = 8 := by simpa using q8
  rw [if_neg q8]
  refine xif_of (fun q => ?_) (fun q9 => ?_)
  · have q : o.kind = 9 := by simpa using q
    refine ⟨_, rfl, reads_all hb2, ?_⟩
    refine (mSetVlan_spec K hv H2 w).mono ?_
    rintro v h3 ⟨rfl, d3⟩
    rw [if_pos q]
    exact ⟨rfl, Did.after x02 d3⟩
  have q9 : ¬ o.kind = 9 := by simpa using q9
  rw [if_neg q9]
  refine xif_of (fun q => ?_) (fun q10 => ?_)
  · have q : o.kind = 10 := by simpa using q
    refine ⟨_, cell_blk hb2 rfl, _, cell_blk hb2 rfl, _, cell_blk hb2 rfl, ?_⟩
    refine (mPut_spec po K H2 _ _ _).mono ?_
    rintro v h3 ⟨rfl, d3⟩
    rw [if_pos q]
    have d := Did.after x02 d3
    simp only
    by_cases hq : p.ring ≤ (M.queues o.port o.to).length
    · rw [if_pos hq] at d ⊢
      rw [if_pos hq]
      exact ⟨rfl, d⟩
    · rw [if_neg hq] at d ⊢
      rw [if_neg hq]
      exact ⟨rfl, d⟩
  have q10 : ¬ o.kind = 10 := by simpa using q10
  rw [if_neg q10]
  refine xif_of (fun q => ?_) (fun q11 => ?_)
  · have q : o.kind = 11 := by simpa using q
    refine ⟨_, cell_blk hb2 rfl, _, cell_blk hb2 rfl, ?_⟩
    refine (mGet_spec po K H2 _ _).mono ?_
    rintro v h3 ⟨rfl, d3⟩
    rw [if_pos q]
    have d := Did.after x02 d3
    cases hc : M.queues o.port o.to with
    | nil => rw [hc] at d; exact ⟨rfl, by rw [if_pos rfl] at d; exact d⟩
    | cons z l => rw [hc] at d; exact ⟨rfl, by rw [if_neg (by simp)] at d; exact d⟩
  have q11 : ¬ o.kind = 11 := by simpa using q11
  rw [if_neg q11]
  refine xif_of (fun q => ?_) (fun q12 => ?_)
  · have q : o.kind = 12 := by simpa using q
    have hto : inP p o.to := by
      have := hm
      rw [mayO, if_neg (by omega), if_neg (by omega), if_pos q] at this
      exact of_decide_eq_true this
    refine ⟨_, cell_blk hb2 rfl, _, cell_blk hb2 rfl, ?_⟩
    refine (mSend_spec K hpp hv H2 _ hto.1 hto.2).mono ?_
    rintro v h3 ⟨rfl, x3⟩
    rw [if_pos q]
    exact ⟨rfl, Did.same H (x02.trans x3)⟩
  have q12 : ¬ o.kind = 12 := by simpa using q12
  rw [if_neg q12]
  exact ⟨rfl, Did.same H x02⟩
end
end Go.Proofs.YtgiofdiifkahoaaGreatE
