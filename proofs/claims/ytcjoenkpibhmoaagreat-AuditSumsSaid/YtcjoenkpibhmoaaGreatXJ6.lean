/- What may be wrong with a report, by the document. Conditions: the report is one. -/
import Derived.Test.YtcjoenkpibhmoaaGreatXJ4
set_option linter.unusedVariables false
set_option linter.unusedSimpArgs false
set_option maxRecDepth 100000
namespace Go.Proofs.YtcjoenkpibhmoaaGreatE
open Go Go.Proofs
def env_rSame1 : Nat → Ann
  | 6 => ⟨.op 0 [] <| .op 1 [] <| .op 2 [] <| .op 3 [] <| .op 4 [] <| .op 5 [] <| .op 6 [] <| .op 7 [] <| .op 8 [] <| .nil, [0, 0, 3, 7, 0, 0, 48, 112, 255], false⟩
  | _ => ⟨.nil, [], false⟩
def env_rBytes23 : Nat → Ann
  | 8 => ⟨.op 0 [] <| .op 1 [] <| .op 2 [] <| .op 3 [] <| .op 4 [] <| .op 5 [] <| .op 6 [] <| .op 7 [] <| .op 8 [] <| .op 9 [] <| .op 10 [] <| .op 11 [] <| .op 12 [] <| .op 13 [] <| .op 14 [] <| .op 15 [] <| .op 16 [] <| .op 17 [] <| .op 18 [] <| .nil, [0, 1, 0, 4, 15, 31, 63, 0, 128, 384, 0, 1024, 3072, 8191, 16383, 32767, 32767, 65535, 262143], true⟩
  | _ => ⟨.nil, [], false⟩
def env_rOut23 : Nat → Ann
  | 4 => ⟨.op 0 [] <| .op 1 [] <| .op 2 [] <| .op 3 [] <| .op 4 [] <| .op 5 [] <| .op 6 [] <| .op 7 [] <| .op 8 [] <| .op 9 [] <| .op 10 [] <| .op 11 [] <| .op 12 [] <| .op 13 [] <| .op 14 [] <| .op 15 [] <| .op 16 [] <| .op 17 [] <| .op 18 [] <| .op 19 [] <| .op 20 [] <| .op 21 [] <| .op 22 [] <| .op 23 [] <| .op 24 [] <| .op 25 [] <| .op 26 [] <| .op 27 [] <| .op 28 [] <| .op 29 [] <| .op 30 [] <| .nil, [0, 0, 2, 7, 15, 31, 63, 127, 63, 319, 1023, 2047, 4095, 63, 8255, 32767, 65535, 131071, 262143, 524287, 1048575, 2097151, 4194303, 8388607, 16777215, 8388607, 41943039, 109051903, 268435455, 536870911, 1073741823], false⟩
  | _ => ⟨.nil, [], false⟩
theorem word_is (a b : Nat) (ha : a < 14) (hb : b < 14) : ((wordS a).toList == (wordS b).toList) = decide (a = b) := by
  rw [toList_data, toList_data]
  have k : ∀ a b : Fin 14, ((wordS a.1).data.toList == (wordS b.1).data.toList) = decide (a.1 = b.1) := by decide
  exact k ⟨a, ha⟩ ⟨b, hb⟩
section
variable {h : Heap}
theorem rCame23_spec (r : Rp) (id : Int) : HCalls Tryz.prog 21 #[.agg (encRp r).toArray, .int .i64 id] h (fun v h' => v = .bool (cameM r id) ∧ Ext h h') := by
  refine xcalls env0 Tryz.func21 rfl (by kernel_rfl) rfl (by kernel_rfl) ?_
  intro b h1 n1
  have hb : h1[b]? = some (.cells (encRp r).toArray 35 (0, 0)) := n1.this
  unfold cameM
  refine xif_of (fun q => ?_) (fun q => ?_)
  · have q : id ≥ 0 := of_decide_eq_true q
    refine ⟨_, cell_blk hb rfl, congrArg Value.bool ?_, n1.ext⟩
    rw [Bool.eq_iff_iff, decide_eq_true_iff, decide_eq_true_iff]; omega
  · have q : ¬ id ≥ 0 := of_decide_eq_false q
    exact ⟨by rw [decide_eq_false (by omega)]; rfl, n1.ext⟩
def dn0 : Dn := ⟨0, 0, 0, 0, 0, none, 0, 0, none, 0, 0⟩
theorem rFind23_spec {r : Rp} (R : RpOk h r) (id : Int) : HCalls Tryz.prog 59 #[.agg (encRp r).toArray, .int .i64 id] h
    (fun v h' => ((v = .tuple #[.agg (encDn dn0).toArray, .bool false] ∧ findD r.don id = none) ∨ ∃ d, v = .tuple #[.agg (encDn d).toArray, .bool true] ∧ findD r.don id = some d) ∧ Ext h h') := by
  refine xcalls env0 Tryz.func59 rfl (by kernel_rfl) rfl (by kernel_rfl) ?_
  intro b h1 n1 db h2 n2
  have hb : h2[b]? = some (.cells (encRp r).toArray 35 (0, 0)) := n2.ext.blk n1.this
  have hdb : h2[db]? = some (.cells (encDn dn0).toArray 68 (0, 0)) := n2.this
  have x2 := n1.ext.trans n2.ext
  have dge : h.size ≤ db := n2.ge n1.ext
  have ds := R.dons
  have dl := R.donl
  refine ⟨Nat, fun i => [(1, .int .i64 id), (2, .pointer (some ⟨b, 0, none⟩)), (4, .pointer (some ⟨db, 0, none⟩)), (6, .int .i64 i)], fun i h' => (i ≤ r.dn ∧ ∀ j d, j < i → r.don[j]? = some d → ¬ d.id = id) ∧ h' = h2, fun i => r.dn - i, 0, ⟨rfl, rfl, rfl, rfl, trivial⟩, ⟨⟨Nat.zero_le _, fun j d hj => by omega⟩, rfl⟩, ?_⟩
  rintro i h3 ⟨⟨hi, hn⟩, rfl⟩
  refine ⟨_, cell_blk hb rfl, ?_⟩
  refine xif_of (fun hlt => ?_) (fun hge => ?_)
  · have hlt : (i : Int) < r.dn := of_decide_eq_true hlt
    obtain ⟨d, hd⟩ : ∃ d, r.don[i]? = some d := ⟨r.don[i]'(by omega), List.getElem?_eq_getElem (by omega)⟩
    obtain ⟨a, hA, hrd⟩ := (x2.row R.don) i d hd
    have q0 : cell h3 ((a.add ((i : Int).toNat * 7)).add 0) = some (.int .i64 d.id) := hrd.get 0 rfl
    refine ⟨_, cell_blk hb rfl, a, hA, by omega, hlt, _, q0, ?_⟩
    refine xif_of (fun q => ?_) (fun q => ?_)
    · have q : d.id = id := by simpa using q
      have hf : findD r.don id = some d := by
        unfold findD
        obtain ⟨hil, rfl⟩ := List.getElem?_eq_some_iff.1 hd
        exact List.find?_eq_some_iff_getElem.2 ⟨decide_eq_true q, i, hil, rfl, fun j hj => by
          have := hn j _ hj (List.getElem?_eq_getElem (by omega))
          rw [decide_eq_false this]; rfl⟩
      refine ⟨_, cell_blk hb rfl, a, hA, by omega, hlt, encDn d, rfl, hrd, rfl, rfl, canset_blk hdb rfl, fun h4 s4 => ?_⟩
      have hdb4 := s4.fill0 hdb rfl
      exact ⟨_, rfl, reads_all hdb4, .inr ⟨d, rfl, hf⟩, x2.stored s4 dge⟩
    · have q : ¬ d.id = id := by simpa using q
      refine ⟨i + 1, ⟨rfl, rfl, rfl, slot_inc (by omega), trivial⟩, ⟨⟨by omega, fun j e hj he => ?_⟩, rfl⟩, by show r.dn - (i + 1) < r.dn - i; omega⟩
      by_cases k : j = i
      · subst k; rw [hd] at he; cases he; exact q
      · exact hn j e (by omega) he
  have hge : ¬ (i : Int) < r.dn := of_decide_eq_false hge
  have hf : findD r.don id = none := by
    unfold findD
    rw [List.find?_eq_none]
    intro d hd
    obtain ⟨j, hj⟩ := List.getElem?_of_mem hd
    have := (List.getElem?_eq_some_iff.1 hj).1
    rw [decide_eq_true_iff]
    exact hn j d (by omega) hj
  refine ⟨rfl, rfl, canset_blk hdb rfl, fun h4 s4 => ?_⟩
  have hdb4 : h4[db]? = some (.cells (encDn dn0).toArray 68 (0, 0)) := s4.fill0 hdb rfl
  exact ⟨_, rfl, reads_all hdb4, .inl ⟨rfl, hf⟩, x2.stored s4 dge⟩
theorem rSame1_spec {A B : Option Addr} {n c m d : Nat} {k l : List Int} (hk : Row encU8 1 h A k) (hkl : k.length = n) (hn : n ≤ 100000) (hl : Row encU8 1 h B l) (hll : l.length = m) :
    HCalls Tryz.prog 96 #[.slice A n c, .slice B m d] h (fun v h' => v = .bool (decide (k = l)) ∧ h' = h) := by
  refine xcalls env_rSame1 Tryz.func96 rfl (by kernel_rfl) rfl (by kernel_rfl) ?_
  refine xif_of (fun q => ?_) (fun q => ?_)
  · have q : ¬ n = m := by
      have q : ¬ (n : Int) = (m : Int) := by simpa using q
      omega
    exact ⟨congrArg Value.bool (decide_eq_false fun e => q (by rw [← hkl, ← hll, e])).symm, rfl⟩
  have q : n = m := by
    have q : (n : Int) = (m : Int) := by simpa using q
    omega
  subst q
  refine ⟨Nat, fun i => [(0, .slice A n c), (1, .slice B n d), (5, .int .i64 i)], fun i h' => (i ≤ n ∧ ∀ j, j < i → k[j]? = l[j]?) ∧ h' = h, fun i => n - i, 0, ⟨rfl, rfl, rfl, trivial⟩, ⟨⟨Nat.zero_le _, fun j hj => by omega⟩, rfl⟩, ?_⟩
  rintro i h3 ⟨⟨hi, hs⟩, rfl⟩
  refine xif_of (fun hlt => ?_) (fun hge => ?_)
  · have hlt : (i : Int) < n := of_decide_eq_true hlt
    obtain ⟨a, hA, c0⟩ := u8_at hk (i := i) (by omega)
    obtain ⟨b, hB, c1⟩ := u8_at hl (i := i) (by omega)
    have gk : k[i]? = some (k.getD i 0) := by rw [List.getD_eq_getElem?_getD, List.getElem?_eq_getElem (by omega)]; rfl
    have gl : l[i]? = some (l.getD i 0) := by rw [List.getD_eq_getElem?_getD, List.getElem?_eq_getElem (by omega)]; rfl
    refine ⟨a, hA, by omega, hlt, _, c0, b, hB, by omega, hlt, _, c1, ?_⟩
    refine xif_of (fun q => ?_) (fun q => ?_)
    · have q : ¬ k.getD i 0 = l.getD i 0 := by simpa using q
      exact ⟨congrArg Value.bool (decide_eq_false fun e => q (by rw [e])).symm, rfl⟩
    · have q : k.getD i 0 = l.getD i 0 := by simpa using q
      refine ⟨i + 1, ⟨rfl, rfl, slot_inc (by omega), trivial⟩, ⟨⟨by omega, fun j hj => ?_⟩, rfl⟩, by show n - (i + 1) < n - i; omega⟩
      by_cases e : j = i
      · subst e; rw [gk, gl, q]
      · exact hs j (by omega)
  · have hge : ¬ (i : Int) < n := of_decide_eq_false hge
    refine ⟨congrArg Value.bool (decide_eq_true ?_).symm, rfl⟩
    apply List.ext_getElem?
    intro j
    by_cases e : j < n
    · exact hs j (by omega)
    · rw [List.getElem?_eq_none (by omega), List.getElem?_eq_none (by omega)]
set_option maxHeartbeats 1000000 in
theorem rBytes23_spec {r : Rp} (R : RpOk h r) {i : Nat} {o : Ot} (ho : r.outs[i]? = some o) (hs : strangerM r o = false) : HCalls Tryz.prog 60 #[.agg (encRp r).toArray, .agg (encOt o).toArray] h (fun v h' => v = .bool (!bytesM r o) ∧ Ext h h') := by
  refine xcalls env_rBytes23 Tryz.func60 rfl (by kernel_rfl) rfl (by kernel_rfl) ?_
  intro b h1 n1 ob h2 n2
  have hb : h2[b]? = some (.cells (encRp r).toArray 35 (0, 0)) := n2.ext.blk n1.this
  have hob : h2[ob]? = some (.cells (encOt o).toArray 65 (0, 0)) := n2.this
  have x2 := n1.ext.trans n2.ext
  have ll := R.logl
  have ls := R.logs
  refine ⟨Nat, fun i => [(2, .pointer (some ⟨b, 0, none⟩)), (3, .pointer (some ⟨ob, 0, none⟩)), (5, .int .i64 i)], fun i h' => (i ≤ r.ln ∧ ∀ j e, j < i → r.log[j]? = some e → sendQ o e = false) ∧ Ext h2 h', fun i => r.ln - i, 0, ⟨rfl, rfl, rfl, trivial⟩, ⟨⟨Nat.zero_le _, fun j d hj => by omega⟩, Ext.refl _⟩, ?_⟩
  rintro k h3 ⟨⟨hk, hn⟩, x23⟩
  have x3 := x2.trans x23
  have hb3 := x23.blk hb
  have hob3 := x23.blk hob
  refine ⟨_, cell_blk hb3 rfl, ?_⟩
  refine xif_of (fun hlt => ?_) (fun hge => ?_)
  rotate_left
  · have hge : ¬ (k : Int) < r.ln := of_decide_eq_false hge
    have hf : r.log.find? (sendQ o) = none := by
      rw [List.find?_eq_none]
      intro e he
      obtain ⟨j, hj⟩ := List.getElem?_of_mem he
      have := (List.getElem?_eq_some_iff.1 hj).1
      rw [hn j e (by omega) hj]; decide
    exact ⟨congrArg Value.bool (by unfold bytesM; rw [hf]; rfl), x3⟩
  have hlt : (k : Int) < r.ln := of_decide_eq_true hlt
  obtain ⟨e, he⟩ : ∃ e, r.log[k]? = some e := ⟨r.log[k]'(by omega), List.getElem?_eq_getElem (by omega)⟩
  obtain ⟨la, hLA, lrd⟩ := (x3.row R.log) k e he
  refine ⟨_, cell_blk hb3 rfl, la, hLA, by omega, hlt, encHe e, rfl, lrd, ?_⟩
  intro eb h4 n4
  refine ⟨rfl, rfl, canset_blk n4.this rfl, fun h5 s5 => ?_⟩
  have heb : h5[eb]? = some (.cells (encHe e).toArray 107 (0, 0)) := n4.fill rfl s5
  have x35 : Ext h3 h5 := n4.ext.stored s5 (n4.ge (Ext.refl _))
  have hb5 := x35.blk hb3
  have hob5 := x35.blk hob3
  have x5 := x3.trans x35
  have x25 := x23.trans x35
  have skip : sendQ o e = false → ∀ j e', j < k + 1 → r.log[j]? = some e' → sendQ o e' = false := fun q j e' hj he' => by
    by_cases w : j = k
    · subst w; rw [he] at he'; cases he'; exact q
    · exact hn j e' (by omega) he'
  refine ⟨_, cell_blk heb rfl, ?_⟩
  refine xif_of (fun q => ?_) (fun q => ?_)
  · have q : ¬ e.op.kind = 12 := by simpa using q
    exact ⟨k + 1, ⟨rfl, rfl, slot_inc (by omega), trivial⟩, ⟨⟨by omega, skip (decide_eq_false fun w => q w.1)⟩, x25⟩, by show r.ln - (k + 1) < r.ln - k; omega⟩
  have q : e.op.kind = 12 := by simpa using q
  refine ⟨_, cell_blk heb rfl, _, cell_blk hob5 rfl, ?_⟩
  refine xif_of (fun q2 => ?_) (fun q2 => ?_)
  · have q2 : ¬ e.op.to = o.to := by simpa using q2
    exact ⟨k + 1, ⟨rfl, rfl, slot_inc (by omega), trivial⟩, ⟨⟨by omega, skip (decide_eq_false fun w => q2 w.2.1)⟩, x25⟩, by show r.ln - (k + 1) < r.ln - k; omega⟩
  have q2 : e.op.to = o.to := by simpa using q2
  refine ⟨_, cell_blk heb rfl, _, cell_blk hob5 rfl, ?_⟩
  refine xif_of (fun q3 => ?_) (fun q3 => ?_)
  · have q3 : ¬ e.mark = o.mark := by simpa using q3
    exact ⟨k + 1, ⟨rfl, rfl, slot_inc (by omega), trivial⟩, ⟨⟨by omega, skip (decide_eq_false fun w => q3 w.2.2)⟩, x25⟩, by show r.ln - (k + 1) < r.ln - k; omega⟩
  have q3 : e.mark = o.mark := by simpa using q3
  have hf : r.log.find? (sendQ o) = some e := by
    obtain ⟨hil, rfl⟩ := List.getElem?_eq_some_iff.1 he
    exact List.find?_eq_some_iff_getElem.2 ⟨decide_eq_true ⟨q, q2, q3⟩, k, hil, rfl, fun j hj => by
      have := hn j _ hj (List.getElem?_eq_getElem (by omega))
      rw [this]; rfl⟩
  obtain ⟨cm, hcm⟩ : ∃ c, cameAt r o.id = some c := by
    unfold strangerM at hs
    cases hc : cameAt r o.id with
    | none => rw [hc] at hs; cases hs
    | some c => exact ⟨c, rfl⟩
  have e4 : bytesM r o = if e.ans ≠ 2 ∧ e.ans ≠ 3 then true else decide (outE cm.bs (decide (e.ans = 3)) e.op.vid ≠ 0 ∨ outB cm.bs (decide (e.ans = 3)) e.op.vid ≠ o.bs) := by unfold bytesM; rw [hf, hcm]
  refine ⟨Unit, fun _ => [(2, .pointer (some ⟨b, 0, none⟩)), (3, .pointer (some ⟨ob, 0, none⟩)), (6, .pointer (some ⟨eb, 0, none⟩))], fun _ h' => (e.ans = 2 ∨ e.ans = 3) ∧ h' = h5, ?_, ?_⟩
  · refine ⟨_, cell_blk heb rfl, ?_⟩
    refine xif_of (fun q => ?_) (fun q => ?_)
    · have q : ¬ e.ans = 2 := by simpa using q
      refine ⟨_, cell_blk heb rfl, ?_⟩
      refine xif_of (fun q2 => ?_) (fun q2 => ?_)
      · have q2 : ¬ e.ans = 3 := by simpa using q2
        have e5 : bytesM r o = true := e4.trans (if_pos ⟨q, q2⟩)
        exact ⟨congrArg Value.bool (by rw [e5]; rfl), x5⟩
      · have q2 : e.ans = 3 := by simpa using q2
        exact ⟨(), ⟨rfl, rfl, rfl, trivial⟩, .inr q2, rfl⟩
    · have q : e.ans = 2 := by simpa using q
      exact ⟨(), ⟨rfl, rfl, rfl, trivial⟩, .inl q, rfl⟩
  rintro _ h6 ⟨h23, rfl⟩
  have e5 : bytesM r o = decide (outE cm.bs (e.ans == 3) e.op.vid ≠ 0 ∨ outB cm.bs (e.ans == 3) e.op.vid ≠ o.bs) := e4.trans (if_neg (fun q => by omega))
  obtain ⟨ca, hCA, c0, c1, crd⟩ := came_at (R.ext x5) hcm
  have q2' : cell h6 ((ca.add (o.id.toNat * 3)).add 2) = some (.slice cm.A cm.n cm.c) := crd.get 2 rfl
  have B := (R.ext x5).cameb cm (by unfold cameAt at hcm; rw [if_pos c0] at hcm; exact List.mem_of_getElem? hcm)
  refine ⟨_, cell_blk hb5 rfl, _, cell_blk hob5 rfl, ca, hCA, c0, c1, _, q2', _, cell_blk heb rfl, _, cell_blk heb rfl, ?_⟩
  refine (r2Out_spec (t := e.ans == 3) B.row B.len B.few B.cap B.byte).mono ?_
  rintro v h7 ⟨A', n', c', rfl, hok, x7⟩
  have hob7 := x7.blk hob5
  have x07 := x5.trans x7
  refine xif_of (fun q => ?_) (fun q => ?_)
  · have q : outE cm.bs (e.ans == 3) e.op.vid = 0 := by simpa using q
    obtain ⟨hn', row'⟩ := hok q
    have BO := (R.ext x07).outsb o (List.mem_of_getElem? ho)
    have len' : n' ≤ 100000 := by
      rw [hn']
      unfold outB padM
      simp only [List.length_append, List.length_replicate, List.length_take, List.length_drop]
      have := B.few
      have := B.len
      have : (if (e.ans == 3) = true then tagB (tciM cm.bs / 4096 * 4096 + e.op.vid) else []).length ≤ 4 := by split <;> simp [tagB]
      omega
    refine ⟨_, cell_blk hob7 rfl, ?_⟩
    refine (rSame1_spec row' hn'.symm len' BO.row BO.len).mono ?_
    rintro v h8 ⟨rfl, rfl⟩
    refine ⟨congrArg Value.bool ?_, x07⟩
    rw [e5, Bool.eq_iff_iff]
    simp [q]
  · have q : ¬ outE cm.bs (e.ans == 3) e.op.vid = 0 := by simpa using q
    refine ⟨congrArg Value.bool ?_, x07⟩
    rw [e5, decide_eq_true (.inl q)]; rfl
set_option maxHeartbeats 2000000 in
theorem rOut23_spec {r : Rp} (R : RpOk h r) {w i : Nat} (hw : w < 7) (hi : i < r.on) (hs : w = 6 → wrongM r 0 i = false) :
    HCalls Tryz.prog 22 #[.agg (encRp r).toArray, .int .i64 i, .string (wordS (5 + w))] h (fun v h' => v = .bool (wrongM r w i) ∧ Ext h h') := by
  refine xcalls env_rOut23 Tryz.func22 rfl (by kernel_rfl) rfl (by kernel_rfl) ?_
  intro b h1 n1
  have hb : h1[b]? = some (.cells (encRp r).toArray 35 (0, 0)) := n1.this
  have ol := R.outsl
  have os := R.outss
  obtain ⟨o, ho⟩ : ∃ o, r.outs[i]? = some o := ⟨r.outs[i]'(by omega), List.getElem?_eq_getElem (by omega)⟩
  obtain ⟨a, hA, i0, i1, hl5, hrd⟩ := out_at (R.ext n1.ext) ho
  have eW := wrong_at ho
  refine ⟨_, cell_blk hb rfl, a, hA, i0, i1, _, hl5, hrd, ?_⟩
  intro ob h2 n2
  refine ⟨rfl, rfl, canset_blk n2.this rfl, fun h3 s3 => ?_⟩
  have hob : h3[ob]? = some (.cells (encOt o).toArray 65 (0, 0)) := n2.fill rfl s3
  have x13 : Ext h1 h3 := n2.ext.stored s3 (n2.ge (Ext.refl _))
  have hb3 := x13.blk hb
  have x3 := n1.ext.trans x13
  refine xif_of (fun q => ?_) (fun q => ?_)
  · have q : ((wordS (5 + w)).toList == (wordS 5).toList) = true := q
    rw [word_is _ _ (by omega) (by decide), decide_eq_true_iff] at q
    obtain rfl : w = 0 := by omega
    have eW : wrongM r 0 i = strangerM r o := eW 0
    refine ⟨encRp r, rfl, reads_all hb3, _, cell_blk hob rfl, ?_⟩
    refine (rCame23_spec r o.id).mono ?_
    rintro v h4 ⟨hv, x4⟩
    have hb4 := x4.blk hb3
    have hob4 := x4.blk hob
    have x04 := x3.trans x4
    rcases came_iff R o.id with ⟨e, e2⟩ | ⟨e, c, e2⟩
    · rw [e] at hv
      subst hv
      have e3 : strangerM r o = true := by unfold strangerM; rw [e2]
      exact ⟨congrArg Value.bool (eW.trans e3).symm, x04⟩
    · rw [e] at hv
      subst hv
      have e3 : wrongM r 0 i = decide (c.port ≠ o.frm ∨ o.to < 0 ∨ r.ports ≤ o.to) := eW.trans (by unfold strangerM; rw [e2])
      obtain ⟨a, hA, c0, c1, crd⟩ := came_at (R.ext x04) e2
      have p0 : cell h4 ((a.add (o.id.toNat * 3)).add 0) = some (.int .i64 c.port) := crd.get 0 rfl
      refine ⟨_, cell_blk hb4 rfl, _, cell_blk hob4 rfl, a, hA, c0, c1, _, p0, _, cell_blk hob4 rfl, ?_⟩
      refine xif_of (fun q => ?_) (fun q => ?_)
      · have q : ¬ c.port = o.frm := by simpa using q
        exact ⟨congrArg Value.bool (e3.trans (decide_eq_true (.inl q))).symm, x04⟩
      have q : c.port = o.frm := by simpa using q
      refine ⟨_, cell_blk hob4 rfl, ?_⟩
      refine xif_of (fun q2 => ?_) (fun q2 => ?_)
      · have q2 : o.to < 0 := of_decide_eq_true q2
        exact ⟨congrArg Value.bool (e3.trans (decide_eq_true (.inr (.inl q2)))).symm, x04⟩
      have q2 : ¬ o.to < 0 := of_decide_eq_false q2
      refine ⟨_, cell_blk hob4 rfl, _, cell_blk hb4 rfl, congrArg Value.bool (Eq.trans ?_ e3.symm), x04⟩
      rw [Bool.eq_iff_iff, decide_eq_true_iff, decide_eq_true_iff]; omega
  have q : ((wordS (5 + w)).toList == (wordS 5).toList) = false := q
  rw [word_is _ _ (by omega) (by decide), decide_eq_false_iff_not] at q
  refine xif_of (fun q1 => ?_) (fun q1 => ?_)
  · have q1 : ((wordS (5 + w)).toList == (wordS 6).toList) = true := q1
    rw [word_is _ _ (by omega) (by decide), decide_eq_true_iff] at q1
    obtain rfl : w = 1 := by omega
    refine ⟨_, cell_blk hob rfl, _, cell_blk hob rfl, congrArg Value.bool ?_, x3⟩
    have eW : wrongM r 1 i = decide (o.frm = o.to) := eW 1
    rw [eW, Bool.eq_iff_iff, decide_eq_true_iff, beq_iff_eq]
  have q1 : ((wordS (5 + w)).toList == (wordS 6).toList) = false := q1
  rw [word_is _ _ (by omega) (by decide), decide_eq_false_iff_not] at q1
  refine xif_of (fun q2 => ?_) (fun q2 => ?_)
  · have q2 : ((wordS (5 + w)).toList == (wordS 7).toList) = true := q2
    rw [word_is _ _ (by omega) (by decide), decide_eq_true_iff] at q2
    obtain rfl : w = 2 := by omega
    have eW : wrongM r 2 i = refusedM r o := eW 2
    refine ⟨encRp r, rfl, reads_all hb3, _, cell_blk hob rfl, ?_⟩
    refine (rFind23_spec (R.ext x3) o.id).mono ?_
    rintro v h4 ⟨⟨rfl, e⟩ | ⟨d, rfl, e⟩, x4⟩
    · intro fb h5 n5
      refine ⟨rfl, rfl, canset_blk n5.this rfl, fun h6 s6 => ?_⟩
      exact ⟨congrArg Value.bool (eW.trans (by unfold refusedM; rw [e])).symm, x3.trans (x4.trans (n5.ext.stored s6 (n5.ge (Ext.refl _))))⟩
    · intro fb h5 n5
      refine ⟨rfl, rfl, canset_blk n5.this rfl, fun h6 s6 => ?_⟩
      have hfb : h6[fb]? = some (.cells (encDn d).toArray 68 (0, 0)) := n5.fill rfl s6
      refine ⟨_, cell_blk hfb rfl, congrArg Value.bool ?_, x3.trans (x4.trans (n5.ext.stored s6 (n5.ge (Ext.refl _))))⟩
      have e3 : wrongM r 2 i = decide (d.why ≠ 0) := eW.trans (by unfold refusedM; rw [e])
      rw [e3, Bool.eq_iff_iff]
      simp [bne]
  have q2 : ((wordS (5 + w)).toList == (wordS 7).toList) = false := q2
  rw [word_is _ _ (by omega) (by decide), decide_eq_false_iff_not] at q2
  refine xif_of (fun q3 => ?_) (fun q3 => ?_)
  · have q3 : ((wordS (5 + w)).toList == (wordS 8).toList) = true := q3
    rw [word_is _ _ (by omega) (by decide), decide_eq_true_iff] at q3
    obtain rfl : w = 3 := by omega
    have eW : wrongM r 3 i = foundM r o := eW 3
    refine ⟨encRp r, rfl, reads_all hb3, _, cell_blk hob rfl, ?_⟩
    refine (rFind23_spec (R.ext x3) o.id).mono ?_
    rintro v h4 ⟨⟨rfl, e⟩ | ⟨d, rfl, e⟩, x4⟩
    · intro fb h5 n5
      refine ⟨rfl, rfl, canset_blk n5.this rfl, fun h6 s6 => ?_⟩
      exact ⟨congrArg Value.bool (eW.trans (by unfold foundM; rw [e])).symm, x3.trans (x4.trans (n5.ext.stored s6 (n5.ge (Ext.refl _))))⟩
    · intro fb h5 n5
      refine ⟨rfl, rfl, canset_blk n5.this rfl, fun h6 s6 => ?_⟩
      have hfb : h6[fb]? = some (.cells (encDn d).toArray 68 (0, 0)) := n5.fill rfl s6
      have x56 := n5.ext.stored s6 (n5.ge (Ext.refl _))
      have hob6 := x56.blk (x4.blk hob)
      have x6 := x3.trans (x4.trans x56)
      have e3 : wrongM r 3 i = decide (0 ≤ d.found ∧ d.found ≠ o.to) := eW.trans (by unfold foundM; rw [e])
      refine ⟨_, cell_blk hfb rfl, ?_⟩
      refine xif_of (fun q4 => ?_) (fun q4 => ?_)
      · have q4 : d.found ≥ 0 := of_decide_eq_true q4
        refine ⟨_, cell_blk hfb rfl, _, cell_blk hob6 rfl, congrArg Value.bool (Eq.trans ?_ e3.symm), x6⟩
        rw [Bool.eq_iff_iff]
        simp [bne]; omega
      · have q4 : ¬ d.found ≥ 0 := of_decide_eq_false q4
        exact ⟨congrArg Value.bool (e3.trans (decide_eq_false (by omega))).symm, x6⟩
  have q3 : ((wordS (5 + w)).toList == (wordS 8).toList) = false := q3
  rw [word_is _ _ (by omega) (by decide), decide_eq_false_iff_not] at q3
  refine xif_of (fun q4 => ?_) (fun q4 => ?_)
  · have q4 : ((wordS (5 + w)).toList == (wordS 11).toList) = true := q4
    rw [word_is _ _ (by omega) (by decide), decide_eq_true_iff] at q4
    obtain rfl : w = 6 := by omega
    have hs := hs rfl
    have hs : strangerM r o = false := (eW 0).symm.trans hs
    have eW : wrongM r 6 i = bytesM r o := eW 6
    refine ⟨encRp r, rfl, reads_all hb3, encOt o, rfl, reads_all hob, ?_⟩
    refine (rBytes23_spec (R.ext x3) ho hs).mono ?_
    rintro v h4 ⟨rfl, x4⟩
    exact ⟨congrArg Value.bool (by rw [eW]; simp), x3.trans x4⟩
  have q4 : ((wordS (5 + w)).toList == (wordS 11).toList) = false := q4
  rw [word_is _ _ (by omega) (by decide), decide_eq_false_iff_not] at q4
  obtain ⟨P, hP⟩ : ∃ P : Ot → Bool, P = if w = 4 then twiceM o else orderQ o := ⟨_, rfl⟩
  have eP : wrongM r w i = (r.outs.take i).any P := by
    rw [eW w, hP]
    have hw45 : w = 4 ∨ w = 5 := by omega
    rcases hw45 with rfl | rfl <;> rfl
  refine ⟨Nat, fun k => [(1, .int .i64 i), (2, .string (wordS (5 + w))), (3, .pointer (some ⟨b, 0, none⟩)), (7, .pointer (some ⟨ob, 0, none⟩)), (12, .int .i64 k)], fun k h' => (k ≤ i ∧ ∀ j y, j < k → r.outs[j]? = some y → P y = false) ∧ Ext h3 h', fun k => i - k, 0, ⟨rfl, rfl, rfl, rfl, rfl, trivial⟩, ⟨⟨Nat.zero_le _, fun j y hj => by omega⟩, Ext.refl _⟩, ?_⟩
  rintro k h4 ⟨⟨hk, hn⟩, x34⟩
  have x4 := x3.trans x34
  have hb4 := x34.blk hb3
  refine xif_of (fun hlt => ?_) (fun hge => ?_)
  rotate_left
  · have hge : ¬ (k : Int) < i := of_decide_eq_false hge
    refine ⟨congrArg Value.bool (eP.trans ?_).symm, x4⟩
    rw [List.any_eq_false]
    intro y hy
    obtain ⟨j, hj⟩ := List.getElem?_of_mem hy
    rw [List.getElem?_take] at hj
    split at hj
    · rw [hn j y (by omega) hj]; decide
    · cases hj
  have hlt : (k : Int) < i := of_decide_eq_true hlt
  obtain ⟨y, hy⟩ : ∃ y, r.outs[k]? = some y := ⟨r.outs[k]'(by omega), List.getElem?_eq_getElem (by omega)⟩
  obtain ⟨ya, hYA, y0, y1, yl5, yrd⟩ := out_at (R.ext x4) hy
  refine ⟨_, cell_blk hb4 rfl, ya, hYA, y0, y1, _, yl5, yrd, ?_⟩
  intro yb h5 n5
  refine ⟨rfl, rfl, canset_blk n5.this rfl, fun h6 s6 => ?_⟩
  have hyb : h6[yb]? = some (.cells (encOt y).toArray 65 (0, 0)) := n5.fill rfl s6
  have x46 : Ext h4 h6 := n5.ext.stored s6 (n5.ge (Ext.refl _))
  have hob6 := x46.blk (x34.blk hob)
  have x6 := x4.trans x46
  have x36 := x34.trans x46
  have hit : P y = true → wrongM r w i = true := fun q => eP.trans (List.any_eq_true.2 ⟨y, List.mem_of_getElem? (i := k) (by rw [List.getElem?_take, if_pos (by omega), hy]), q⟩)
  have no : P y = false → ∀ j e, j < k + 1 → r.outs[j]? = some e → P e = false := fun q j e hj he => by
    by_cases v : j = k
    · subst v; rw [hy] at he; cases he; exact q
    · exact hn j e (by omega) he
  refine xif_of (fun q9 => ?_) (fun q9 => ?_)
  · have q9 : ((wordS (5 + w)).toList == (wordS 9).toList) = true := q9
    rw [word_is _ _ (by omega) (by decide), decide_eq_true_iff] at q9
    have w4 : w = 4 := by omega
    rw [if_pos w4] at hP
    have pw : P y = decide (y.id = o.id ∧ y.to = o.to) := by rw [hP]; rfl
    refine ⟨_, cell_blk hyb rfl, _, cell_blk hob6 rfl, ?_⟩
    refine xif_of (fun q => ?_) (fun q => ?_)
    · have q : y.id = o.id := by simpa using q
      refine ⟨_, cell_blk hyb rfl, _, cell_blk hob6 rfl, ?_⟩
      refine xif_of (fun q2 => ?_) (fun q2 => ?_)
      · have q2 : y.to = o.to := by simpa using q2
        exact ⟨congrArg Value.bool (hit (pw.trans (decide_eq_true ⟨q, q2⟩))).symm, x6⟩
      · have q2 : ¬ y.to = o.to := by simpa using q2
        refine xif_of (fun q => ?_) (fun _ => ?_)
        · have q : ((wordS (5 + w)).toList == (wordS 10).toList) = true := q
          rw [word_is _ _ (by omega) (by decide), decide_eq_true_iff] at q
          omega
        exact ⟨k + 1, ⟨rfl, rfl, rfl, rfl, slot_inc (by omega), trivial⟩, ⟨⟨by omega, no (pw.trans (decide_eq_false fun v => q2 v.2))⟩, x36⟩, by show i - (k + 1) < i - k; omega⟩
    · have q : ¬ y.id = o.id := by simpa using q
      refine xif_of (fun q => ?_) (fun _ => ?_)
      · have q : ((wordS (5 + w)).toList == (wordS 10).toList) = true := q
        rw [word_is _ _ (by omega) (by decide), decide_eq_true_iff] at q
        omega
      exact ⟨k + 1, ⟨rfl, rfl, rfl, rfl, slot_inc (by omega), trivial⟩, ⟨⟨by omega, no (pw.trans (decide_eq_false fun v => q v.1))⟩, x36⟩, by show i - (k + 1) < i - k; omega⟩
  · have q9 : ((wordS (5 + w)).toList == (wordS 9).toList) = false := q9
    rw [word_is _ _ (by omega) (by decide), decide_eq_false_iff_not] at q9
    have w5 : w = 5 := by omega
    rw [if_neg (by omega)] at hP
    have pw : P y = decide (y.frm = o.frm ∧ y.to = o.to ∧ y.id > o.id) := by rw [hP]; rfl
    refine xif_of (fun _ => ?_) (fun q => ?_)
    rotate_left
    · have q : ((wordS (5 + w)).toList == (wordS 10).toList) = false := q
      rw [word_is _ _ (by omega) (by decide), decide_eq_false_iff_not] at q
      omega
    refine ⟨_, cell_blk hyb rfl, _, cell_blk hob6 rfl, ?_⟩
    refine xif_of (fun q => ?_) (fun q => ?_)
    rotate_left
    · have q : ¬ y.frm = o.frm := by simpa using q
      exact ⟨k + 1, ⟨rfl, rfl, rfl, rfl, slot_inc (by omega), trivial⟩, ⟨⟨by omega, no (pw.trans (decide_eq_false fun v => q v.1))⟩, x36⟩, by show i - (k + 1) < i - k; omega⟩
    have q : y.frm = o.frm := by simpa using q
    refine ⟨_, cell_blk hyb rfl, _, cell_blk hob6 rfl, ?_⟩
    refine xif_of (fun q2 => ?_) (fun q2 => ?_)
    rotate_left
    · have q2 : ¬ y.to = o.to := by simpa using q2
      exact ⟨k + 1, ⟨rfl, rfl, rfl, rfl, slot_inc (by omega), trivial⟩, ⟨⟨by omega, no (pw.trans (decide_eq_false fun v => q2 v.2.1))⟩, x36⟩, by show i - (k + 1) < i - k; omega⟩
    have q2 : y.to = o.to := by simpa using q2
    refine ⟨_, cell_blk hyb rfl, _, cell_blk hob6 rfl, ?_⟩
    refine xif_of (fun q3 => ?_) (fun q3 => ?_)
    · have q3 : y.id > o.id := of_decide_eq_true q3
      exact ⟨congrArg Value.bool (hit (pw.trans (decide_eq_true ⟨q, q2, q3⟩))).symm, x6⟩
    · have q3 : ¬ y.id > o.id := of_decide_eq_false q3
      exact ⟨k + 1, ⟨rfl, rfl, rfl, rfl, slot_inc (by omega), trivial⟩, ⟨⟨by omega, no (pw.trans (decide_eq_false fun v => q3 v.2.2))⟩, x36⟩, by show i - (k + 1) < i - k; omega⟩
end
end Go.Proofs.YtcjoenkpibhmoaaGreatE
