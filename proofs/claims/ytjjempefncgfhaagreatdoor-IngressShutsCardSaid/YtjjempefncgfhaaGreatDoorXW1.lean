/- What the document's model does: VLANs found, a port set. Conditions: the arguments are of their types. -/
import Derived.Test.YtjjempefncgfhaaGreatDoorXP1
import Derived.Test.YtjjempefncgfhaaGreatDoorXB4
set_option linter.unusedVariables false
set_option linter.unusedSimpArgs false
set_option maxRecDepth 100000
namespace Go.Proofs.YtjjempefncgfhaaGreatDoorE
open Go Go.Proofs
def env_rDo17 : Nat → Ann
  | 6 => ⟨.op 0 [] <| .op 1 [] <| .op 2 [] <| .op 3 [] <| .op 4 [] <| .op 5 [] <| .op 6 [] <| .op 7 [] <| .nil, [0, 1, 3, 7, 0, 16, 63, 127], true⟩
  | 9 => ⟨.op 0 [] <| .op 1 [] <| .op 2 [] <| .op 3 [] <| .op 4 [] <| .op 5 [] <| .op 6 [] <| .op 7 [] <| .op 8 [] <| .op 9 [] <| .nil, [0, 1, 3, 7, 0, 16, 63, 127, 255, 511], false⟩
  | 15 => ⟨.op 0 [] <| .op 1 [] <| .op 2 [] <| .op 3 [] <| .op 4 [] <| .op 5 [] <| .op 6 [] <| .op 7 [] <| .op 8 [] <| .op 9 [] <| .op 10 [] <| .op 11 [] <| .nil, [0, 1, 3, 7, 0, 16, 0, 64, 0, 256, 1023, 2047], false⟩
  | 17 => ⟨.op 0 [] <| .op 1 [] <| .op 2 [] <| .op 3 [] <| .op 4 [] <| .op 5 [] <| .op 6 [] <| .op 7 [] <| .nil, [0, 1, 3, 7, 0, 16, 63, 127], false⟩
  | 19 => ⟨.op 0 [] <| .op 1 [] <| .op 2 [] <| .op 3 [] <| .op 4 [] <| .op 5 [] <| .op 6 [] <| .op 7 [] <| .op 8 [] <| .op 9 [] <| .op 10 [] <| .op 11 [] <| .nil, [0, 1, 3, 7, 0, 16, 0, 64, 0, 256, 1023, 2047], false⟩
  | 21 => ⟨.op 0 [] <| .op 1 [] <| .op 2 [] <| .op 3 [] <| .op 4 [] <| .op 5 [] <| .op 6 [] <| .nil, [0, 1, 3, 7, 0, 16, 63], false⟩
  | 25 => ⟨.op 0 [] <| .op 1 [] <| .op 2 [] <| .op 3 [] <| .op 4 [] <| .op 5 [] <| .op 6 [] <| .op 7 [] <| .op 8 [] <| .op 9 [] <| .op 10 [] <| .op 11 [] <| .op 12 [] <| .op 13 [] <| .nil, [0, 1, 3, 7, 0, 16, 0, 64, 0, 256, 0, 1024, 4095, 8191], false⟩
  | 27 => ⟨.op 0 [] <| .op 1 [] <| .op 2 [] <| .op 3 [] <| .op 4 [] <| .op 5 [] <| .op 6 [] <| .op 7 [] <| .op 8 [] <| .op 9 [] <| .op 10 [] <| .nil, [0, 1, 3, 7, 0, 16, 0, 64, 240, 511, 1023], false⟩
  | 29 => ⟨.op 0 [] <| .op 1 [] <| .op 2 [] <| .op 3 [] <| .op 4 [] <| .op 5 [] <| .op 6 [] <| .op 7 [] <| .op 8 [] <| .op 9 [] <| .alt (.op 10 [] <| .op 11 [] <| .op 12 [] <| .op 13 [] <| .op 14 [3, 5, 7, 9] <| .op 15 [] <| .op 16 [] <| .nil) (.op 14 [3, 5, 7, 9] <| .op 10 [] <| .op 11 [] <| .op 12 [] <| .op 13 [] <| .op 15 [] <| .op 16 [] <| .nil), [0, 1, 3, 7, 0, 16, 63, 127, 0, 256, 1023, 2047, 4095, 4095, 0, 24575, 65535], false⟩
  | 32 => ⟨.op 0 [] <| .op 1 [] <| .op 2 [] <| .op 3 [] <| .op 4 [] <| .op 5 [] <| .op 6 [] <| .op 7 [] <| .op 8 [] <| .nil, [0, 1, 3, 7, 0, 16, 0, 127, 255], false⟩
  | 46 => ⟨.op 0 [] <| .op 1 [] <| .op 2 [] <| .op 3 [] <| .op 4 [] <| .op 5 [] <| .op 6 [] <| .op 7 [] <| .op 8 [] <| .op 9 [] <| .op 10 [] <| .op 11 [] <| .op 12 [] <| .op 13 [] <| .op 14 [] <| .op 15 [] <| .op 16 [] <| .op 17 [] <| .nil, [0, 1, 3, 7, 0, 0, 32, 96, 224, 0, 0, 0, 1535, 5631, 13823, 32767, 65535, 131071], false⟩
  | 49 => ⟨.op 0 [] <| .op 1 [] <| .op 2 [] <| .op 3 [] <| .op 4 [] <| .op 5 [] <| .op 6 [] <| .op 7 [] <| .op 8 [] <| .op 9 [] <| .op 10 [] <| .op 11 [] <| .op 12 [] <| .op 13 [] <| .op 14 [] <| .op 15 [] <| .op 16 [] <| .op 17 [] <| .op 18 [] <| .nil, [0, 1, 3, 7, 0, 16, 63, 127, 0, 256, 1023, 2047, 4095, 0, 8192, 24576, 57344, 122880, 262143], false⟩
  | 51 => ⟨.op 0 [] <| .op 1 [] <| .op 2 [] <| .op 3 [] <| .op 4 [] <| .op 5 [] <| .op 6 [] <| .op 7 [] <| .op 8 [] <| .op 9 [] <| .op 11 [] <| .op 12 [] <| .op 13 [] <| .op 14 [] <| .op 15 [] <| .op 16 [] <| .op 17 [] <| .op 18 [] <| .op 19 [] <| .op 20 [] <| .op 21 [] <| .op 22 [] <| .op 24 [] <| .op 25 [] <| .alt (.op 10 [3, 5, 7, 9, 14, 16, 18, 20, 22, 25] <| .alt (.op 23 [3, 5, 7, 9, 25] <| .op 26 [3, 5, 7, 9, 14, 16, 18, 20, 22] <| .op 27 [3, 5, 7, 9] <| .op 28 [] <| .op 29 [] <| .nil) (.op 26 [3, 5, 7, 9, 14, 16, 18, 20, 22] <| .op 23 [3, 5, 7, 9, 25] <| .op 27 [3, 5, 7, 9] <| .op 28 [] <| .op 29 [] <| .nil)) (.op 26 [3, 5, 7, 9, 14, 16, 18, 20, 22] <| .op 10 [3, 5, 7, 9, 14, 16, 18, 20, 22, 25] <| .op 23 [3, 5, 7, 9, 25] <| .op 27 [3, 5, 7, 9] <| .op 28 [] <| .op 29 [] <| .nil), [0, 1, 3, 7, 0, 16, 63, 127, 0, 256, 0, 0, 2048, 6144, 14336, 0, 32768, 129024, 260096, 0, 524288, 2095104, 4192256, 8387584, 0, 16777216, 50331648, 134216704, 268435455, 536870911], false⟩
  | 54 => ⟨.op 0 [] <| .op 1 [] <| .op 2 [] <| .op 3 [] <| .op 4 [] <| .op 5 [] <| .op 6 [] <| .op 7 [] <| .op 8 [] <| .op 9 [] <| .op 10 [] <| .op 11 [] <| .op 12 [] <| .nil, [0, 1, 3, 7, 0, 16, 63, 127, 0, 256, 1023, 2047, 4095], false⟩
  | 57 => ⟨.op 0 [] <| .op 1 [] <| .op 2 [] <| .op 3 [] <| .op 4 [] <| .op 5 [] <| .op 6 [] <| .op 7 [] <| .op 8 [] <| .op 9 [] <| .op 11 [] <| .op 12 [] <| .op 10 [3, 5, 7, 9] <| .op 13 [3, 5, 7, 9] <| .op 14 [] <| .op 15 [] <| .nil, [0, 1, 3, 7, 0, 16, 63, 127, 0, 256, 0, 0, 2048, 7168, 16383, 32767], false⟩
  | 59 => ⟨.op 0 [] <| .op 1 [] <| .op 2 [] <| .op 3 [] <| .op 4 [] <| .op 5 [] <| .op 6 [] <| .op 7 [] <| .op 8 [] <| .op 9 [] <| .nil, [0, 1, 3, 7, 0, 16, 63, 127, 255, 511], false⟩
  | 61 => ⟨.op 0 [] <| .op 1 [] <| .op 2 [] <| .op 3 [] <| .op 4 [] <| .op 5 [] <| .op 6 [] <| .op 7 [] <| .op 8 [] <| .op 9 [] <| .op 10 [] <| .op 11 [] <| .op 12 [] <| .op 13 [] <| .op 14 [] <| .op 15 [] <| .nil, [0, 1, 3, 7, 15, 31, 63, 7, 255, 511, 1023, 7, 2055, 8191, 16383, 32767], false⟩
  | 63 => ⟨.op 0 [] <| .op 1 [] <| .op 2 [] <| .op 3 [] <| .op 4 [] <| .op 5 [] <| .op 6 [] <| .op 7 [] <| .op 8 [] <| .op 9 [] <| .op 10 [] <| .nil, [0, 1, 3, 7, 0, 31, 63, 127, 0, 256, 1023], false⟩
  | _ => ⟨.nil, [], false⟩
abbrev MdR (base : Nat) (G : Nat → Prop) (h : Heap) (m : Nat) (D : Dat) (p : Pl) (M : Md) : Prop := WdAt 157 168 120 163 171 242 158 64 base G h m D p M
/-- The document's model is another one, and what else there was is as it was. -/
def DidR (base : Nat) (G : Nat → Prop) (h : Heap) (m : Nat) (D : Dat) (p : Pl) (M' : Md) (h' : Heap) : Prop := ∃ G' : Nat → Prop, (∀ b, G' b → G b ∨ h.size ≤ b) ∧ MdR base G' h' m D p M' ∧ Fr (D.Z p) h h'
section
variable {base : Nat} {G : Nat → Prop} {h h1 h' : Heap} {m : Nat} {D : Dat} {p : Pl} {M M' : Md}
theorem DidR.same (H : MdR base G h m D p M) (x : Ext h h') : DidR base G h m D p M h' := ⟨G, fun b hb => .inl hb, H.ext x, x.fr _⟩
theorem DidR.after (x : Ext h h1) (d : DidR base G h1 m D p M' h') : DidR base G h m D p M' h' := by
  obtain ⟨F', h2, h3, h4⟩ := d
  have := x.size
  exact ⟨F', fun b hb => (h2 b hb).imp id fun hg => Nat.le_trans this hg, h3, (x.fr _).trans h4 fun k _ hk => hk⟩
theorem DidR.book (H : MdR base G h m D p M) {L : List (List Place)} (hb : BkR base h' D.b D.tb p.size L) (k : KeepA (some ⟨D.tb, 0, none⟩) h h') : DidR base G h m D p { M with book := L } h' :=
  ⟨G, fun b hb => .inl hb, H.newBook (by decide) (by decide) (by decide) (by decide) (by decide) (by decide) (k.fr rfl) hb, (k.fr (X := fun j => j = D.tb) rfl).mono fun j _ e => .inr (.inr (.inl e))⟩
theorem rHas_spec (H : MdR base G h m D p M) (n : Int) : HCalls Tryz.prog 109 #[.pointer (some ⟨m, 0, none⟩), .int .i64 n] h (fun v h' => v = .bool (decide (inP p n)) ∧ h' = h) := by
  refine xcalls env0 Tryz.func109 rfl (by kernel_rfl) rfl (by kernel_rfl) ?_
  refine xif_of (fun q => ?_) (fun q => ?_)
  · have q : n ≥ 0 := of_decide_eq_true q
    refine ⟨_, cell_blk H.blk rfl, congrArg Value.bool ?_, rfl⟩
    rw [Bool.eq_iff_iff, decide_eq_true_iff, decide_eq_true_iff]; unfold inP; omega
  · have q : ¬ n ≥ 0 := of_decide_eq_false q
    exact ⟨congrArg Value.bool (decide_eq_false fun hh => q hh.1).symm, rfl⟩
theorem r3Find_spec {A : Option Addr} {c n : Nat} {l : List Vl} {vid : Int} (hr : Row encVl 3 h A l) (hl : l.length = n) (hn : n ≤ 1000000) : HCalls Tryz.prog 70 #[.slice A n c, .int .i64 vid] h (fun v h' => v = .int .i64 (findV vid l 0) ∧ h' = h) := by
  subst hl
  refine xcalls env0 Tryz.func70 rfl (by kernel_rfl) rfl (by kernel_rfl) ?_
  refine ⟨Nat, fun i => [(0, .slice A l.length c), (1, .int .i64 vid), (5, .int .i64 i)], fun i h' => (i ≤ l.length ∧ findV vid (l.drop i) i = findV vid l 0) ∧ h' = h, fun i => l.length - i, 0, ⟨rfl, rfl, rfl, trivial⟩, ⟨⟨Nat.zero_le _, rfl⟩, rfl⟩, ?_⟩
  rintro i h2 ⟨⟨hi, hf⟩, rfl⟩
  refine xif_of (fun hlt => ?_) (fun hge => ?_)
  · have hlt : (i : Int) < l.length := of_decide_eq_true hlt
    obtain ⟨v, hv⟩ : ∃ v, l[i]? = some v := ⟨l[i]'(by omega), List.getElem?_eq_getElem (by omega)⟩
    obtain ⟨a, hA, hrd⟩ := hr i v hv
    rw [findV_drop hv] at hf
    refine ⟨a, hA, by omega, hlt, _, hrd.get 0 rfl, ?_⟩
    refine xif_of (fun q => ?_) (fun q => ?_)
    · rw [if_pos (by simpa using q)] at hf
      exact ⟨congrArg (Value.int .i64) hf, rfl⟩
    · rw [if_neg (by simpa using q)] at hf
      exact ⟨i + 1, ⟨rfl, rfl, slot_inc (by omega), trivial⟩, ⟨⟨by omega, hf⟩, rfl⟩, by show l.length - (i + 1) < l.length - i; omega⟩
  · have hge : ¬ (i : Int) < l.length := of_decide_eq_false hge
    rw [List.drop_eq_nil_of_le (by omega)] at hf
    exact ⟨congrArg (Value.int .i64) hf, rfl⟩
theorem r16Right_specR (s : Int) : HCalls Tryz.prog 181 #[.int .i64 s] h (fun v h' => v = .bool (rightSt s) ∧ h' = h) := by
  refine xcalls env0 Tryz.func181 rfl (by kernel_rfl) rfl (by kernel_rfl) ?_
  refine xif_of (fun q => ?_) (fun q => ?_)
  · have q : s ≥ 0 := of_decide_eq_true q
    refine ⟨congrArg Value.bool ?_, rfl⟩
    unfold rightSt
    rw [Bool.eq_iff_iff, decide_eq_true_iff, decide_eq_true_iff]; omega
  · have q : ¬ s ≥ 0 := of_decide_eq_false q
    exact ⟨congrArg Value.bool (decide_eq_false fun hh => q hh.1).symm, rfl⟩
theorem r16Set_spec (x : Stn) (s : Int) : HCalls Tryz.prog 116 #[.agg (encSn x).toArray, .int .i64 s] h (fun v h' => v = .tuple #[.agg (if rightSt s = true then encSn ⟨s, IntKind.u32.wrap (x.ep + 1)⟩ else encSn ⟨0, 0⟩).toArray, .bool (rightSt s)] ∧ Ext h h') := by
  refine xcalls env0 Tryz.func116 rfl (by kernel_rfl) rfl (by kernel_rfl) ?_
  intro b1 h1 n1 b2 h2 n2
  have x02 := n1.ext.trans n2.ext
  have hb1 : h2[b1]? = some (.cells (encSn x).toArray 168 (0, 0)) := n2.ext.blk n1.this
  refine (r16Right_specR s).mono ?_
  rintro v h3 ⟨rfl, rfl⟩
  refine xif_of (fun q => ?_) (fun q => ?_)
  · have q : rightSt s = false := by simpa using q
    refine ⟨rfl, rfl, canset_blk n2.this rfl, fun h4 s4 => ?_⟩
    have hb : h4[b2]? = some (.cells [.int .i64 0, .int .u32 0].toArray 168 (0, 0)) := s4.put n2.this
    exact ⟨_, rfl, reads_all hb, by rw [if_neg (by simp [q]), q]; rfl, x02.stored s4 (n2.ge n1.ext)⟩
  · have q : rightSt s = true := by simpa using q
    refine ⟨_, cell_blk hb1 rfl, rfl, rfl, canset_blk n2.this rfl, fun h4 s4 => ?_⟩
    have hb : h4[b2]? = some (.cells [.int .i64 s, .int .u32 (IntKind.u32.wrap (x.ep + 1))].toArray 168 (0, 0)) := s4.put n2.this
    exact ⟨_, rfl, reads_all hb, by rw [if_pos q, q]; rfl, x02.stored s4 (n2.ge n1.ext)⟩
end
end Go.Proofs.YtjjempefncgfhaaGreatDoorE
/- The document's model: something is done. Conditions: the arguments are of their types. -/
set_option linter.unusedVariables false
set_option linter.unusedSimpArgs false
set_option maxRecDepth 100000
namespace Go.Proofs.YtjjempefncgfhaaGreatDoorE
open Go Go.Proofs
theorem do_out {p : Pl} {M : Md} {o : Op17} (k : o.kind < 0 ∨ 12 < o.kind) : do17 p M o = (M, -1) := by
  unfold do17
  by_cases hm : mayO p o = false
  · rw [if_pos hm]
  · rw [if_neg hm, if_neg (by omega), if_neg (by omega), if_neg (by omega), if_neg (by omega), if_neg (by omega), if_neg (by omega), if_neg (by omega), if_neg (by omega), if_neg (by omega), if_neg (by omega), if_neg (by omega), if_neg (by omega), if_neg (by omega)]
theorem do_bad {p : Pl} {M : Md} {o : Op17} (k : mayO p o = false) : do17 p M o = (M, -1) := by
  unfold do17
  rw [if_pos k]
theorem mayO_port {p : Pl} {o : Op17} (k : o.kind = 0 ∨ o.kind = 2 ∨ o.kind = 4 ∨ o.kind = 8 ∨ o.kind = 10 ∨ o.kind = 11) (n : ¬ inP p o.port) : mayO p o = false := by
  unfold mayO
  by_cases h : o.kind = 0 ∨ o.kind = 2 ∨ o.kind = 4 ∨ o.kind = 8
  · rw [if_pos h]; exact decide_eq_false n
  · rw [if_neg h, if_pos (by omega), decide_eq_false n]; rfl
theorem mayO_to {p : Pl} {o : Op17} (k : 10 ≤ o.kind ∧ o.kind ≤ 12) (n : ¬ inP p o.to) : mayO p o = false := by
  unfold mayO
  rw [if_neg (by omega)]
  by_cases h : o.kind = 10 ∨ o.kind = 11
  · rw [if_pos h, decide_eq_false n, Bool.and_false]
  · rw [if_neg h, if_pos (by omega)]; exact decide_eq_false n
theorem mayO_yes {p : Pl} {o : Op17} (k : o.kind = 0 ∨ o.kind = 2 ∨ o.kind = 4 ∨ o.kind = 8 ∨ o.kind = 10 ∨ o.kind = 11 → inP p o.port) (t : 10 ≤ o.kind ∧ o.kind ≤ 12 → inP p o.to) : mayO p o = true := by
  unfold mayO
  split
  · exact decide_eq_true (k (by omega))
  · split
    · rw [decide_eq_true (k (by omega)), decide_eq_true (t (by omega))]; rfl
    · split
      · exact decide_eq_true (t (by omega))
      · rfl
section
variable {base : Nat} {G : Nat → Prop} {h h1 h' : Heap} {m : Nat} {D : Dat} {p : Pl} {M M' : Md}
set_option maxHeartbeats 4000000 in
theorem rDo17_spec (po : p.Ok) (K : MdOk p M) (hv : M.vlans.length ≤ 1000) (H : MdR base G h m D p M) {o : Op17} (w : o.Wf) :
    HCalls Tryz.prog 57 #[.pointer (some ⟨m, 0, none⟩), .agg (encO17 o).toArray] h (fun v h' => v = .int .i64 (do17 p M o).2 ∧ DidR base G h m D p (do17 p M o).1 h') := by
  refine xcalls env_rDo17 Tryz.func57 rfl (by kernel_rfl) rfl (by kernel_rfl) ?_
  intro ob h1 n1
  have hb : h1[ob]? = some (.cells (encO17 o).toArray 56 (0, 0)) := n1.this
  have H1 := H.ext n1.ext
  have x1 := n1.ext
  refine ⟨_, cell_blk hb rfl, ?_⟩
  refine xif_of (fun q => ?_) (fun q0 => ?_)
  · have q : o.kind < 0 := of_decide_eq_true q
    rw [do_out (.inl q)]
    exact ⟨rfl, DidR.same H x1⟩
  have q0 : ¬ o.kind < 0 := of_decide_eq_false q0
  refine xif_of (fun q => ?_) (fun q12 => ?_)
  · have q : o.kind > 12 := of_decide_eq_true q
    rw [do_out (.inr q)]
    exact ⟨rfl, DidR.same H x1⟩
  have q12 : ¬ o.kind > 12 := of_decide_eq_false q12
  refine ⟨Unit, fun _ => [(0, .pointer (some ⟨m, 0, none⟩)), (3, .pointer (some ⟨ob, 0, none⟩)), (5, .int .i64 o.kind)], fun _ h' => mayO p o = true ∧ h' = h1, ?_, ?_⟩
  · refine xif_of (fun kk => ?_) (fun k0 => ?_)
    rotate_left
    refine xif_of (fun kk => ?_) (fun k2 => ?_)
    rotate_left
    refine xif_of (fun kk => ?_) (fun k4 => ?_)
    rotate_left
    refine xif_of (fun kk => ?_) (fun k8 => ?_)
    rotate_left
    refine xif_of (fun kk => ?_) (fun k10 => ?_)
    rotate_left
    refine xif_of (fun kk => ?_) (fun k11 => ?_)
    rotate_left
    · have k0 : ¬ o.kind = 0 := by simpa using k0
      have k2 : ¬ o.kind = 2 := by simpa using k2
      have k4 : ¬ o.kind = 4 := by simpa using k4
      have k8 : ¬ o.kind = 8 := by simpa using k8
      have k10 : ¬ o.kind = 10 := by simpa using k10
      have k11 : ¬ o.kind = 11 := by simpa using k11
      refine xif_of (fun kk => ?_) (fun kk => ?_)
      · have kk : o.kind ≥ 10 := of_decide_eq_true kk
        refine ⟨_, cell_blk hb rfl, ?_⟩
        refine (rHas_spec H1 _).mono ?_
        rintro v h2 ⟨rfl, rfl⟩
        refine xif_of (fun q => ?_) (fun q => ?_)
        · have q : ¬ inP p o.to := by simpa using q
          rw [do_bad (mayO_to (by omega) q)]
          exact ⟨rfl, DidR.same H x1⟩
        · have q : inP p o.to := by simpa using q
          exact ⟨(), ⟨rfl, rfl, rfl, trivial⟩, mayO_yes (fun _ => by omega) (fun _ => q), rfl⟩
      · have kk : ¬ o.kind ≥ 10 := of_decide_eq_false kk
        exact ⟨(), ⟨rfl, rfl, rfl, trivial⟩, mayO_yes (fun _ => by omega) (fun _ => by omega), rfl⟩
    all_goals
      have kk := of_decide_eq_true (p := o.kind = _) (by simpa using kk)
      refine ⟨_, cell_blk hb rfl, ?_⟩
      refine (rHas_spec H1 _).mono ?_
      rintro v h2 ⟨rfl, rfl⟩
      refine xif_of (fun q => ?_) (fun q => ?_)
      · have q : ¬ inP p o.port := by simpa using q
        rw [do_bad (mayO_port (by omega) q)]
        exact ⟨rfl, DidR.same H x1⟩
      · have q : inP p o.port := by simpa using q
        refine xif_of (fun kt => ?_) (fun kt => ?_)
        · have kt : o.kind ≥ 10 := of_decide_eq_true kt
          refine ⟨_, cell_blk hb rfl, ?_⟩
          refine (rHas_spec H1 _).mono ?_
          rintro v h2 ⟨rfl, rfl⟩
          refine xif_of (fun q2 => ?_) (fun q2 => ?_)
          · have q2 : ¬ inP p o.to := by simpa using q2
            rw [do_bad (mayO_to (by omega) q2)]
            exact ⟨rfl, DidR.same H x1⟩
          · have q2 : inP p o.to := by simpa using q2
            exact ⟨(), ⟨rfl, rfl, rfl, trivial⟩, mayO_yes (fun _ => q) (fun _ => q2), rfl⟩
        · have kt : ¬ o.kind ≥ 10 := of_decide_eq_false kt
          exact ⟨(), ⟨rfl, rfl, rfl, trivial⟩, mayO_yes (fun _ => q) (fun _ => by omega), rfl⟩
  rintro _ h2 ⟨hm, rfl⟩
  refine ⟨_, cell_blk H1.blk rfl, _, cell_blk hb rfl, ?_⟩
  refine (r3Find_spec (H1.vlans.row encVl_len) rfl (by omega)).mono ?_
  rintro v h3 ⟨rfl, rfl⟩
  have hmn : ¬ mayO p o = false := by simp [hm]
  have hpp := po.hi
  have hst := K.st
  have inPort : (o.kind = 0 ∨ o.kind = 2 ∨ o.kind = 4 ∨ o.kind = 8 ∨ o.kind = 10 ∨ o.kind = 11) → inP p o.port := fun q => Decidable.byContradiction fun n => by rw [mayO_port q n] at hm; cases hm
  have inTo : (10 ≤ o.kind ∧ o.kind ≤ 12) → inP p o.to := fun q => Decidable.byContradiction fun n => by rw [mayO_to q n] at hm; cases hm
  have hkey : Reads h3 ⟨ob, 5, none⟩ [.int .i64 o.kvid, .int .u64 o.mac] := reads_at hb rfl
  have ents : (2 ≤ o.kind ∧ o.kind ≤ 7) → do17 p M o = entM p M o := fun hk => ent_eq hm hk
  refine xif_of (fun q => ?_) (fun q0 => ?_)
  · have q : o.kind = 0 := by simpa using q
    obtain ⟨i0, i1⟩ := inPort (.inl q)
    obtain ⟨k, hk⟩ : ∃ k : Nat, o.port = k := ⟨o.port.toNat, by omega⟩
    obtain ⟨s, hs⟩ : ∃ w, M.stands[k]? = some w := ⟨M.stands[k]'(by omega), List.getElem?_eq_getElem (by omega)⟩
    obtain ⟨a, ha, hrd⟩ := (H1.stands.row encSn_len) k s hs
    cases ha
    have e : do17 p M o = (M, s.st) := by unfold do17; rw [if_neg hmn, if_pos q, hk, Int.toNat_natCast, List.getD_eq_getElem?_getD, hs]; rfl
    have hc : cell h3 ((⟨D.sb, 0, none⟩ : Addr).add (o.port.toNat * 2)) = some (.int .i64 s.st) := by
      rw [hk, Int.toNat_natCast]
      exact hrd.cons
    rw [e]
    refine ⟨_, cell_blk H1.blk rfl, _, cell_blk hb rfl, _, rfl, i0, (by show o.port < (M.stands.length : Int); omega), _, (by rw [add_zero']; exact hc), rfl, DidR.same H x1⟩
  have q0 : ¬ o.kind = 0 := by simpa using q0
  refine xif_of (fun q => ?_) (fun q1 => ?_)
  · have q : o.kind = 1 := by simpa using q
    have e : do17 p M o = (M, if findV o.vid M.vlans 0 < 0 then 0 else IntKind.i64.wrap (M.vlans.getD (findV o.vid M.vlans 0).toNat ⟨0, 0, 0⟩).mem) := by unfold do17; rw [if_neg hmn, if_neg q0, if_pos q]
    rw [e]
    rcases findV_range (vid := o.vid) M.vlans 0 with hf | ⟨f0, f1⟩
    · refine xif_of (fun _ => ?_) (fun q => absurd (of_decide_eq_false q) (by omega))
      exact ⟨by rw [if_pos (by omega)]; rfl, DidR.same H x1⟩
    · refine xif_of (fun q => absurd (of_decide_eq_true q) (by omega)) (fun _ => ?_)
      obtain ⟨i, hi⟩ : ∃ i : Nat, findV o.vid M.vlans 0 = i := ⟨_, (Int.toNat_of_nonneg (by omega)).symm⟩
      have hil : i < M.vlans.length := by omega
      obtain ⟨w', hw⟩ : ∃ w, M.vlans[i]? = some w := ⟨M.vlans[i], List.getElem?_eq_getElem hil⟩
      rw [hi]
      obtain ⟨a, ha, hrd⟩ := (H1.vlans.row encVl_len) i w' hw
      refine ⟨_, cell_blk H1.blk rfl, a, ha, by omega, by omega, _, hrd.get 1 rfl, ?_, DidR.same H x1⟩
      rw [if_neg (by omega), Int.toNat_natCast, List.getD_eq_getElem?_getD, hw]; rfl
  have q1 : ¬ o.kind = 1 := by simpa using q1
  refine xif_of (fun q => ?_) (fun q2 => ?_)
  · have q : o.kind = 2 := by simpa using q
    rw [ents (by omega), entM, if_pos q]
    refine ⟨_, cell_blk H1.blk rfl, _, rfl, hkey, _, cell_blk hb rfl, _, cell_blk hb rfl, ?_⟩
    refine (rbLearn_spec po.size K.book.bok H1.book w.key w.now0 w.now1).mono ?_
    rintro v h4 ⟨rfl, B4, k4⟩
    exact ⟨rfl, DidR.after x1 (DidR.book H1 B4 k4)⟩
  have q2 : ¬ o.kind = 2 := by simpa using q2
  refine xif_of (fun q => ?_) (fun q3 => ?_)
  · have q : o.kind = 3 := by simpa using q
    rw [ents (by omega), entM, if_neg q2, if_pos q]
    refine ⟨_, cell_blk H1.blk rfl, _, rfl, hkey, ?_⟩
    refine (rbLookup_spec po.size K.book.bok H1.book w.key).mono ?_
    rintro v h4 ⟨rfl, x4⟩
    exact ⟨rfl, DidR.same H (x1.trans x4)⟩
  have q3 : ¬ o.kind = 3 := by simpa using q3
  refine xif_of (fun q => ?_) (fun q4 => ?_)
  · have q : o.kind = 4 := by simpa using q
    rw [ents (by omega), entM, if_neg q2, if_neg q3, if_pos q]
    refine ⟨_, cell_blk H1.blk rfl, _, rfl, hkey, _, cell_blk hb rfl, _, cell_blk hb rfl, ?_⟩
    refine (rbOrder_spec po.size K.book.bok H1.book w.key w.now0 w.now1).mono ?_
    rintro v h4 ⟨rfl, B4, k4⟩
    exact ⟨rfl, DidR.after x1 (DidR.book H1 B4 k4)⟩
  have q4 : ¬ o.kind = 4 := by simpa using q4
  refine xif_of (fun q => ?_) (fun q5 => ?_)
  · have q : o.kind = 5 := by simpa using q
    rw [ents (by omega), entM, if_neg q2, if_neg q3, if_neg q4, if_neg (by omega), if_neg (by omega)]
    refine ⟨_, cell_blk H1.blk rfl, _, rfl, hkey, ?_⟩
    refine (rbDrop_spec po.size K.book.bok H1.book w.key).mono ?_
    rintro v h4 ⟨rfl, B4, k4⟩
    have d := DidR.after x1 (DidR.book H1 B4 k4)
    refine xif_of (fun e => ?_) (fun e => ?_)
    · exact ⟨by show _ = Value.int .i64 (if (dropB p.size M.book o.kvid o.mac).2 = true then 1 else 0); rw [if_pos e]; rfl, d⟩
    · exact ⟨by show _ = Value.int .i64 (if (dropB p.size M.book o.kvid o.mac).2 = true then 1 else 0); rw [if_neg (by simp [e])]; rfl, d⟩
  have q5 : ¬ o.kind = 5 := by simpa using q5
  refine xif_of (fun q => ?_) (fun q6 => ?_)
  · have q : o.kind = 6 := by simpa using q
    rw [ents (by omega), entM, if_neg q2, if_neg q3, if_neg q4, if_pos q]
    refine ⟨_, cell_blk H1.blk rfl, _, cell_blk hb rfl, _, cell_blk hb rfl, _, cell_blk hb rfl, _, cell_blk hb rfl, ?_⟩
    refine (rbAge_spec po.size K.book.bok H1.book _ _ w.now0 w.now1).mono ?_
    rintro v h4 ⟨rfl, B4, k4⟩
    exact ⟨rfl, DidR.after x1 (DidR.book H1 B4 k4)⟩
  have q6 : ¬ o.kind = 6 := by simpa using q6
  refine xif_of (fun q => ?_) (fun q7 => ?_)
  · have q : o.kind = 7 := by simpa using q
    rw [ents (by omega), entM, if_neg q2, if_neg q3, if_neg q4, if_neg (by omega), if_pos q]
    refine ⟨_, cell_blk H1.blk rfl, _, cell_blk hb rfl, _, cell_blk hb rfl, ?_⟩
    refine (rbFlush_spec po.size K.book.bok H1.book _ _).mono ?_
    rintro v h4 ⟨rfl, B4, k4⟩
    exact ⟨rfl, DidR.after x1 (DidR.book H1 B4 k4)⟩
  have q7 : ¬ o.kind = 7 := by simpa using q7
  have chain : do17 p M o = (if o.kind = 8 then if rightSt o.state = false then (M, -1) else
    let e := IntKind.u32.wrap ((M.stands.getD o.port.toNat ⟨0, 0⟩).ep + 1)
    ({ M with stands := M.stands.set o.port.toNat ⟨o.state, e⟩ }, IntKind.i64.wrap e)
  else if o.kind = 9 then setVlanM p M o
  else if o.kind = 10 then
    let q := M.queues o.port o.to
    if p.ring ≤ q.length then (M, 0) else ({ M with queues := setQ M.queues o.port o.to (q ++ [o.id]) }, 1)
  else if o.kind = 11 then
    match M.queues o.port o.to with
    | [] => (M, -1)
    | x :: q => ({ M with queues := setQ M.queues o.port o.to q }, x)
  else if o.kind = 12 then (M, sendM M o.to o.vid)
  else (M, -1)) := by
    unfold do17
    rw [if_neg hmn, if_neg q0, if_neg q1, if_neg q2, if_neg q3, if_neg q4, if_neg q5, if_neg q6, if_neg q7]
    rfl
  refine xif_of (fun q => ?_) (fun q8 => ?_)
  · have q : o.kind = 8 := by simpa using q
    obtain ⟨i0, i1⟩ := inPort (by omega)
    obtain ⟨k, hk⟩ : ∃ k : Nat, o.port = k := ⟨o.port.toNat, by omega⟩
    obtain ⟨s, hs⟩ : ∃ w, M.stands[k]? = some w := ⟨M.stands[k]'(by omega), List.getElem?_eq_getElem (by omega)⟩
    have hg : M.stands.getD o.port.toNat ⟨0, 0⟩ = s := by rw [hk, Int.toNat_natCast, List.getD_eq_getElem?_getD, hs]; rfl
    obtain ⟨a, ha, hrd⟩ := (H1.stands.row encSn_len) k s hs
    cases ha
    have hrd' : Reads h3 ((⟨D.sb, 0, none⟩ : Addr).add (o.port.toNat * 2)) (encSn s) := by rw [hk, Int.toNat_natCast]; exact hrd
    obtain ⟨r, hr⟩ : ∃ r, rightSt o.state = r := ⟨_, rfl⟩
    obtain ⟨t, ht⟩ : ∃ t, (if r = true then (⟨o.state, IntKind.u32.wrap (s.ep + 1)⟩ : Stn) else ⟨0, 0⟩) = t := ⟨_, rfl⟩
    have spec : ∀ hh, HCalls Tryz.prog 116 #[.agg (encSn s).toArray, .int .i64 o.state] hh (fun v h' => v = .tuple #[.agg (encSn t).toArray, .bool r] ∧ Ext hh h') := fun hh => (r16Set_spec s o.state).mono fun v h' q => by
      refine ⟨?_, q.2⟩
      rw [q.1, hr, ← ht]
      cases r <;> rfl
    have e8 : do17 p M o = (if r = false then (M, -1) else ({ M with stands := M.stands.set k ⟨o.state, IntKind.u32.wrap (s.ep + 1)⟩ }, IntKind.i64.wrap (IntKind.u32.wrap (s.ep + 1)))) := by
      rw [chain, if_pos q, hg, hr, hk, Int.toNat_natCast]
    rw [e8]
    refine ⟨_, cell_blk H1.blk rfl, _, cell_blk hb rfl, _, rfl, i0, (by show o.port < (M.stands.length : Int); omega), encSn s, rfl, hrd', _, cell_blk hb rfl, ?_, ?_⟩
    rotate_left
    intro b2 h5 n5
    refine ⟨⟨cell_blk (n5.ext.blk hb) rfl, n5.ext.reads hrd', cell_blk (n5.ext.blk hb) rfl, cell_blk (H1.ext n5.ext).blk rfl, trivial⟩, ?_⟩
    refine (spec _).mono ?_
    rintro v h4 ⟨rfl, x4⟩
    refine ⟨rfl, rfl, canset_blk (x4.blk n5.this) rfl, fun h6 s6 => ?_⟩
    have hb2 : h6[b2]? = some (.cells (encSn t).toArray 168 (0, 0)) := s6.put (x4.blk n5.this)
    have x36 : Ext h3 h6 := (n5.ext.trans x4).stored s6 (n5.ge (Ext.refl _))
    have g2 : h3.size ≤ b2 := n5.ge (Ext.refl _)
    rotate_left
    refine (spec _).mono ?_
    rintro v h4 ⟨rfl, x4⟩
    intro b2 h5 n5
    refine ⟨⟨cell_blk (n5.ext.blk (x4.blk hb)) rfl, n5.ext.reads (x4.reads hrd'), cell_blk (n5.ext.blk (x4.blk hb)) rfl, cell_blk ((H1.ext x4).ext n5.ext).blk rfl, trivial⟩, ?_⟩
    refine ⟨rfl, rfl, canset_blk n5.this rfl, fun h6 s6 => ?_⟩
    have hb2 : h6[b2]? = some (.cells (encSn t).toArray 168 (0, 0)) := s6.put n5.this
    have x36 : Ext h3 h6 := (x4.trans n5.ext).stored s6 (n5.ge x4)
    have g2 : h3.size ≤ b2 := n5.ge x4
    all_goals
      have H6 := H1.ext x36
      have hb6 := x36.blk hb
      refine xif_of (fun e => ?_) (fun e => ?_)
      · have e : r = false := by simpa using e
        rw [if_pos e]
        exact ⟨rfl, DidR.same H (x1.trans x36)⟩
      · have e : r = true := by simpa using e
        subst e
        rw [if_pos rfl] at ht
        subst ht
        rw [if_neg (show ¬ (true = false) by decide)]
        obtain ⟨b', e, _, hcs⟩ := H6.stands.canset encSn_len (i := k) (j := 0) (n := 2) (by omega) (by omega)
        cases e
        refine ⟨_, cell_blk H6.blk rfl, _, cell_blk hb6 rfl, _, rfl, reads_all hb2, _, rfl, i0, (by show o.port < (M.stands.length : Int); omega), rfl, rfl, ?_, fun h7 s7 => ?_⟩
        · show CanSet h6 ((⟨D.sb, 0, none⟩ : Addr).add (o.port.toNat * 2)) 2
          rw [hk, Int.toNat_natCast, add_lit]; simpa using hcs
        have s7' : Stored h6 ⟨D.sb, k * 2 + 0, none⟩ (encSn ⟨o.state, IntKind.u32.wrap (s.ep + 1)⟩) h7 := by
          have : Stored h6 ((⟨D.sb, 0, none⟩ : Addr).add (o.port.toNat * 2)) (encSn ⟨o.state, IntKind.u32.wrap (s.ep + 1)⟩) h7 := s7
          rw [hk, Int.toNat_natCast, add_lit] at this
          simpa using this
        have ho := H6.stands.put encSn_len (x' := ⟨o.state, IntKind.u32.wrap (s.ep + 1)⟩) rfl s7' hs (by simp [encSn]) rfl
        have f7 : Fr (fun j => j = D.sb) h6 h7 := s7'.fr rfl
        have H7 := H6.newStands (by decide) (by decide) (by decide) (by decide) (by decide) (by decide) (by decide) (by decide) f7 (l := M.stands.set k ⟨o.state, IntKind.u32.wrap (s.ep + 1)⟩) (by simp) ho
        have hne : b2 ≠ D.sb := by
          obtain ⟨cx, hx⟩ := own_blk H1.stands
          have := blk_lt hx
          omega
        exact ⟨_, cell_blk (f7.blk hb2 hne) rfl, rfl, DidR.after (x1.trans x36) ⟨G, fun b hb => .inl hb, H7, f7.mono fun j _ e => .inl e⟩⟩
  have q8 : ¬ o.kind = 8 := by simpa using q8
  refine xif_of (fun q => ?_) (fun q9 => ?_)
  · have q : o.kind = 9 := by simpa using q
    have e9 : do17 p M o = setVlanM p M o := by rw [chain, if_neg q8, if_pos q]
    rw [e9, setVlanM]
    simp only
    rcases findV_range (vid := o.vid) M.vlans 0 with hf | ⟨f0, f1⟩
    · refine xif_of (fun _ => ?_) (fun q => absurd (of_decide_eq_false q) (by omega))
      rw [if_pos (by omega)]
      exact ⟨rfl, DidR.same H x1⟩
    refine xif_of (fun q => absurd (of_decide_eq_true q) (by omega)) (fun _ => ?_)
    obtain ⟨i, hi⟩ : ∃ i : Nat, findV o.vid M.vlans 0 = i := ⟨_, (Int.toNat_of_nonneg (by omega)).symm⟩
    have hil : i < M.vlans.length := by omega
    obtain ⟨w', hw⟩ : ∃ w, M.vlans[i]? = some w := ⟨M.vlans[i], List.getElem?_eq_getElem hil⟩
    have hg : M.vlans.getD (i : Int).toNat ⟨0, 0, 0⟩ = w' := by rw [Int.toNat_natCast, List.getD_eq_getElem?_getD, hw]; rfl
    rw [hi, if_neg (by omega), hg]
    have wall := allM_wf p.ports
    refine ⟨_, cell_blk H1.blk rfl, ?_⟩
    refine (r3All_spec p.ports).mono ?_
    rintro v h4 ⟨rfl, rfl⟩
    obtain ⟨all, hall⟩ : ∃ a, allM p.ports = a := ⟨_, rfl⟩
    rw [hall] at wall ⊢
    obtain ⟨x, hx⟩ : ∃ x : Nat, o.mem.toNat &&& all.toNat = x := ⟨_, rfl⟩
    obtain ⟨y, hy⟩ : ∃ y : Nat, o.unt.toNat &&& x = y := ⟨_, rfl⟩
    have hx64 : x < 18446744073709551616 := by
      have := (andM_wf (b := all) w.mem).hi
      unfold andM at this
      rw [hx] at this; omega
    have hy64 : y < 18446744073709551616 := by
      have : o.unt.toNat &&& x ≤ x := Nat.and_le_right
      omega
    have bx : ∀ k, x.testBit k = (o.mem.toNat.testBit k && all.toNat.testBit k) := fun k => by rw [← hx, Nat.testBit_and]
    have byt : ∀ k, y.testBit k = (o.unt.toNat.testBit k && x.testBit k) := fun k => by rw [← hy, Nat.testBit_and]
    have hbit : ∀ (s : Int) (k : Nat), k < 64 → hasM s k = s.toNat.testBit k := fun s k hk => by unfold hasM; rw [decide_eq_true (by omega), Bool.true_and, Int.toNat_natCast]
    have e1 : andM o.mem all = (x : Int) := by unfold andM; rw [hx]
    have e2 : andM o.unt (x : Int) = (y : Int) := by unfold andM; rw [Int.toNat_natCast, hy]
    rw [e1, e2]
    refine ⟨Nat, fun k => [(0, .pointer (some ⟨m, 0, none⟩)), (3, .pointer (some ⟨ob, 0, none⟩)), (6, .int .i64 i), (9, .int .u64 all), (10, .int .u64 ((x % 2 ^ k : Nat) : Int)), (11, .int .u64 ((y % 2 ^ k : Nat) : Int)), (12, .int .i64 k)],
      fun k h' => k ≤ 64 ∧ h' = h4, fun k => 64 - k, 0, ⟨rfl, rfl, rfl, rfl, congrArg (fun z => some (Value.int .u64 z)) (by rw [Nat.pow_zero, Nat.mod_one]; rfl), congrArg (fun z => some (Value.int .u64 z)) (by rw [Nat.pow_zero, Nat.mod_one]; rfl), rfl, trivial⟩, ⟨Nat.zero_le _, rfl⟩, ?_⟩
    rintro k h5 ⟨hk, rfl⟩
    refine xif_of (fun hlt => ?_) (fun hge => ?_)
    · have hlt : (k : Int) < 64 := of_decide_eq_true hlt
      have hk64 : k < 64 := by omega
      have wx : SetWf ((x % 2 ^ k : Nat) : Int) := ⟨by omega, by have := Nat.mod_le x (2 ^ k); omega⟩
      have wy : SetWf ((y % 2 ^ k : Nat) : Int) := ⟨by omega, by have := Nat.mod_le y (2 ^ k); omega⟩
      have nx := with_next hx64 hk64
      have ny := with_next hy64 hk64
      have dec : 64 - (k + 1) < 64 - k := by omega
      have offx : x.testBit k = false → some (Value.int .u64 ((x % 2 ^ k : Nat) : Int)) = some (Value.int .u64 ((x % 2 ^ (k + 1) : Nat) : Int)) := fun hb => by rw [nx.2 hb]
      have offy : y.testBit k = false → some (Value.int .u64 ((y % 2 ^ k : Nat) : Int)) = some (Value.int .u64 ((y % 2 ^ (k + 1) : Nat) : Int)) := fun hb => by rw [ny.2 hb]
      refine ⟨_, cell_blk hb rfl, ?_⟩
      refine (r3Has_spec w.mem).mono ?_
      rintro v h6 ⟨rfl, rfl⟩
      refine xif_of (fun hm => ?_) (fun hm => ?_)
      rotate_left
      · have hbx : x.testBit k = false := by rw [bx, ← hbit o.mem k hk64, hm, Bool.false_and]
        exact ⟨k + 1, ⟨rfl, rfl, rfl, rfl, offx hbx, offy (by rw [byt, hbx, Bool.and_false]), slot_inc (by omega), trivial⟩, ⟨by omega, rfl⟩, dec⟩
      refine (r3Has_spec wall).mono ?_
      rintro v h6 ⟨rfl, rfl⟩
      refine xif_of (fun ha => ?_) (fun ha => ?_)
      rotate_left
      · have hbx : x.testBit k = false := by rw [bx, ← hbit all k hk64, ha, Bool.and_false]
        exact ⟨k + 1, ⟨rfl, rfl, rfl, rfl, offx hbx, offy (by rw [byt, hbx, Bool.and_false]), slot_inc (by omega), trivial⟩, ⟨by omega, rfl⟩, dec⟩
      have hbx : x.testBit k = true := by rw [bx, ← hbit o.mem k hk64, ← hbit all k hk64, hm, ha]; rfl
      refine (r3With_spec wx).mono ?_
      rintro v h6 ⟨rfl, rfl⟩
      rw [nx.1 hbx]
      refine ⟨_, cell_blk hb rfl, ?_⟩
      refine (r3Has_spec w.unt).mono ?_
      rintro v h6 ⟨rfl, rfl⟩
      refine xif_of (fun hu => ?_) (fun hu => ?_)
      · have hby : y.testBit k = true := by rw [byt, ← hbit o.unt k hk64, hu, hbx]; rfl
        refine (r3With_spec wy).mono ?_
        rintro v h6 ⟨rfl, rfl⟩
        rw [ny.1 hby]
        exact ⟨k + 1, ⟨rfl, rfl, rfl, rfl, rfl, rfl, slot_inc (by omega), trivial⟩, ⟨by omega, rfl⟩, dec⟩
      · have hby : y.testBit k = false := by rw [byt, ← hbit o.unt k hk64, hu, Bool.false_and]
        exact ⟨k + 1, ⟨rfl, rfl, rfl, rfl, rfl, offy hby, slot_inc (by omega), trivial⟩, ⟨by omega, rfl⟩, dec⟩
    have hge : ¬ (k : Int) < 64 := of_decide_eq_false hge
    obtain rfl : k = 64 := by omega
    have mx := Nat.mod_eq_of_lt (show x < 2 ^ 64 from hx64)
    have my := Nat.mod_eq_of_lt (show y < 2 ^ 64 from hy64)
    obtain ⟨vb, hva, _, hcs⟩ := H1.vlans.canset encVl_len (i := i) (j := 1) (n := 1) hil (by omega)
    have q0 : (0 : Int) ≤ i := by omega
    have q1 : (i : Int) < M.vlans.length := by omega
    refine ⟨_, cell_blk H1.blk rfl, _, cell_blk H1.blk rfl, _, hva, q0, q1, rfl, rfl, ?_, fun h6 s6 => ?_⟩
    · show CanSet h5 (((⟨vb, 0, none⟩ : Addr).add ((i : Int).toNat * 3)).add 1) 1
      rw [add_lit, add_lit]; simpa using hcs
    have s6' : Stored h5 (((⟨vb, 0, none⟩ : Addr).add ((i : Int).toNat * 3)).add 1) [.int .u64 ((x % 2 ^ 64 : Nat) : Int)] h6 := s6
    rw [add_lit, add_lit, mx] at s6'
    simp only [Int.toNat_natCast, Nat.zero_add] at s6'
    have f6 : Fr (fun j => j = vb) h5 h6 := s6'.fr rfl
    have o6 := H1.vlans.put encVl_len (x' := { w' with mem := (x : Int) }) hva s6' hw (by simp) rfl
    have H6 := H1.newVlans (by decide) (by decide) (by decide) (by decide) (by decide) (by decide) (by decide) (by decide) hva f6 (l := M.vlans.set i { w' with mem := (x : Int) }) (by simp) o6
    have hil6 : i < (M.vlans.set i { w' with mem := (x : Int) }).length := by simpa using hil
    obtain ⟨vb', hva', _, hcs'⟩ := o6.canset encVl_len (i := i) (j := 2) (n := 1) hil6 (by omega)
    rw [hva] at hva'
    cases hva'
    refine ⟨_, hva, q0, q1, rfl, rfl, ?_, fun h7 s7 => ?_⟩
    · show CanSet h6 (((⟨vb, 0, none⟩ : Addr).add ((i : Int).toNat * 3)).add 2) 1
      rw [add_lit, add_lit]; simpa using hcs'
    have s7' : Stored h6 (((⟨vb, 0, none⟩ : Addr).add ((i : Int).toNat * 3)).add 2) [.int .u64 ((y % 2 ^ 64 : Nat) : Int)] h7 := s7
    rw [add_lit, add_lit, my] at s7'
    simp only [Int.toNat_natCast, Nat.zero_add] at s7'
    have f7 : Fr (fun j => j = vb) h6 h7 := s7'.fr rfl
    have hw6 : (M.vlans.set i { w' with mem := (x : Int) })[i]? = some { w' with mem := (x : Int) } := List.getElem?_set_self hil
    have o7 := o6.put encVl_len (x' := { w' with mem := (x : Int), unt := (y : Int) }) hva s7' hw6 (by simp) rfl
    rw [List.set_set] at o7
    have H7 := H6.newVlans (by decide) (by decide) (by decide) (by decide) (by decide) (by decide) (by decide) (by decide) hva f7 (l := M.vlans.set i { w' with mem := (x : Int), unt := (y : Int) }) (by simp) o7
    refine ⟨rfl, DidR.after x1 ⟨G, fun b hb => .inl hb, ?_, (f6.trans f7 fun k _ e => e).mono fun j _ e => .inr (.inl (by subst e; exact hva))⟩⟩
    rw [Int.toNat_natCast]
    exact H7
  have q9 : ¬ o.kind = 9 := by simpa using q9
  have hbase : base ≤ h3.size := Nat.le_trans H1.ge (Nat.le_of_lt (blk_lt H1.blk))
  have put : (o.kind = 10 ∨ o.kind = 11) → ∃ i j : Nat, o.port = i ∧ o.to = j ∧ (i : Int) < p.ports ∧ (j : Int) < p.ports := fun q => by
    obtain ⟨i0, i1⟩ := inPort (by omega)
    obtain ⟨j0, j1⟩ := inTo (by omega)
    exact ⟨o.port.toNat, o.to.toNat, by omega, by omega, by omega, by omega⟩
  refine xif_of (fun q => ?_) (fun q10 => ?_)
  · have q : o.kind = 10 := by simpa using q
    obtain ⟨i, j, hi, hj, i1, j1⟩ := put (.inl q)
    obtain ⟨⟨cr, c1⟩, A, c, c2, oq, hcs⟩ := H1.queue i1 j1
    obtain ⟨l, hl⟩ : ∃ l, M.queues i j = l := ⟨_, rfl⟩
    have e10 : do17 p M o = if p.ring ≤ l.length then (M, 0) else ({ M with queues := setQ M.queues i j (l ++ [o.id]) }, 1) := by rw [chain, if_neg q8, if_neg q9, if_pos q, hi, hj, hl]
    rw [e10]
    have hql := K.q i j
    rw [hl] at oq c2 hql
    have hrg := po.ring1
    have a1 : cell h3 ((⟨D.mb, 0, none⟩ : Addr).add (o.port.toNat * 1)) = some (.slice (some ⟨D.rb i, 0, none⟩) p.ports.toNat cr) := by rw [hi, Int.toNat_natCast, add_lit]; simpa using c1
    have a2 : cell h3 ((⟨D.rb i, 0, none⟩ : Addr).add (o.to.toNat * 1)) = some (.slice A l.length c) := by rw [hj, Int.toNat_natCast, add_lit]; simpa using c2
    have b1 : (0 : Int) ≤ o.port := by omega
    have b2 : o.port < ((p.ports.toNat : Nat) : Int) := by omega
    have b3 : (0 : Int) ≤ o.to := by omega
    have b4 : o.to < ((p.ports.toNat : Nat) : Int) := by omega
    refine ⟨_, cell_blk H1.blk rfl, _, cell_blk hb rfl, _, rfl, b1, b2, _, a1, _, cell_blk hb rfl, _, rfl, b3, b4, _, a2, _, cell_blk H1.blk rfl, ?_⟩
    refine xif_of (fun f => ?_) (fun f => ?_)
    · have f : (l.length : Int) ≥ p.ring := of_decide_eq_true f
      rw [if_pos (by omega)]
      exact ⟨rfl, DidR.same H x1⟩
    have f : ¬ (l.length : Int) ≥ p.ring := of_decide_eq_false f
    rw [if_neg (by omega)]
    have fB : ∀ {hh : Heap}, Ext h3 hh → hh[m]? = _ := fun x => (H1.ext x).blk
    have fin : ∀ (hX : Heap) (A' : Option Addr) (c' n' : Nat), n' = (l ++ [o.id]).length → OwnA encI 1 3 h3.size hX A' c' (l ++ [o.id]) → Ext h3 hX → ∀ hY, Stored hX ((⟨D.rb i, 0, none⟩ : Addr).add (o.to.toNat * 1)) [.slice A' n' c'] hY → DidR base G h m D p { M with queues := setQ M.queues i j (l ++ [o.id]) } hY := by
      intro hX A' c' n' hn own x hY s
      have s' : Stored hX ⟨D.rb i, j, none⟩ [.slice A' n' c'] hY := by
        rw [hj, Int.toNat_natCast, add_lit] at s
        simpa using s
      obtain ⟨G', g1, W', f'⟩ := (H1.ext x).newQueue (by decide) (by decide) (by decide) (by decide) (by decide) (by decide) (by decide) (by decide) i1 j1 x hn (own.mono hbase) own.ge s'
      exact DidR.after x1 ⟨G', g1, W', (x.fr _).trans f' fun k _ hk => hk⟩
    have cs : ∀ {hX : Heap}, Ext h3 hX → CanSet hX ((⟨D.rb i, 0, none⟩ : Addr).add (o.to.toNat * 1)) 1 := fun x => by
      obtain ⟨_, _, _, _, _, hcs'⟩ := (H1.ext x).queue i1 j1
      rw [hj, Int.toNat_natCast, add_lit]
      simpa using hcs'
    have row := oq.row encI_len
    refine ⟨_, cell_blk H1.blk rfl, _, cell_blk hb rfl, _, rfl, b1, b2, _, a1, _, cell_blk hb rfl, _, cell_blk H1.blk rfl, _, cell_blk hb rfl, _, rfl, b1, b2, _, a1, _, cell_blk hb rfl, _, rfl, b3, b4, _, a2, _, cell_blk hb rfl, ?_, ?_⟩
    · intro be h4 n4
      have x4 := n4.ext
      have y4 := x4.blk hb
      refine ⟨⟨cell_blk y4 rfl, x4.cell a2, cell_blk y4 rfl, x4.cell a1, cell_blk y4 rfl, cell_blk (fB x4) rfl, cell_blk y4 rfl, x4.cell a1, cell_blk y4 rfl, cell_blk (fB x4) rfl, trivial⟩, ?_, ?_⟩
      · have own4 : OwnA encI 1 3 h3.size h4 (some ⟨be, 0, none⟩) 0 ([] : List Int) := .inr ⟨be, [], rfl, n4.ge (Ext.refl _), n4.this, rfl, Nat.le_refl _⟩
        refine xappend_many (xs := []) (ys := l) intInfo intZero rfl (by decide) encI_len encI_one own4 rfl rfl (row_readsOf encI_len (x4.row row)) (by omega) x4.size fun A5 c5 h5 o5 k5 => ?_
        have x5 : Ext h3 h5 := k5.ext x4 own4.ge
        have y5 := x5.blk hb
        refine ⟨⟨cell_blk y5 rfl, cell_blk y5 rfl, x5.cell a1, cell_blk y5 rfl, cell_blk (fB x5) rfl, trivial⟩, ?_⟩
        intro bi h6 n6
        have x6 := x5.trans n6.ext
        have y6 := x6.blk hb
        refine ⟨⟨x6.cell a2, cell_blk y6 rfl, x6.cell a1, cell_blk y6 rfl, cell_blk (fB x6) rfl, cell_blk y6 rfl, x6.cell a1, cell_blk y6 rfl, cell_blk (fB x6) rfl, trivial⟩, ?_⟩
        refine xappend_many (xs := l) (ys := [o.id]) (n := 0 + l.length) intInfo intZero rfl (by decide) encI_len encI_one (o5.ext n6.ext) (by simp) rfl (reads_all n6.this) (by omega) x6.size fun A7 c7 h7 o7 k7 => ?_
        have x7 : Ext h3 h7 := k7.ext x6 o5.ge
        have y7 := x7.blk hb
        refine ⟨⟨cell_blk y7 rfl, x7.cell a1, cell_blk y7 rfl, cell_blk (fB x7) rfl, trivial⟩, ?_⟩
        exact ⟨_, rfl, b3, b4, rfl, rfl, cs x7, fun h8 s8 => ⟨rfl, fin h7 A7 c7 _ (by simp) o7 x7 h8 s8⟩⟩
      · intro bi h5 n5
        have x5 := x4.trans n5.ext
        have y5 := x5.blk hb
        refine ⟨⟨x5.cell a2, cell_blk y5 rfl, x5.cell a1, cell_blk y5 rfl, cell_blk (fB x5) rfl, cell_blk y5 rfl, x5.cell a1, cell_blk y5 rfl, cell_blk (fB x5) rfl, trivial⟩, ?_⟩
        have own5 : OwnA encI 1 3 h3.size h5 (some ⟨be, 0, none⟩) 0 ([] : List Int) := .inr ⟨be, [], rfl, n4.ge (Ext.refl _), n5.ext.blk n4.this, rfl, Nat.le_refl _⟩
        have hne : bi ≠ be := Nat.ne_of_gt (n5.lt n4.this)
        refine xappend_many (xs := []) (ys := l) intInfo intZero rfl (by decide) encI_len encI_one own5 rfl rfl (row_readsOf encI_len (x5.row row)) (by omega) x5.size fun A6 c6 h6 o6 k6 => ?_
        have x6 : Ext h3 h6 := k6.ext x5 own5.ge
        have y6 := x6.blk hb
        have bi6 := k6.blk n5.this (by rintro ⟨⟩; exact hne rfl)
        refine ⟨⟨cell_blk y6 rfl, cell_blk y6 rfl, x6.cell a1, cell_blk y6 rfl, cell_blk (fB x6) rfl, trivial⟩, ?_⟩
        refine xappend_many (xs := l) (ys := [o.id]) (n := 0 + l.length) intInfo intZero rfl (by decide) encI_len encI_one o6 (by simp) rfl (reads_all bi6) (by omega) x6.size fun A7 c7 h7 o7 k7 => ?_
        have x7 : Ext h3 h7 := k7.ext x6 o6.ge
        have y7 := x7.blk hb
        refine ⟨⟨cell_blk y7 rfl, x7.cell a1, cell_blk y7 rfl, cell_blk (fB x7) rfl, trivial⟩, ?_⟩
        exact ⟨_, rfl, b3, b4, rfl, rfl, cs x7, fun h8 s8 => ⟨rfl, fin h7 A7 c7 _ (by simp) o7 x7 h8 s8⟩⟩
    · intro bi h4 n4
      have x4 := n4.ext
      have y4 := x4.blk hb
      refine ⟨⟨x4.cell a2, cell_blk y4 rfl, x4.cell a1, cell_blk y4 rfl, cell_blk (fB x4) rfl, cell_blk y4 rfl, x4.cell a1, cell_blk y4 rfl, cell_blk (fB x4) rfl, trivial⟩, ?_⟩
      intro be h5 n5
      have x5 := x4.trans n5.ext
      have y5 := x5.blk hb
      have own5 : OwnA encI 1 3 h3.size h5 (some ⟨be, 0, none⟩) 0 ([] : List Int) := .inr ⟨be, [], rfl, n5.ge x4, n5.this, rfl, Nat.le_refl _⟩
      have hne : be ≠ bi := Nat.ne_of_gt (n5.lt n4.this)
      have bi5 := n5.ext.blk n4.this
      refine ⟨⟨cell_blk y5 rfl, x5.cell a2, cell_blk y5 rfl, x5.cell a1, cell_blk y5 rfl, cell_blk (fB x5) rfl, cell_blk y5 rfl, x5.cell a1, cell_blk y5 rfl, cell_blk (fB x5) rfl, trivial⟩, ?_⟩
      refine xappend_many (xs := []) (ys := l) intInfo intZero rfl (by decide) encI_len encI_one own5 rfl rfl (row_readsOf encI_len (x5.row row)) (by omega) x5.size fun A6 c6 h6 o6 k6 => ?_
      have x6 : Ext h3 h6 := k6.ext x5 own5.ge
      have y6 := x6.blk hb
      have bi6 := k6.blk bi5 (by rintro ⟨⟩; exact hne rfl)
      refine ⟨⟨cell_blk y6 rfl, cell_blk y6 rfl, x6.cell a1, cell_blk y6 rfl, cell_blk (fB x6) rfl, trivial⟩, ?_⟩
      refine xappend_many (xs := l) (ys := [o.id]) (n := 0 + l.length) intInfo intZero rfl (by decide) encI_len encI_one o6 (by simp) rfl (reads_all bi6) (by omega) x6.size fun A7 c7 h7 o7 k7 => ?_
      have x7 : Ext h3 h7 := k7.ext x6 o6.ge
      have y7 := x7.blk hb
      refine ⟨⟨cell_blk y7 rfl, x7.cell a1, cell_blk y7 rfl, cell_blk (fB x7) rfl, trivial⟩, ?_⟩
      exact ⟨_, rfl, b3, b4, rfl, rfl, cs x7, fun h8 s8 => ⟨rfl, fin h7 A7 c7 _ (by simp) o7 x7 h8 s8⟩⟩
  have q10 : ¬ o.kind = 10 := by simpa using q10
  refine xif_of (fun q => ?_) (fun q11 => ?_)
  · have q : o.kind = 11 := by simpa using q
    obtain ⟨i, j, hi, hj, i1, j1⟩ := put (.inr q)
    obtain ⟨⟨cr, c1⟩, A, c, c2, oq, hcs⟩ := H1.queue i1 j1
    have e11 : do17 p M o = (match M.queues i j with | [] => (M, -1) | x :: q => ({ M with queues := setQ M.queues i j q }, x)) := by rw [chain, if_neg q8, if_neg q9, if_neg q10, if_pos q, hi, hj]
    rw [e11]
    have hql := K.q i j
    have hrg := po.ring1
    have a1 : cell h3 ((⟨D.mb, 0, none⟩ : Addr).add (o.port.toNat * 1)) = some (.slice (some ⟨D.rb i, 0, none⟩) p.ports.toNat cr) := by rw [hi, Int.toNat_natCast, add_lit]; simpa using c1
    have a2 : cell h3 ((⟨D.rb i, 0, none⟩ : Addr).add (o.to.toNat * 1)) = some (.slice A (M.queues i j).length c) := by rw [hj, Int.toNat_natCast, add_lit]; simpa using c2
    have b1 : (0 : Int) ≤ o.port := by omega
    have b2 : o.port < ((p.ports.toNat : Nat) : Int) := by omega
    have b3 : (0 : Int) ≤ o.to := by omega
    have b4 : o.to < ((p.ports.toNat : Nat) : Int) := by omega
    refine ⟨_, cell_blk H1.blk rfl, _, cell_blk hb rfl, _, rfl, b1, b2, _, a1, _, cell_blk hb rfl, _, rfl, b3, b4, _, a2, ?_⟩
    have fB : ∀ {hh : Heap}, Ext h3 hh → hh[m]? = _ := fun x => (H1.ext x).blk
    cases hc : M.queues i j with
    | nil => exact ⟨rfl, DidR.same H x1⟩
    | cons z l =>
      rw [hc] at oq hql
      have hln : l.length + 1 ≤ 64 := by have : ((l.length + 1 : Nat) : Int) ≤ p.ring := hql; omega
      refine xif_of (fun q => by have q : (((l.length + 1 : Nat) : Int) == 0) = true := q; simp at q; omega) (fun _ => ?_)
      obtain ⟨qa, hA, _⟩ := (oq.row encI_len) 0 z rfl
      have oq' := oq
      subst hA
      have hcap := oq.le
      have hcap : l.length + 1 ≤ c := hcap
      obtain ⟨rd0, row1⟩ := row_tail (oq.row encI_len)
      have len1 : (((l.length + 1 : Nat) : Int)).toNat - (1 : Int).toNat = l.length := by simp
      refine ⟨_, cell_blk H1.blk rfl, _, cell_blk hb rfl, _, rfl, b1, b2, _, a1, _, cell_blk hb rfl, ?_⟩
      refine ⟨fun e => e, by decide, (by show (1 : Int) ≤ ((l.length + 1 : Nat) : Int); omega), (by show ((l.length + 1 : Nat) : Int) ≤ ((c : Nat) : Int); omega), Int.le_refl _, ?_⟩
      intro be h4 n4
      have x4 := n4.ext
      have y4 := x4.blk hb
      refine ⟨⟨cell_blk y4 rfl, x4.cell a1, cell_blk y4 rfl, cell_blk (fB x4) rfl, trivial⟩, ?_⟩
      have own4 : OwnA encI 1 3 h3.size h4 (some ⟨be, 0, none⟩) 0 ([] : List Int) := .inr ⟨be, [], rfl, n4.ge (Ext.refl _), n4.this, rfl, Nat.le_refl _⟩
      have row4 := x4.row row1
      have hA2 : ∀ {w : Prop} {inst : Decidable w} {f : Addr → Addr}, f qa = qa.add 1 → (w → l = []) → Row encI 1 h4 (@ite _ w inst (some qa) (Option.map f (some qa))) l := by
        intro w inst f hf hq
        split
        · rename_i hh
          rw [hq hh]
          exact Row.nil
        · rw [Option.map_some, hf]
          exact row4
      have hA3 := @hA2 (((c : Int)).toNat = (1 : Int).toNat) inferInstance (fun x => x.add ((1 : Int).toNat * 1)) rfl (fun e => by
        have e : c = 1 := by simpa using e
        exact List.length_eq_zero_iff.1 (by omega))
      refine xappend_many (xs := []) (ys := l) (n := 0) (m := (((l.length + 1 : Nat) : Int)).toNat - (1 : Int).toNat) intInfo intZero rfl (by decide) encI_len encI_one own4 rfl len1.symm (row_readsOf encI_len hA3) (by omega) x4.size fun A5 c5 h5 o5 k5 => ?_
      have x5 : Ext h3 h5 := k5.ext x4 own4.ge
      have y5 := x5.blk hb
      refine ⟨⟨cell_blk y5 rfl, x5.cell a1, cell_blk y5 rfl, cell_blk (fB x5) rfl, trivial⟩, ?_⟩
      have hcs5 : CanSet h5 ((⟨D.rb i, 0, none⟩ : Addr).add (o.to.toNat * 1)) 1 := by
        obtain ⟨_, _, _, _, _, hcs'⟩ := (H1.ext x5).queue i1 j1
        rw [hj, Int.toNat_natCast, add_lit]
        simpa using hcs'
      refine ⟨_, rfl, b3, b4, rfl, rfl, hcs5, fun h6 s6 => ?_⟩
      have s6' : Stored h5 ⟨D.rb i, j, none⟩ [.slice A5 (0 + ((((l.length + 1 : Nat) : Int)).toNat - (1 : Int).toNat)) c5] h6 := by
        have s6 : Stored h5 ((⟨D.rb i, 0, none⟩ : Addr).add (o.to.toNat * 1)) [.slice A5 (0 + ((((l.length + 1 : Nat) : Int)).toNat - (1 : Int).toNat)) c5] h6 := s6
        rw [hj, Int.toNat_natCast, add_lit] at s6
        simpa using s6
      obtain ⟨G', g1, W', f'⟩ := (H1.ext x5).newQueue (by decide) (by decide) (by decide) (by decide) (by decide) (by decide) (by decide) (by decide) i1 j1 x5 (by rw [len1]; simp) (o5.mono hbase) o5.ge s6'
      have rd6 : cell h6 (qa.add 0) = some (.int .i64 z) := by
        have o6 := (oq.ext x5).fr (s6'.fr (X := fun k => k = D.rb i) rfl) (by
          intro b e hk
          rw [e, hk] at oq
          obtain ⟨_, cx, hx⟩ := H1.row i1
          obtain ⟨cy, hy⟩ := own_blk oq
          have e := ty_eq hx hy
          revert e; decide)
        have := (row_tail (o6.row encI_len)).1.cons
        rw [add_zero']
        exact this
      refine ⟨_, rfl, by decide, (by show (0 : Int) < ((l.length + 1 : Nat) : Int); omega), _, rd6, rfl, ?_⟩
      exact DidR.after x1 ⟨G', g1, W', (x5.fr _).trans f' fun k _ hk => hk⟩
  have q11 : ¬ o.kind = 11 := by simpa using q11
  have e12 : do17 p M o = (M, sendM M o.to o.vid) := by rw [chain, if_neg q8, if_neg q9, if_neg q10, if_neg q11, if_pos (by omega)]
  rw [e12]
  obtain ⟨b3, b4⟩ := inTo (by omega)
  obtain ⟨k, hk⟩ : ∃ k : Nat, o.to = k := ⟨o.to.toNat, by omega⟩
  obtain ⟨s, hs⟩ : ∃ w, M.stands[k]? = some w := ⟨M.stands[k]'(by omega), List.getElem?_eq_getElem (by omega)⟩
  obtain ⟨a, ha, hrd⟩ := (H1.stands.row encSn_len) k s hs
  cases ha
  have hc : cell h3 ((⟨D.sb, 0, none⟩ : Addr).add (o.to.toNat * 2)) = some (.int .i64 s.st) := by
    rw [hk, Int.toNat_natCast]
    exact hrd.cons
  have hg : M.stands.getD o.to.toNat ⟨0, 0⟩ = s := by rw [hk, Int.toNat_natCast, List.getD_eq_getElem?_getD, hs]; rfl
  refine ⟨_, cell_blk H1.blk rfl, _, cell_blk hb rfl, _, rfl, b3, (by show o.to < (M.stands.length : Int); omega), _, (by rw [add_zero']; exact hc), ?_⟩
  unfold sendM
  rw [hg]
  simp only
  refine xif_of (fun e => ?_) (fun e => ?_)
  · have e : ¬ s.st = 4 := by simpa using e
    rw [if_pos e]
    exact ⟨rfl, DidR.same H x1⟩
  have e : s.st = 4 := by simpa using e
  rw [if_neg (fun n => n e)]
  rcases findV_range (vid := o.vid) M.vlans 0 with hf | ⟨f0, f1⟩
  · refine xif_of (fun _ => ?_) (fun q => absurd (of_decide_eq_false q) (by omega))
    rw [if_pos (by omega)]
    exact ⟨rfl, DidR.same H x1⟩
  refine xif_of (fun q => absurd (of_decide_eq_true q) (by omega)) (fun _ => ?_)
  obtain ⟨i, hi⟩ : ∃ i : Nat, findV o.vid M.vlans 0 = i := ⟨_, (Int.toNat_of_nonneg (by omega)).symm⟩
  have hil : i < M.vlans.length := by omega
  obtain ⟨w', hw⟩ : ∃ w, M.vlans[i]? = some w := ⟨M.vlans[i], List.getElem?_eq_getElem hil⟩
  have ww := K.vl w' (List.mem_of_getElem? hw)
  have hg2 : M.vlans.getD (i : Int).toNat ⟨0, 0, 0⟩ = w' := by rw [Int.toNat_natCast, List.getD_eq_getElem?_getD, hw]; rfl
  rw [hi, if_neg (by omega), hg2]
  obtain ⟨va, hva, hrv⟩ := (H1.vlans.row encVl_len) i w' hw
  refine ⟨_, cell_blk H1.blk rfl, va, hva, by omega, by omega, _, hrv.get 1 rfl, _, cell_blk hb rfl, ?_⟩
  refine (r3Has_spec ww.1).mono ?_
  rintro v h4 ⟨rfl, rfl⟩
  refine xif_of (fun e => ?_) (fun e => ?_)
  · have e : hasM w'.mem o.to = false := by simpa using e
    rw [if_pos e]
    exact ⟨rfl, DidR.same H x1⟩
  have e : hasM w'.mem o.to = true := by simpa using e
  rw [if_neg (by simp [e])]
  refine ⟨_, cell_blk H1.blk rfl, va, hva, by omega, by omega, _, hrv.get 2 rfl, _, cell_blk hb rfl, ?_⟩
  refine (r3Has_spec ww.2).mono ?_
  rintro v h4 ⟨rfl, rfl⟩
  refine xif_of (fun e => ?_) (fun e => ?_)
  · rw [if_pos e]
    exact ⟨rfl, DidR.same H x1⟩
  · rw [if_neg (by simp [e])]
    exact ⟨rfl, DidR.same H x1⟩
end
end Go.Proofs.YtjjempefncgfhaaGreatDoorE
