/- Histories: helpers of the laws, told. Conditions: the arguments are of their types, and not too many. -/
import Derived.Test.YtgiofdiifkahoaaGreatXH6
set_option linter.unusedVariables false
set_option linter.unusedSimpArgs false
set_option maxRecDepth 100000
namespace Go.Proofs.YtgiofdiifkahoaaGreatE
open Go Go.Proofs
def env_l18To : Nat → Ann
  | 6 => ⟨.op 0 [] <| .op 1 [] <| .op 2 [] <| .op 3 [] <| .op 4 [] <| .op 5 [] <| .op 6 [] <| .op 7 [] <| .op 8 [] <| .op 9 [] <| .op 10 [] <| .op 12 [] <| .op 13 [] <| .op 11 [2, 4, 6, 8, 13] <| .op 14 [] <| .op 15 [] <| .op 16 [] <| .op 17 [] <| .nil, [0, 0, 2, 0, 8, 0, 32, 0, 128, 0, 512, 1536, 0, 4096, 16382, 32766, 65535, 131071], false⟩
  | _ => ⟨.nil, [], false⟩
section
variable {h : Heap}
theorem l18Few_spec {A : Option Addr} {n c : Nat} {l : List He} (hl : l.length = n) (hc : n ≤ c) : HCalls Tryz.prog 22 #[.slice A n c] h (fun v h' => ∃ A' c', v = .slice A' (l.take 80).length c' ∧ (l.take 80).length ≤ c' ∧ (∀ g, Row encHe 19 g A l → Row encHe 19 g A' (l.take 80)) ∧ h' = h) := by
  subst hl
  refine xcalls env0 Tryz.func22 rfl (by kernel_rfl) rfl (by kernel_rfl) ?_
  have hlen : (if (80 : Int) < (l.length : Int) then (80 : Int) else (l.length : Int)).toNat - Int.toNat 0 = (l.take 80).length := by
    rw [List.length_take]
    have : Int.toNat 0 = 0 := rfl
    split <;> omega
  refine ⟨fun _ => rfl, by decide, ?_, ?_, Int.le_refl _, ?_⟩
  · split <;> omega
  · split <;> omega
  · refine ⟨_, _, Eq.trans rfl (congrArg (fun b : Nat => Value.slice (if (c : Int).toNat = Int.toNat 0 then A else Option.map (fun x => x.add (Int.toNat 0 * 19)) A) b ((c : Int).toNat - Int.toNat 0)) hlen), ?_, fun g hr => row_first hr 80 fun a => add_zero' a, rfl⟩
    rw [List.length_take]
    have : Int.toNat 0 = 0 := rfl
    omega
theorem heInfo : (Tryz.prog.info? 85).map (fun i => (i.size, i.bytes)) = some (19, 144) := by kernel_rfl
theorem heZero : xzero Tryz.prog 85 = some (encHe he0) := by kernel_rfl
set_option maxHeartbeats 1000000 in
theorem l18To_spec {A : Option Addr} {n c : Nat} {l : List He} (hr : Row encHe 19 h A l) (hl : l.length = n) (hn : n ≤ 2000) : HCalls Tryz.prog 23 #[.slice A n c] h (fun v h' => ∃ A' c', v = .slice A' n c' ∧ OwnA encHe 19 85 h.size h' A' c' l ∧ Ext h h') := by
  subst hl
  refine xcalls env_l18To Tryz.func23 rfl (by kernel_rfl) rfl (by kernel_rfl) ?_
  refine ⟨Nat × Option Addr × Nat, fun z => [(0, .slice A l.length c), (3, .slice z.2.1 z.1 z.2.2), (4, .int .i64 z.1)],
    fun z h' => z.1 ≤ l.length ∧ OwnA encHe 19 85 h.size h' z.2.1 z.2.2 (l.take z.1) ∧ Ext h h', fun z => l.length - z.1, (0, none, 0), ⟨rfl, rfl, rfl, trivial⟩, ⟨Nat.zero_le _, .inl ⟨rfl, rfl, rfl⟩, Ext.refl _⟩, ?_⟩
  rintro ⟨i, B, d⟩ h2 ⟨hi, own2, x2⟩
  simp only at hi own2
  refine xif_of (fun hlt => ?_) (fun hge => ?_)
  rotate_left
  · have hge : ¬ (i : Int) < l.length := of_decide_eq_false hge
    obtain rfl : i = l.length := by omega
    rw [List.take_length] at own2
    exact ⟨B, d, rfl, own2, x2⟩
  have hlt : (i : Int) < l.length := of_decide_eq_true hlt
  obtain ⟨e, he⟩ : ∃ e, l[i]? = some e := ⟨l[i]'(by omega), List.getElem?_eq_getElem (by omega)⟩
  obtain ⟨a, hA, hrd⟩ := (x2.row hr) i e he
  refine ⟨a, hA, by omega, hlt, encHe e, rfl, hrd, ?_⟩
  intro eb h3 n3
  refine ⟨rfl, rfl, canset_blk n3.this rfl, fun h4 s4 => ?_⟩
  have heb : h4[eb]? = some (.cells (encHe e).toArray 81 (0, 0)) := n3.fill rfl s4
  have x24 : Ext h2 h4 := n3.ext.stored s4 (n3.ge (Ext.refl _))
  refine ⟨_, cell_blk heb rfl, _, cell_blk heb rfl, _, cell_blk heb rfl, _, cell_blk heb rfl, encO17 e.op, rfl, reads_at heb rfl, _, cell_blk heb rfl, ?_⟩
  refine (l17Op_spec e.op).mono ?_
  rintro v h5 ⟨rfl, x5⟩
  have b5 := x5.blk heb
  refine ⟨⟨cell_blk b5 rfl, cell_blk b5 rfl, cell_blk b5 rfl, cell_blk b5 rfl, cell_blk b5 rfl, trivial⟩, ?_⟩
  intro bs h6 n6
  have hl2 : (l.take i).length = i := by rw [List.length_take]; omega
  have x25 := x24.trans x5
  refine xappend_one (x := e) heInfo heZero rfl (by decide) encHe_len encHe_one (own2.ext x25) n6 hl2 (by show (i + 1) * 144 ≤ _; omega) (x2.trans x25).size fun B' d' h7 o7 k7 => ?_
  rw [take_next he] at o7
  exact ⟨(i + 1, B', d'), ⟨rfl, rfl, slot_inc (by omega), trivial⟩, ⟨by show i + 1 ≤ l.length; omega, o7, k7.ext (x2.trans x25) fun b hb => own2.ge b hb⟩, by show l.length - (i + 1) < l.length - i; omega⟩
def toldE (a : Int) : He := ⟨0, 0, 1, 2, opZ 8 0 0 0 4, a⟩
def toldP18 : Pl := fixPl 0 ⟨0, 0, 0⟩ 0 0 0 0
def toldM18 : Md := newM toldP18 (fixVlans 0 [])
theorem told18_1 : checkH toldP18 [toldE 1] toldM18 [0] = (-1, 0) := by decide +kernel
theorem told18_2 : checkH toldP18 [toldE 2] toldM18 [0] = (0, 7) := by decide +kernel
theorem told18_ord (a : Int) : IsOrd [toldE a] 1 [0] := by
  refine ⟨?_, List.pairwise_singleton _ _⟩
  have : plcN [toldE a] 1 = [0] := rfl
  rw [this]
set_option maxHeartbeats 1000000 in
theorem told18_spec : HCalls Tryz.prog 26 #[] h (fun v h' => v = .bool true ∧ Ext h h') := by
  refine xcalls env0 Tryz.func26 rfl (by kernel_rfl) rfl (by kernel_rfl) ?_
  have wf : ∀ v ∈ ([] : List Vl), SetWf v.mem ∧ SetWf v.unt := fun v hv => by cases hv
  refine (rPFix_spec (rules := []) (vls := []) (s := ⟨0, 0, 0⟩) (P := 0) (tries := 0) (ring := 0) (normal := 0) (short := 0) (A := none) (B := none) (ca := 0) (cb := 0) Row.nil rfl Row.nil rfl wf).mono ?_
  rintro v h2 ⟨A, c, B, d, rfl, oR, oV, x2⟩
  have oR : OwnA encRu 2 _ h.size h2 A c (fixRules 0 []) := oR
  have oV : OwnA encVl 3 _ h.size h2 B d (fixVlans 0 []) := oV
  refine (l17To_spec (oR.row encRu_len) rfl (oV.row encVl_len) rfl (by decide) (by decide)).mono ?_
  rintro v h3 ⟨A3, c3, B3, d3, rfl, oR3, oV3, x3⟩
  intro pb h4 n4
  refine ⟨rfl, rfl, canset_blk n4.this rfl, fun h5 s5 => ?_⟩
  have hpb : h5[pb]? = some (.cells (planV (fixPorts 0) (.slice A3 (fixRules 0 []).length c3) (.slice B3 (fixVlans 0 []).length d3) (fixSz ⟨0, 0, 0⟩) (fixTries 0) (fixRing 0) 0 0).toArray 39 (0, 0)) := n4.fill rfl s5
  have x35 : Ext h3 h5 := n4.ext.stored s5 (n4.ge (Ext.refl _))
  intro lb h6 n6
  have hlb : h6[lb]? = some (.cells (encHe (toldE 1)).toArray 85 (0, 0)) := n6.this
  have row6 : Row encHe 19 h6 (some ⟨lb, 0, none⟩) [toldE 1] := row_blk (rest := []) hlb fun _ _ => rfl
  have x36 := x35.trans n6.ext
  have hpb6 := n6.ext.blk hpb
  have wo : ∀ a, ∀ e ∈ [toldE a], e.op.Wf := fun a e he => by obtain rfl := List.mem_singleton.1 he; exact opZ_wf ..
  refine ⟨_, rfl, reads_all hpb6, ?_⟩
  refine (hCheck_spec (P := 0) (vls := []) (rules := []) (s := ⟨0, 0, 0⟩) (tries := 0) (ring := 0) (l := [toldE 1]) (oR3.ext x36) (oV3.ext x36) rfl rfl wf row6 rfl (by decide) (by decide) (wo 1)).mono ?_
  rintro v h7 ⟨i7, e7, rfl, k7, x7⟩
  have k7 := k7 [0] (told18_ord 1)
  rw [show checkH (fixPl 0 ⟨0, 0, 0⟩ 0 0 0 0) [toldE 1] (newM (fixPl 0 ⟨0, 0, 0⟩ 0 0 0 0) (fixVlans 0 [])) [0] = (-1, 0) from told18_1] at k7
  cases k7
  have hlb7 := x7.blk hlb
  refine ⟨_, rfl, by decide, by decide, rfl, rfl, canset_blk hlb7 rfl, fun h8 s8 => ?_⟩
  have hlb8 : h8[lb]? = some (.cells (encHe (toldE 2)).toArray 85 (0, 0)) := s8.put hlb7
  have g6 : h.size ≤ lb := n6.ge (x2.trans (x3.trans x35))
  have row8 : Row encHe 19 h8 (some ⟨lb, 0, none⟩) [toldE 2] := row_blk (rest := []) hlb8 fun _ _ => rfl
  have x38 : Ext h3 h8 := (x36.trans x7).stored s8 (n6.ge x35)
  have pne : pb ≠ lb := by have := n6.lt hpb; omega
  have hpb8 := s8.blk (x7.blk hpb6) pne
  refine ⟨_, rfl, reads_all hpb8, ?_⟩
  refine (hCheck_spec (P := 0) (vls := []) (rules := []) (s := ⟨0, 0, 0⟩) (tries := 0) (ring := 0) (l := [toldE 2]) (oR3.ext x38) (oV3.ext x38) rfl rfl wf row8 rfl (by decide) (by decide) (wo 2)).mono ?_
  rintro v h9 ⟨i9, e9, rfl, k9, x9⟩
  have k9 := k9 [0] (told18_ord 2)
  rw [show checkH (fixPl 0 ⟨0, 0, 0⟩ 0 0 0 0) [toldE 2] (newM (fixPl 0 ⟨0, 0, 0⟩ 0 0 0 0) (fixVlans 0 [])) [0] = (0, 7) from told18_2] at k9
  cases k9
  refine (hOrder_spec (x9.row row8) rfl (by decide)).mono ?_
  rintro v h10 ⟨A', c', O, rfl, hO, oO, x10⟩
  obtain rfl := hO.one (told18_ord 2)
  intro zb h11 n11
  have hzb : h11[zb]? = some (.cells [.int .i64 0].toArray 3 (0, 0)) := n11.this
  have rowz : Row encI 1 h11 (some ⟨zb, 0, none⟩) [0] := row_blk (rest := []) hzb fun _ _ => rfl
  refine (l3Ints_spec ((oO.ext n11.ext).row encI_len) rowz rfl rfl (by decide) (by decide)).mono ?_
  rintro v h12 ⟨rfl, x12⟩
  exact ⟨rfl, x2.trans (x3.trans (x38.trans (x9.trans (x10.trans (n11.ext.trans x12)))))⟩
end
end Go.Proofs.YtgiofdiifkahoaaGreatE
