/- What the laws HistChecks and HistReplays answer: yes. Conditions: the arguments are of their types. -/
import Derived.Test.YtgiofdiifkahoaaGreatXH9
import Derived.Test.YtgiofdiifkahoaaGreatXQ2
import Derived.Test.YtgiofdiifkahoaaGreatXW5
set_option linter.unusedVariables false
set_option linter.unusedSimpArgs false
set_option maxRecDepth 100000
namespace Go.Proofs.YtgiofdiifkahoaaGreatE
open Go Go.Proofs
def env_l17From : Nat → Ann
  | 1 => ⟨.op 0 [] <| .op 1 [] <| .op 2 [] <| .op 3 [] <| .op 4 [] <| .op 5 [] <| .op 6 [] <| .op 7 [] <| .op 8 [] <| .op 9 [] <| .op 10 [] <| .op 11 [] <| .op 13 [] <| .op 14 [] <| .op 15 [] <| .op 16 [] <| .op 17 [] <| .op 18 [] <| .op 19 [] <| .op 20 [] <| .op 21 [] <| .op 22 [] <| .op 23 [] <| .op 24 [] <| .op 25 [] <| .op 26 [] <| .op 12 [1, 3, 5, 7, 9, 14, 16, 18, 20, 22, 24, 26] <| .op 27 [] <| .op 28 [] <| .nil, [0, 1, 0, 4, 0, 16, 0, 64, 0, 256, 0, 1024, 3072, 0, 8192, 0, 32768, 0, 131072, 0, 524288, 0, 2097152, 0, 8388608, 0, 33554432, 134217727, 268435455], false⟩
  | _ => ⟨.nil, [], false⟩
def env_l18From : Nat → Ann
  | 6 => ⟨.op 0 [] <| .op 1 [] <| .op 2 [] <| .op 3 [] <| .op 4 [] <| .op 5 [] <| .op 6 [] <| .op 7 [] <| .op 8 [] <| .op 9 [] <| .op 10 [] <| .op 12 [] <| .op 13 [] <| .op 11 [2, 4, 6, 8, 13] <| .op 14 [] <| .op 15 [] <| .op 16 [] <| .op 17 [] <| .nil, [0, 0, 2, 0, 8, 0, 32, 0, 128, 0, 512, 1536, 0, 4096, 16382, 32766, 65535, 131071], false⟩
  | _ => ⟨.nil, [], false⟩
def env_lHChecks : Nat → Ann
  | 12 => ⟨.op 0 [] <| .op 1 [] <| .op 2 [] <| .op 3 [] <| .op 4 [] <| .op 5 [] <| .op 6 [] <| .op 7 [] <| .op 8 [] <| .nil, [0, 0, 3, 7, 0, 0, 48, 112, 255], false⟩
  | _ => ⟨.nil, [], false⟩
theorem Stored.fill {h h' : Heap} {b : Nat} {zs vs : List Value} {T : TypeId} {f : Nat × Nat} (s : Stored h ⟨b, 0, none⟩ vs h') (H : h[b]? = some (.cells zs.toArray T f)) (hl : zs.length = vs.length) : h'[b]? = some (.cells vs.toArray T f) := by
  have := s.put H
  rwa [lset_full vs zs hl] at this
theorem ins_split {α : Type} {lt bf : α → α → Prop} (z : α) : ∀ (n : Nat) (W : List α), W.length = n → ∃ X Y, W = X ++ Y ∧ (∀ t ∈ Y, lt z t) ∧ (∀ y, X.getLast? = some y → ¬ lt z y)
  | 0, W, h => ⟨[], [], by rw [List.length_eq_zero_iff.1 h]; rfl, (fun t ht => by cases ht), (fun y e => by cases e)⟩
  | n + 1, W, h => by
    rcases List.eq_nil_or_concat W with rfl | ⟨W', w, hw⟩
    · cases h
    · rw [List.concat_eq_append] at hw
      subst hw
      by_cases hlt : lt z w
      · obtain ⟨X, Y, e1, e2, e3⟩ := ins_split (lt := lt) (bf := bf) z n W' (by rw [List.length_append] at h; simp only [List.length_singleton] at h; omega)
        refine ⟨X, Y ++ [w], by rw [e1, List.append_assoc], fun t ht => ?_, e3⟩
        rcases List.mem_append.1 ht with ht | ht
        · exact e2 t ht
        · obtain rfl := List.mem_singleton.1 ht
          exact hlt
      · exact ⟨W' ++ [w], [], by simp, (fun t ht => by cases ht), fun y e => by rw [List.getLast?_concat] at e; cases e; exact hlt⟩
/-- There is such an order. -/
theorem ord_exists (l : List He) : ∀ n, ∃ O, IsOrd l n O
  | 0 => ⟨[], List.Perm.refl _, List.Pairwise.nil⟩
  | n + 1 => by
    obtain ⟨O, hO⟩ := ord_exists l n
    by_cases q : 0 < mkI l n
    · obtain ⟨X, Y, e1, e2, e3⟩ := ins_split (lt := ltM l) (bf := bfM) (n : Int) O.length O rfl
      refine ⟨X ++ (n : Int) :: Y, ?_, pw_insert (ltM_swo l) (e1 ▸ hO.sorted) e2 e3 fun t ht => ?_⟩
      · rw [plcN, if_pos q]
        exact List.perm_middle.trans ((List.Perm.cons (n : Int) (e1 ▸ hO.perm)).trans (List.perm_append_comm (l₁ := [(n : Int)])))
      · have := (hO.mem (x := t) (by rw [e1]; exact List.mem_append_left _ ht)).2.1
        unfold bfM; omega
    · exact ⟨O, by rw [plcN, if_neg q, List.append_nil]; exact hO.perm, hO.sorted⟩
section
variable {h : Heap}
set_option maxHeartbeats 1000000 in
theorem l17From_spec (o : Op17) : HCalls Tryz.prog 87 #[.agg (encO17 o).toArray] h (fun v h' => v = .agg (encO17 o).toArray ∧ Ext h h') := by
  refine xcalls env_l17From Tryz.func87 rfl (by kernel_rfl) rfl (by kernel_rfl) ?_
  intro ib h1 n1 rb h2 n2
  have hib : h2[ib]? = some (.cells (encO17 o).toArray 51 (0, 0)) := n2.ext.blk n1.this
  have x02 := n1.ext.trans n2.ext
  refine ⟨_, cell_blk hib rfl, _, cell_blk hib rfl, _, cell_blk hib rfl, _, cell_blk hib rfl, _, cell_blk hib rfl, [.int .i64 o.kvid, .int .u64 o.mac], rfl, reads_at hib rfl, _, cell_blk hib rfl, _, cell_blk hib rfl, _, cell_blk hib rfl, _, cell_blk hib rfl, _, cell_blk hib rfl, _, cell_blk hib rfl, _, cell_blk hib rfl, ?_⟩
  refine (l8From_spec _ _ _).mono ?_
  rintro v h3 ⟨rfl, x3⟩
  have b3 := x3.blk hib
  refine ⟨⟨cell_blk b3 rfl, cell_blk b3 rfl, cell_blk b3 rfl, cell_blk b3 rfl, cell_blk b3 rfl, cell_blk b3 rfl, cell_blk b3 rfl, cell_blk b3 rfl, cell_blk b3 rfl, cell_blk b3 rfl, cell_blk b3 rfl, cell_blk b3 rfl, trivial⟩, ?_⟩
  have r3 := x3.blk n2.this
  refine ⟨rfl, rfl, canset_blk r3 rfl, fun h4 s4 => ?_⟩
  have hr : h4[rb]? = some (.cells (encO17 o).toArray 56 (0, 0)) := s4.fill r3 rfl
  exact ⟨_, rfl, reads_all hr, rfl, (x02.trans x3).stored s4 (n2.ge n1.ext)⟩
theorem heInfoR : (Tryz.prog.info? 81).map (fun i => (i.size, i.bytes)) = some (19, 144) := by kernel_rfl
theorem heZeroR : xzero Tryz.prog 81 = some (encHe he0) := by kernel_rfl
set_option maxHeartbeats 1000000 in
theorem l18From_spec {A : Option Addr} {n c : Nat} {l : List He} (hr : Row encHe 19 h A l) (hl : l.length = n) (hn : n ≤ 2000) : HCalls Tryz.prog 30 #[.slice A n c] h (fun v h' => ∃ A' c', v = .slice A' n c' ∧ OwnA encHe 19 81 h.size h' A' c' l ∧ Ext h h') := by
  subst hl
  refine xcalls env_l18From Tryz.func30 rfl (by kernel_rfl) rfl (by kernel_rfl) ?_
  refine ⟨Nat × Option Addr × Nat, fun z => [(0, .slice A l.length c), (3, .slice z.2.1 z.1 z.2.2), (4, .int .i64 z.1)],
    fun z h' => z.1 ≤ l.length ∧ OwnA encHe 19 81 h.size h' z.2.1 z.2.2 (l.take z.1) ∧ Ext h h', fun z => l.length - z.1, (0, none, 0), ⟨rfl, rfl, rfl, trivial⟩, ⟨Nat.zero_le _, .inl ⟨rfl, rfl, rfl⟩, Ext.refl _⟩, ?_⟩
  rintro ⟨i, B, d⟩ h2 ⟨hi, own2, x2⟩
  simp only at hi own2
  refine xif_of (fun hlt => ?_) (fun hge => ?_)
  rotate_left
  · have hge : ¬ (i : Int) < l.length := of_decide_eq_false hge
    obtain rfl : i = l.length := by omega
    rw [List.take_length] at own2
    exact ⟨B, d, rfl, own2, x2⟩
  have hlt : (i : Int) < l.length := of_decide_eq_true hlt
  obtain ⟨e, he⟩ : ∃ e, l[i]? = some e := ⟨l[i]'(by omega), List.getElem?_eq_getElem (by omega)⟩
  obtain ⟨a, hA, hrd⟩ := (x2.row hr) i e he
  refine ⟨a, hA, by omega, hlt, encHe e, rfl, hrd, ?_⟩
  intro eb h3 n3
  refine ⟨rfl, rfl, canset_blk n3.this rfl, fun h4 s4 => ?_⟩
  have heb : h4[eb]? = some (.cells (encHe e).toArray 85 (0, 0)) := n3.fill rfl s4
  have x24 : Ext h2 h4 := n3.ext.stored s4 (n3.ge (Ext.refl _))
  refine ⟨_, cell_blk heb rfl, _, cell_blk heb rfl, _, cell_blk heb rfl, _, cell_blk heb rfl, encO17 e.op, rfl, reads_at heb rfl, _, cell_blk heb rfl, ?_⟩
  refine (l17From_spec e.op).mono ?_
  rintro v h5 ⟨rfl, x5⟩
  have b5 := x5.blk heb
  refine ⟨⟨cell_blk b5 rfl, cell_blk b5 rfl, cell_blk b5 rfl, cell_blk b5 rfl, cell_blk b5 rfl, trivial⟩, ?_⟩
  intro bs h6 n6
  have hl2 : (l.take i).length = i := by rw [List.length_take]; omega
  have x25 := x24.trans x5
  refine xappend_one (x := e) heInfoR heZeroR rfl (by decide) encHe_len encHe_one (own2.ext x25) n6 hl2 (by show (i + 1) * 144 ≤ _; omega) (x2.trans x25).size fun B' d' h7 o7 k7 => ?_
  rw [take_next he] at o7
  exact ⟨(i + 1, B', d'), ⟨rfl, rfl, slot_inc (by omega), trivial⟩, ⟨by show i + 1 ≤ l.length; omega, o7, k7.ext (x2.trans x25) fun b hb => own2.ge b hb⟩, by show l.length - (i + 1) < l.length - i; omega⟩
theorem eqHeR (a b : He) : eqv Tryz.prog 60 81 (.agg (encHe a).toArray) (.agg (encHe b).toArray) = some ((a.who == b.who) && ((a.beg == b.beg) && ((a.mark == b.mark) && ((a.fin == b.fin) && (((a.op.kind == b.op.kind) && ((a.op.port == b.op.port) && ((a.op.to == b.op.to) && ((a.op.vid == b.op.vid) && ((a.op.state == b.op.state) && (((a.op.kvid == b.op.kvid) && ((a.op.mac == b.op.mac) && true)) && ((a.op.mem == b.op.mem) && ((a.op.unt == b.op.unt) && ((a.op.now == b.op.now) && ((a.op.limit == b.op.limit) && ((a.op.shard == b.op.shard) && ((a.op.bucket == b.op.bucket) && ((a.op.id == b.op.id) && true))))))))))))) && ((a.ans == b.ans) && true)))))) := by kernel_rfl
theorem eqHeRG (a : He) : guardBad Tryz.prog 81 (.agg (encHe a).toArray) = false := by kernel_rfl
theorem eqHeSame (a : He) : eqv Tryz.prog 60 81 (.agg (encHe a).toArray) (.agg (encHe a).toArray) = some true := by rw [eqHeR]; simp
theorem hReplay_none {C : Option Addr} {n c : Nat} : HCalls Tryz.prog 32 #[.agg (planV 0 (.slice none 0 0) (.slice none 0 0) ⟨0, 0, 0⟩ 0 0 0 0).toArray, .slice C n c] h (fun v h' => v = .tuple #[.pointer none, .int .i64 (-1)] ∧ Ext h h') := by
  refine xcalls env0 Tryz.func32 rfl (by kernel_rfl) rfl (by kernel_rfl) ?_
  intro pb h1 n1
  have hpb := n1.this
  refine ⟨_, rfl, reads_all hpb, ?_⟩
  refine (mNew_bad (rules := []) (vls := []) Row.nil rfl Row.nil rfl (by decide) (by decide) (fun v hv => by cases hv) (by decide)).mono ?_
  rintro v h2 ⟨rfl, x2⟩
  exact ⟨rfl, n1.ext.trans x2⟩
set_option maxHeartbeats 1000000 in
theorem lHReplays_spec {A B O : Option Addr} {na ca nb cb no co : Nat} {rules : List Ru} {vls : List Vl} {l0 : List He} {P tries ring normal short : Int} {s : Sz}
    (hra : Row encRu 2 h A rules) (hla : rules.length = na) (hrb : Row encVl 3 h B vls) (hlb : vls.length = nb) (hro : Row encHe 19 h O l0) (hlo : l0.length = no) (hco : no ≤ co)
    (wf : ∀ v ∈ vls, SetWf v.mem ∧ SetWf v.unt) (wo0 : ∀ e ∈ l0, e.op.Wf) :
    HCalls Tryz.prog 8 #[.agg (planV P (.slice A na ca) (.slice B nb cb) s tries ring normal short).toArray, .slice O no co] h (fun v h' => v = .bool true ∧ Ext h h') := by
  refine xcalls env0 Tryz.func8 rfl (by kernel_rfl) rfl (by kernel_rfl) ?_
  intro pb h2 n1
  have hpb2 := n1.this
  have x02 := n1.ext
  refine (l18Few_spec hlo hco).mono ?_
  rintro v h2' ⟨C, c, rfl, hcc, hrow, rfl⟩
  have hr := hrow _ (x02.row hro)
  have hn : (l0.take 80).length ≤ 80 := by rw [List.length_take]; omega
  have wo : ∀ e ∈ l0.take 80, e.op.Wf := fun e he => wo0 e (List.mem_of_mem_take he)
  generalize l0.take 80 = l at *
  obtain ⟨n, hln⟩ : ∃ n, l.length = n := ⟨_, rfl⟩
  rw [hln] at hn hcc ⊢
  refine ⟨_, rfl, reads_all hpb2, ?_⟩
  refine (rPFix_spec (x02.row hra) hla (x02.row hrb) hlb wf).mono ?_
  rintro v h3 ⟨A3, c3, B3, d3, rfl, oR3, oV3, x3⟩
  have hrl : (fixRules P rules).length = (fixPorts P).toNat := by unfold fixRules; simp
  have pr := fixPorts_range P
  have vl8 := fixVlans_len P vls
  have oR3 : OwnA encRu 2 _ h2'.size h3 A3 c3 (fixRules P rules) := oR3
  have oV3 : OwnA encVl 3 _ h2'.size h3 B3 d3 (fixVlans P vls) := oV3
  have hpb3 := x3.blk hpb2
  refine ⟨rfl, rfl, canset_blk hpb3 rfl, fun h4 s4 => ?_⟩
  have hpb : h4[pb]? = some (.cells (planV (fixPorts P) (.slice A3 (fixPorts P).toNat c3) (.slice B3 (fixVlans P vls).length d3) (fixSz s) (fixTries tries) (fixRing ring) normal short).toArray 28 (0, 0)) := s4.put hpb3
  have x04 : Ext h h4 := (x02.trans x3).stored s4 (n1.ge (Ext.refl _))
  have pb2 : pb < h2'.size := blk_lt hpb2
  have oR4 := oR3.other s4 fun b hb => by have := oR3.ge b hb; intro e; subst e; omega
  have oV4 := oV3.other s4 fun b hb => by have := oV3.ge b hb; intro e; subst e; omega
  have hr4 : Row encHe 19 h4 C l := hrow _ (x04.row hro)
  refine ⟨_, rfl, reads_all hpb, ?_⟩
  refine (l17To_spec (oR4.row encRu_len) hrl (oV4.row encVl_len) rfl (by omega) (by omega)).mono ?_
  rintro v h5 ⟨A5, c5, B5, d5, rfl, oR5, oV5, x5⟩
  refine (l18To_spec (x5.row hr4) hln (by omega)).mono ?_
  rintro v h6 ⟨A6, c6, rfl, o6, x6⟩
  refine (hReplay_spec (oR5.ext x6) (oV5.ext x6) hrl rfl wf (o6.row encHe_len) hln (by omega) wo).mono ?_
  rintro v h7 ⟨m, D, F, O1, bm, rfl, hO1, _, H7, _, x7⟩
  have x47 := x5.trans (x6.trans x7)
  have hpb7 := x47.blk hpb
  refine ⟨_, rfl, reads_all hpb7, ?_⟩
  refine (rReplay18_spec ((oR4.ext x47).row encRu_len) ((oV4.ext x47).row encVl_len) hrl rfl wf (x47.row hr4) hln (by omega) wo).mono ?_
  rintro v h8 ⟨w, D', G, O2, bw, rfl, hO2, _, W8, _, x8⟩
  obtain rfl := hO1.one hO2
  refine (l18To_spec ((x47.trans x8).row hr4) hln (by omega)).mono ?_
  rintro v h9 ⟨A9, c9, rfl, o9, x9⟩
  refine (hReplay_none (C := A9) (n := n) (c := c9)).mono ?_
  rintro v h10 ⟨rfl, x10⟩
  refine told18_spec.mono ?_
  rintro v h11 ⟨rfl, x11⟩
  have x711 := x8.trans (x9.trans (x10.trans x11))
  have po := fixPl_ok P s tries ring normal short
  have N2 := fixVlans_nice (P := P) (tries := tries) (ring := ring) (normal := normal) (short := short) (s := s) wf
  have hOm : ∀ x ∈ O1, 0 ≤ x ∧ x < (l.length : Int) := fun x hx => ⟨(hO1.mem hx).1, by rw [hln]; exact (hO1.mem hx).2.1⟩
  have NN := fold_nice po wo (z := (newM (fixPl P s tries ring normal short) (fixVlans P vls), -1)) hOm N2
  refine xif_of (fun _ => ?_) (fun q => absurd q (by simp))
  refine (lSame17_spec po NN.ok (by have := NN.few; omega) (H7.ext x711) (W8.ext (x9.trans (x10.trans x11)))).mono ?_
  rintro v h12 ⟨rfl, x12⟩
  exact ⟨rfl, x04.trans (x47.trans (x711.trans x12))⟩
set_option maxHeartbeats 1000000 in
theorem lHChecks_spec {A B O : Option Addr} {na ca nb cb no co : Nat} {rules : List Ru} {vls : List Vl} {l0 : List He} {P tries ring normal short : Int} {s : Sz}
    (hra : Row encRu 2 h A rules) (hla : rules.length = na) (hrb : Row encVl 3 h B vls) (hlb : vls.length = nb) (hro : Row encHe 19 h O l0) (hlo : l0.length = no) (hco : no ≤ co)
    (wf : ∀ v ∈ vls, SetWf v.mem ∧ SetWf v.unt) (wo0 : ∀ e ∈ l0, e.op.Wf) :
    HCalls Tryz.prog 5 #[.agg (planV P (.slice A na ca) (.slice B nb cb) s tries ring normal short).toArray, .slice O no co] h (fun v h' => v = .bool true ∧ Ext h h') := by
  refine xcalls env_lHChecks Tryz.func5 rfl (by kernel_rfl) rfl (by kernel_rfl) ?_
  intro pb h2 n1
  have hpb2 := n1.this
  have x02 := n1.ext
  refine (l18Few_spec hlo hco).mono ?_
  rintro v h2' ⟨C, c, rfl, hcc, hrow, rfl⟩
  have hr := hrow _ (x02.row hro)
  have hn : (l0.take 80).length ≤ 80 := by rw [List.length_take]; omega
  have wo : ∀ e ∈ l0.take 80, e.op.Wf := fun e he => wo0 e (List.mem_of_mem_take he)
  generalize l0.take 80 = l at *
  obtain ⟨n, hln⟩ : ∃ n, l.length = n := ⟨_, rfl⟩
  rw [hln] at hn hcc ⊢
  refine ⟨_, rfl, reads_all hpb2, ?_⟩
  refine (rPFix_spec (x02.row hra) hla (x02.row hrb) hlb wf).mono ?_
  rintro v h3 ⟨A3, c3, B3, d3, rfl, oR3, oV3, x3⟩
  have hrl : (fixRules P rules).length = (fixPorts P).toNat := by unfold fixRules; simp
  have pr := fixPorts_range P
  have vl8 := fixVlans_len P vls
  have oR3 : OwnA encRu 2 _ h2'.size h3 A3 c3 (fixRules P rules) := oR3
  have oV3 : OwnA encVl 3 _ h2'.size h3 B3 d3 (fixVlans P vls) := oV3
  have hpb3 := x3.blk hpb2
  refine ⟨rfl, rfl, canset_blk hpb3 rfl, fun h4 s4 => ?_⟩
  have hpb : h4[pb]? = some (.cells (planV (fixPorts P) (.slice A3 (fixPorts P).toNat c3) (.slice B3 (fixVlans P vls).length d3) (fixSz s) (fixTries tries) (fixRing ring) normal short).toArray 28 (0, 0)) := s4.put hpb3
  have x04 : Ext h h4 := (x02.trans x3).stored s4 (n1.ge (Ext.refl _))
  have pb2 : pb < h2'.size := blk_lt hpb2
  have oR4 := oR3.other s4 fun b hb => by have := oR3.ge b hb; intro e; subst e; omega
  have oV4 := oV3.other s4 fun b hb => by have := oV3.ge b hb; intro e; subst e; omega
  have hr4 : Row encHe 19 h4 C l := hrow _ (x04.row hro)
  refine (l18To_spec hr4 hln (by omega)).mono ?_
  rintro v h5 ⟨A5, c5, rfl, o5, x5⟩
  have hc5 : n ≤ c5 := by have := o5.le; omega
  have hpb5 := x5.blk hpb
  refine ⟨_, rfl, reads_all hpb5, ?_⟩
  refine (l17To_spec ((oR4.ext x5).row encRu_len) hrl ((oV4.ext x5).row encVl_len) rfl (by omega) (by omega)).mono ?_
  rintro v h6 ⟨A6, c6, B6, d6, rfl, oR6, oV6, x6⟩
  obtain ⟨Q, hQ⟩ := ord_exists l n
  refine (hCheck_spec oR6 oV6 hrl rfl wf ((o5.ext x6).row encHe_len) hln (by omega) hc5 wo).mono ?_
  rintro v h7 ⟨i7, e7, rfl, k7, x7⟩
  have k7 := k7 Q hQ
  have x47 := x5.trans (x6.trans x7)
  have hpb7 := x47.blk hpb
  refine ⟨_, rfl, reads_all hpb7, ?_⟩
  refine (rCheck18_spec ((oR4.ext x47).row encRu_len) ((oV4.ext x47).row encVl_len) hrl rfl wf (x47.row hr4) hln (by omega) wo).mono ?_
  rintro v h8 ⟨i8, e8, rfl, k8, x8⟩
  have k8 := k8 Q hQ
  rw [← k7] at k8
  cases k8
  refine told18_spec.mono ?_
  rintro v h9 ⟨rfl, x9⟩
  refine xif_of (fun q => absurd q (by simp)) (fun _ => ?_)
  refine xif_of (fun q => absurd q (by simp)) (fun _ => ?_)
  have x59 := x6.trans (x7.trans (x8.trans x9))
  refine (hOrder_spec ((o5.ext x59).row encHe_len) hln (by omega)).mono ?_
  rintro v h10 ⟨A10, c10, O1, rfl, hO1, oO1, x10⟩
  refine (rOrder18_spec ((x5.trans (x59.trans x10)).row hr4) hln (by omega)).mono ?_
  rintro v h11 ⟨A11, c11, O2, rfl, hO2, oO2, x11⟩
  obtain rfl := hO1.one hO2
  have hOl := hO1.len
  refine (l3Ints_spec ((oO1.ext x11).row encI_len) (oO2.row encI_len) rfl rfl (by omega) (by omega)).mono ?_
  rintro v h12 ⟨rfl, x12⟩
  refine xif_of (fun q => absurd q (by simp)) (fun _ => ?_)
  have x512 := x59.trans (x10.trans (x11.trans x12))
  refine (l18From_spec ((o5.ext x512).row encHe_len) hln (by omega)).mono ?_
  rintro v h13 ⟨A13, c13, rfl, o13, x13⟩
  have hr13 := (x5.trans (x512.trans x13)).row hr4
  refine ⟨Nat, fun i => [(1, .slice C n c), (10, .slice A13 n c13), (11, .int .i64 i)], fun i h' => i ≤ n ∧ h' = h13, fun i => n - i, 0, ⟨rfl, rfl, rfl, trivial⟩, ⟨Nat.zero_le _, rfl⟩, ?_⟩
  rintro i h14 ⟨hi, rfl⟩
  refine xif_of (fun hlt => ?_) (fun hge => ?_)
  · have hlt : (i : Int) < n := of_decide_eq_true hlt
    obtain ⟨e, he⟩ : ∃ e, l[i]? = some e := ⟨l[i]'(by omega), List.getElem?_eq_getElem (by omega)⟩
    obtain ⟨a1, hA1, r1⟩ := (o13.row encHe_len) i e he
    obtain ⟨a2, hA2, r2⟩ := hr13 i e he
    refine ⟨a1, hA1, by omega, hlt, encHe e, rfl, r1, a2, hA2, by omega, hlt, encHe e, rfl, r2, ?_⟩
    refine xeq_of (eqHeRG e) (eqHeSame e) ?_
    exact ⟨i + 1, ⟨rfl, rfl, slot_inc (by omega), trivial⟩, ⟨by omega, rfl⟩, by show n - (i + 1) < n - i; omega⟩
  exact ⟨congrArg Value.bool (by simp), x04.trans (x5.trans (x512.trans x13))⟩
end
end Go.Proofs.YtgiofdiifkahoaaGreatE
