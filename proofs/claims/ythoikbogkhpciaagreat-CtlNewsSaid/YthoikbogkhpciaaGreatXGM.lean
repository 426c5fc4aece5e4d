/- Of all Ops it is told whether they are orders. Conditions: none. -/
import Derived.Test.YthoikbogkhpciaaGreatXGK
import Derived.Test.YthoikbogkhpciaaGreatXGL
set_option linter.unusedVariables false
set_option linter.unusedSimpArgs false
set_option maxRecDepth 100000
namespace Go.Proofs.YthoikbogkhpciaaGreatE
open Go Go.Proofs
def env_cCommandX : Nat → Ann
  | 22 => ⟨.op 0 [] <| .op 1 [] <| .op 2 [] <| .op 3 [] <| .op 4 [] <| .op 5 [] <| .op 7 [] <| .op 6 [7] <| .op 8 [] <| .op 9 [] <| .op 10 [] <| .op 11 [] <| .op 12 [] <| .nil, [0, 0, 0, 4, 12, 28, 60, 0, 254, 510, 1023, 2047, 4095], false⟩
  | _ => ⟨.nil, [], false⟩
def env_r19May : Nat → Ann
  | 2 => ⟨.nil, [], true⟩
  | _ => ⟨.nil, [], false⟩
/-- Is it an order? -/
def mayC (F : Fb) (who : Int) (o : Op17) : Bool := if who < 0 then false else if o.kind = 8 then (decide (0 ≤ o.port) && decide (o.port < F.P)) && rightSt o.state else if o.kind = 9 then decide (0 ≤ findV o.vid F.vls 0) else mayE F o
section
variable {h h' : Heap} {F : Fb} {M : MemS} {d : DbV} {who : Int} {o : Op17}
theorem cCommand_any (H : FabAt h F) (HM : MemAt h F.mb F.cb F.lb M) (D : DbAt h F.db d) (ok : d.s.Ok) (w : KeyWf o.kvid o.mac) (hpr : F.prot = []) (ht : M.t < 900000) :
    HCalls Tryz.prog 26 #[.pointer (some ⟨F.fb, 0, none⟩), .int .i64 who, .agg (encO17 o).toArray] h (fun v h' => (if mayC F who o = true then ∃ p, v = .pointer (some ⟨p, 0, none⟩) else v = .pointer none) ∧ Ext h h') := by
  have p2 := H.p2
  by_cases g8 : who ≥ 0 ∧ o.kind = 8 ∧ (0 ≤ o.port ∧ o.port < F.P) ∧ rightSt o.state = true
  · obtain ⟨w0, k8, hp, hs⟩ := g8
    obtain ⟨p, hpp⟩ : ∃ p : Nat, o.port = (p : Int) := ⟨o.port.toNat, by omega⟩
    refine (cCommand_port (B := 0) H HM (Nat.zero_le _) (Nat.zero_le _) (Nat.zero_le _) (Nat.zero_le _) (by rw [hpr]; simp) w0 k8 hpp (by omega) hs ht).mono ?_
    rintro v h1 ⟨ab, x, rfl, _, _, _, _, _, _, _, x1⟩
    refine ⟨?_, x1⟩
    rw [if_pos (by unfold mayC; rw [if_neg (by omega), if_pos k8, decide_eq_true hp.1, decide_eq_true hp.2, hs]; rfl)]
    exact ⟨ab, rfl⟩
  by_cases g9 : who ≥ 0 ∧ o.kind = 9 ∧ 0 ≤ findV o.vid F.vls 0
  · obtain ⟨w0, k9, hv⟩ := g9
    refine (cCommand_vlan (B := 0) H HM (Nat.zero_le _) (Nat.zero_le _) (Nat.zero_le _) (Nat.zero_le _) (by rw [hpr]; simp) w0 k9 (i := (findV o.vid F.vls 0).toNat) (by omega) ht).mono ?_
    rintro v h1 ⟨ab, x, rfl, _, _, _, _, _, x1⟩
    refine ⟨?_, x1⟩
    rw [if_pos (by unfold mayC; rw [if_neg (by omega), if_neg (by omega), if_pos k9, decide_eq_true hv])]
    exact ⟨ab, rfl⟩
  refine xcalls env_cCommandX Tryz.func26 rfl (by kernel_rfl) rfl (by kernel_rfl) ?_
  intro ob h1 n1
  have hob : h1[ob]? = some (.cells (encO17 o).toArray 68 (0, 0)) := n1.this
  refine xif_of (fun g => ?_) (fun g => ?_)
  · have g : who < 0 := of_decide_eq_true g
    refine ⟨?_, n1.ext⟩
    unfold mayC
    rw [if_pos g]
    rfl
  have g : ¬ who < 0 := of_decide_eq_false g
  refine ⟨encO17 o, rfl, reads_all hob, ?_⟩
  intro ab h2 n2
  have hob2 := n2.ext.blk hob
  have x2 := n1.ext.trans n2.ext
  have gab : h.size ≤ ab := n2.ge n1.ext
  have raw2 : CaRaw h2 ab ⟨F.fb, who, o, .nilFunc, none, 0, 0, none, 0, 0, 0, 0, none, none⟩ := n2.this
  repeat (first | refine ⟨_, cell_blk (hob2) rfl, ?_⟩)
  refine xif_of (fun k => ?_) (fun k => ?_)
  · have k : o.kind = 8 := by simpa using k
    have no : mayC F who o = false := by
      unfold mayC
      rw [if_neg g, if_pos k]
      cases e1 : decide (0 ≤ o.port)
      · rfl
      · cases e2 : decide (o.port < (F.P : Int))
        · rfl
        · cases e3 : rightSt o.state
          · rfl
          · exact absurd ⟨by omega, k, ⟨of_decide_eq_true e1, of_decide_eq_true e2⟩, e3⟩ g8
    rw [no]
    repeat (first | refine ⟨_, cell_blk (hob2) rfl, ?_⟩)
    refine (cHas_spec (H.ext x2) o.port).mono ?_
    rintro v h3 ⟨rfl, rfl⟩
    refine xif_of (fun q => ?_) (fun q => ?_)
    · exact ⟨rfl, x2⟩
    · repeat (first | refine ⟨_, cell_blk (hob2) rfl, ?_⟩)
      refine (pRight_spec o.state).mono ?_
      rintro v h4 ⟨rfl, rfl⟩
      refine xif_true ?_ ?_
      · have q : (decide (0 ≤ o.port) && decide (o.port < (F.P : Int))) = true := by simpa using q
        have q' : 0 ≤ o.port ∧ o.port < (F.P : Int) := by simpa using q
        cases e3 : rightSt o.state
        · rfl
        · exact absurd ⟨by omega, k, q', e3⟩ g8
      exact ⟨rfl, x2⟩
  have k8 : o.kind ≠ 8 := by simpa using k
  refine xif_of (fun k => ?_) (fun k => ?_)
  · have k : o.kind = 9 := by simpa using k
    have nf : ¬ 0 ≤ findV o.vid F.vls 0 := fun e => g9 ⟨by omega, k, e⟩
    have no : mayC F who o = false := by
      unfold mayC
      rw [if_neg g, if_neg k8, if_pos k, decide_eq_false nf]
    rw [no]
    repeat (first | refine ⟨_, cell_blk (hob2) rfl, ?_⟩)
    refine (cVlan_spec (H.ext x2) o.vid).mono ?_
    rintro v h3 ⟨rfl, x3⟩
    refine xif_true (decide_eq_true (show findV o.vid F.vls 0 < 0 by omega)) ?_
    exact ⟨rfl, x2.trans x3⟩
  have k9 : o.kind ≠ 9 := by simpa using k
  have hm : mayC F who o = mayE F o := by
    unfold mayC
    rw [if_neg g, if_neg k8, if_neg k9]
  rw [hm]
  refine ⟨encO17 o, rfl, reads_all hob2, ?_⟩
  refine (cEntry_spec (H.ext x2) (x2.blk D) ok (by omega) w).mono ?_
  rintro v h3 ⟨r, x3⟩
  have raw3 := x3.blk raw2
  have hob3 := x3.blk hob2
  have x03 := x2.trans x3
  by_cases hme : mayE F o = true
  · rw [if_pos hme] at r
    obtain ⟨p, rfl⟩ := r
    refine ⟨rfl, rfl, canset_blk raw3 rfl, fun h4 s4 => ?_⟩
    have raw4 : CaRaw h4 ab ⟨F.fb, who, o, .nilFunc, none, 0, 0, none, 0, 0, 0, 0, none, some p⟩ := s4.put raw3
    have c4 : Chg [(ab, 142)] h3 h4 := s4.chg raw3 (.head _)
    repeat (first | refine ⟨_, cell_blk (raw4) rfl, ?_⟩)
    refine ⟨rfl, rfl, canset_blk raw4 rfl, fun h5 s5 => ?_⟩
    have raw5 : CaRaw h5 ab ⟨F.fb, who, o, .func (.func 72) #[] #[], none, 0, 0, none, 0, 0, 0, 0, none, some p⟩ := s5.put raw4
    have c5 : Chg [(ab, 142)] h4 h5 := s5.chg raw4 (.head _)
    have x5 := (x03.stored s4 gab).stored s5 gab
    have hob5 := c5.blk (c4.blk hob3 (by simp)) (by simp)
    obtain ⟨RA5, rc5, hb5, _⟩ := (H.ext x5).blk
    repeat (first | refine ⟨_, cell_blk (raw5) rfl, ?_⟩ | refine ⟨_, cell_blk (hb5) rfl, ?_⟩)
    refine ⟨encO17 o, rfl, reads_all hob5, ?_⟩
    refine (mTime_spec (HM.ext x5)).mono ?_
    rintro v h6 ⟨rfl, rfl⟩
    refine ⟨⟨reads_all hob5, trivial⟩, ?_⟩
    intro nb h7 n7
    have raw7 := n7.ext.blk raw5
    refine ⟨rfl, rfl, canset_blk raw7 rfl, fun h8 s8 => ?_⟩
    exact ⟨by rw [if_pos hme]; exact ⟨ab, rfl⟩, (x5.trans n7.ext).stored s8 gab⟩
  · rw [if_neg hme] at r
    subst r
    refine ⟨rfl, rfl, canset_blk raw3 rfl, fun h4 s4 => ?_⟩
    have raw4 : CaRaw h4 ab ⟨F.fb, who, o, .nilFunc, none, 0, 0, none, 0, 0, 0, 0, none, none⟩ := s4.put raw3
    repeat (first | refine ⟨_, cell_blk (raw4) rfl, ?_⟩)
    exact ⟨by rw [if_neg hme]; rfl, x03.stored s4 gab⟩
theorem r3FindX_spec {A : Option Addr} {c n : Nat} {l : List Vl} {vid : Int} (hr : Row encVl 3 h A l) (hl : l.length = n) (hn : n ≤ 1000000) : HCalls Tryz.prog 101 #[.slice A n c, .int .i64 vid] h (fun v h' => v = .int .i64 (findV vid l 0) ∧ h' = h) := by
  subst hl
  refine xcalls env0 Tryz.func101 rfl (by kernel_rfl) rfl (by kernel_rfl) ?_
  refine ⟨Nat, fun i => [(0, .slice A l.length c), (1, .int .i64 vid), (5, .int .i64 i)], fun i h' => (i ≤ l.length ∧ findV vid (l.drop i) i = findV vid l 0) ∧ h' = h, fun i => l.length - i, 0, ⟨rfl, rfl, rfl, trivial⟩, ⟨⟨Nat.zero_le _, rfl⟩, rfl⟩, ?_⟩
  rintro i h2 ⟨⟨hi, hf⟩, rfl⟩
  refine xif_of (fun hlt => ?_) (fun hge => ?_)
  · have hlt : (i : Int) < l.length := of_decide_eq_true hlt
    obtain ⟨v, hv⟩ : ∃ v, l[i]? = some v := ⟨l[i]'(by omega), List.getElem?_eq_getElem (by omega)⟩
    obtain ⟨a, hA, hrd⟩ := hr i v hv
    rw [findV_drop hv] at hf
    refine ⟨a, hA, by omega, hlt, _, hrd.get 0 rfl, ?_⟩
    refine xif_of (fun q => ?_) (fun q => ?_)
    · rw [if_pos (by simpa using q)] at hf
      exact ⟨congrArg (Value.int .i64) hf, rfl⟩
    · rw [if_neg (by simpa using q)] at hf
      exact ⟨i + 1, ⟨rfl, rfl, slot_inc (by omega), trivial⟩, ⟨⟨by omega, hf⟩, rfl⟩, by show l.length - (i + 1) < l.length - i; omega⟩
  · have hge : ¬ (i : Int) < l.length := of_decide_eq_false hge
    rw [List.drop_eq_nil_of_le (by omega)] at hf
    exact ⟨congrArg (Value.int .i64) hf, rfl⟩
theorem r19May_spec {A B : Option Addr} {na ca nb cb : Nat} {rules : List Ru} {vls : List Vl} {s : Sz} {tries ring normal short : Int} (hrb : Row encVl 3 h B F.vls) (hlb : F.vls.length = nb) (hn2 : nb ≤ 1000000) (w : KeyWf o.kvid o.mac) :
    HCalls Tryz.prog 51 #[.agg (planV F.P (.slice A na ca) (.slice B nb cb) s tries ring normal short).toArray, .int .i64 who, .agg (encO17 o).toArray] h (fun v h' => v = .bool (mayC F who o) ∧ Ext h h') := by
  refine xcalls env_r19May Tryz.func51 rfl (by kernel_rfl) rfl (by kernel_rfl) ?_
  intro ib h1 n1 ob h2 n2
  have hob : h2[ob]? = some (.cells (encO17 o).toArray 58 (0, 0)) := n2.this
  have hib : h2[ib]? = some (.cells (planV F.P (.slice A na ca) (.slice B nb cb) s tries ring normal short).toArray 28 (0, 0)) := n2.ext.blk n1.this
  have x2 := n1.ext.trans n2.ext
  obtain ⟨pt, hpt⟩ : ∃ pt, (decide (0 ≤ o.port) && decide (o.port < (F.P : Int))) = pt := ⟨_, rfl⟩
  refine ⟨Unit, fun _ => [(1, .int .i64 who), (3, .pointer (some ⟨ib, 0, none⟩)), (5, .pointer (some ⟨ob, 0, none⟩)), (7, .bool pt)], fun _ h' => h' = h2, ?_, ?_⟩
  · repeat (first | refine ⟨_, cell_blk (hob) rfl, ?_⟩)
    refine xif_of (fun g => ?_) (fun g => ?_)
    · have g : decide (0 ≤ o.port) = true := g
      repeat (first | refine ⟨_, cell_blk (hob) rfl, ?_⟩ | refine ⟨_, cell_blk (hib) rfl, ?_⟩)
      exact ⟨(), ⟨rfl, rfl, rfl, by rw [← hpt, g, Bool.true_and]; rfl, trivial⟩, rfl⟩
    · have g : decide (0 ≤ o.port) = false := g
      exact ⟨(), ⟨rfl, rfl, rfl, by rw [← hpt, g, Bool.false_and]; rfl, trivial⟩, rfl⟩
  rintro _ h3 rfl
  unfold mayC
  refine xif_of (fun g => ?_) (fun g => ?_)
  · have g : who < 0 := of_decide_eq_true g
    rw [if_pos g]
    exact ⟨rfl, x2⟩
  have g : ¬ who < 0 := of_decide_eq_false g
  rw [if_neg g]
  repeat (first | refine ⟨_, cell_blk (hob) rfl, ?_⟩)
  refine xif_of (fun k => ?_) (fun k => ?_)
  · have k : o.kind = 4 := by simpa using k
    rw [if_neg (by omega), if_neg (by omega)]
    unfold mayE
    rw [if_pos k, hpt]
    refine ⟨[.int .i64 o.kvid, .int .u64 o.mac], rfl, reads_at hob rfl, ?_⟩
    refine (rRight_spec w _).mono ?_
    rintro v h4 ⟨rfl, x4⟩
    cases hk : keyOk o.kvid o.mac
    · exact ⟨by rw [Bool.and_false]; rfl, x2.trans x4⟩
    · exact ⟨by rw [Bool.and_true]; rfl, x2.trans x4⟩
  have k4 : o.kind ≠ 4 := by simpa using k
  refine xif_of (fun k => ?_) (fun k => ?_)
  · have k : o.kind = 5 := by simpa using k
    rw [if_neg (by omega), if_neg (by omega)]
    unfold mayE
    rw [if_neg k4, if_pos k]
    refine ⟨[.int .i64 o.kvid, .int .u64 o.mac], rfl, reads_at hob rfl, ?_⟩
    refine (rRight_spec w _).mono ?_
    rintro v h4 ⟨rfl, x4⟩
    exact ⟨rfl, x2.trans x4⟩
  have k5 : o.kind ≠ 5 := by simpa using k
  refine xif_of (fun k => ?_) (fun k => ?_)
  · have k : o.kind = 7 := by simpa using k
    rw [if_neg (by omega), if_neg (by omega)]
    unfold mayE
    rw [if_neg k4, if_neg k5, decide_eq_true k]
    exact ⟨rfl, x2⟩
  have k7 : o.kind ≠ 7 := by simpa using k
  refine xif_of (fun k => ?_) (fun k => ?_)
  · have k : o.kind = 8 := by simpa using k
    rw [if_pos k, hpt]
    cases pt
    · exact ⟨rfl, x2⟩
    · repeat (first | refine ⟨_, cell_blk (hob) rfl, ?_⟩)
      refine (r16Right_spec o.state).mono ?_
      rintro v h4 ⟨rfl, rfl⟩
      exact ⟨by rw [Bool.true_and]; rfl, x2⟩
  have k8 : o.kind ≠ 8 := by simpa using k
  rw [if_neg k8]
  refine xif_of (fun k => ?_) (fun k => ?_)
  · have k : o.kind = 9 := by simpa using k
    rw [if_pos k]
    repeat (first | refine ⟨_, cell_blk (hib) rfl, ?_⟩ | refine ⟨_, cell_blk (hob) rfl, ?_⟩)
    refine (r3FindX_spec (x2.row hrb) hlb hn2).mono ?_
    rintro v h4 ⟨rfl, rfl⟩
    exact ⟨rfl, x2⟩
  · have k9 : o.kind ≠ 9 := by simpa using k
    rw [if_neg k9]
    unfold mayE
    rw [if_neg k4, if_neg k5, decide_eq_false k7]
    exact ⟨rfl, x2⟩
end
end Go.Proofs.YthoikbogkhpciaaGreatE
