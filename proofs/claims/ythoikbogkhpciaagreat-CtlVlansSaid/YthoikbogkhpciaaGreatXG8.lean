/- CtlVlans: whatever VLANs were set to, read one by one, they are what was set last, of the plan's ports. Conditions: the arguments are of their types. -/
import Derived.Test.YthoikbogkhpciaaGreatXG7
set_option linter.unusedVariables false
set_option linter.unusedSimpArgs false
set_option maxRecDepth 100000
namespace Go.Proofs.YthoikbogkhpciaaGreatE
open Go Go.Proofs
def env_lVlans : Nat → Ann
  | 8 => ⟨.op 0 [] <| .op 1 [] <| .op 2 [] <| .op 3 [] <| .op 4 [] <| .op 5 [] <| .op 6 [] <| .op 7 [] <| .op 8 [] <| .op 9 [] <| .op 10 [] <| .nil, [0, 1, 0, 0, 8, 24, 60, 127, 255, 511, 1023], false⟩
  | 9 => ⟨.op 0 [] <| .op 1 [] <| .op 2 [] <| .op 3 [] <| .op 4 [] <| .op 5 [] <| .op 6 [] <| .op 7 [] <| .op 8 [] <| .op 9 [] <| .op 10 [] <| .op 11 [] <| .op 12 [] <| .op 13 [] <| .op 14 [] <| .op 15 [] <| .nil, [0, 0, 0, 0, 12, 28, 60, 0, 0, 384, 896, 1920, 4094, 8190, 16383, 32767], false⟩
  | 17 => ⟨.nil, [], true⟩
  | _ => ⟨.nil, [], false⟩
def encU2 (x : Int × Int) : List Value := [.int .u64 x.1, .int .u64 x.2]
theorem encU2_len (x : Int × Int) : (encU2 x).length = 2 := rfl
theorem lVlans_spec {h : Heap} {A B C : Option Addr} {na ca nb cb no co : Nat} {rules : List Ru} {vls : List Vl} {sets : List (Int × Int)} {P tries ring normal short : Int} {s : Sz}
    (hra : Row encRu 2 h A rules) (hla : rules.length = na) (hrb : Row encVl 3 h B vls) (hlb : vls.length = nb) (hro : Row encU2 2 h C sets) (hlo : sets.length = no) (wf : ∀ v ∈ vls, SetWf v.mem ∧ SetWf v.unt) (ws : ∀ y ∈ sets, SetWf y.1 ∧ SetWf y.2) :
    HCalls Tryz.prog 6 #[.agg (planV P (.slice A na ca) (.slice B nb cb) s tries ring normal short).toArray, .slice C no co] h (fun v h' => v = .bool true ∧ Ext h h') := by
  subst hlo
  refine xcalls env_lVlans Tryz.func6 rfl (by kernel_rfl) rfl (by kernel_rfl) ?_
  intro ib h1 n1
  refine ⟨_, rfl, reads_all n1.this, ?_⟩
  refine (rPFix_spec (n1.ext.row hra) hla (n1.ext.row hrb) hlb wf).mono ?_
  rintro v h2 ⟨A1, c1, B1, d1, rfl, oR, oV, x2⟩
  have oR : OwnA encRu 2 _ h1.size h2 A1 c1 (fixRules P rules) := oR
  have oV : OwnA encVl 3 _ h1.size h2 B1 d1 (fixVlans P vls) := oV
  have hib2 := x2.blk n1.this
  refine ⟨rfl, rfl, canset_blk hib2 rfl, fun h3 s3 => ?_⟩
  have hib : h3[ib]? = some (.cells (planV (fixPorts P) (.slice A1 (fixPorts P).toNat c1) (.slice B1 (fixVlans P vls).length d1) (fixSz s) (fixTries tries) (fixRing ring) normal short).toArray 28 (0, 0)) := s3.put hib2
  have x3 : Ext h h3 := (n1.ext.trans x2).stored s3 (n1.ge (Ext.refl _))
  have c3 : Chg [(ib, 28)] h2 h3 := s3.chg hib2 (.head _)
  have oR3 := oR.chg c3 (fun b _ => by simp)
  have oV3 := oV.chg c3 (fun b _ => by simp)
  refine ⟨_, rfl, reads_all hib, ?_⟩
  refine (lMake_fix2 (oR3.row encRu_len) (oV3.row encVl_len) wf).mono ?_
  rintro v h4 ⟨F, M, rfl, eP, eS, p8, Fr0, eV⟩
  have Fr := Fr0.mono x3
  have x34 := Fr0.ext
  have p1 := Fr.fab.p1
  have Mt := Fr.t
  refine told19_spec.mono ?_
  rintro v h5 ⟨rfl, x5⟩
  have x35 := x34.trans x5
  have hib5 := x35.blk hib
  have Fr5 := Fr.of_ext x5
  have vl8 := fixVlans_len P vls
  have hbv := Fr.bv
  have hbl := Fr.len
  rw [eV] at hbv
  refine ⟨Nat, fun i => [(1, .slice C sets.length co), (2, .pointer (some ⟨ib, 0, none⟩)), (5, .pointer (some ⟨F.fb, 0, none⟩)), (6, .int .i64 i)],
    fun i h' => i ≤ 12 ∧ ∃ M', ChgT h.size TyC h5 h' ∧ FabAt h' F ∧ MemAt h' F.mb F.cb F.lb M' ∧ (∀ p, p < F.P → M'.locks[p]? = some (-1)) ∧ M'.cells.length = M.cells.length ∧ M'.t ≤ 20000 + 1000 * i, fun i => 12 - i, 0, ⟨rfl, rfl, rfl, rfl, trivial⟩, ⟨by omega, M, ChgT.refl _, Fr5.fab, Fr5.mem, Fr.locks, rfl, by omega⟩, ?_⟩
  rintro i h6 ⟨hi12, M', c6, fab, mem, hlk, hcl, hT⟩
  have x6 : Ext h h6 := c6.ext Fr5.ext
  have hib6 := c6.typ _ _ _ _ hib5 (by decide)
  have oR6 := (oR3.ext x35).chgT c6 (by decide)
  have oV6 := (oV3.ext x35).chgT c6 (by decide)
  refine xif_of (fun q1 => ?_) (fun q1 => ?_)
  · have q1 : (i : Int) < (sets.length : Int) := of_decide_eq_true q1
    refine xif_of (fun q2 => ?_) (fun q2 => ?_)
    · have q2 : (i : Int) < 12 := of_decide_eq_true q2
      repeat (first | refine ⟨_, cell_blk (hib6) rfl, ?_⟩)
      refine xif_of (fun q3 => ?_) (fun q3 => ?_)
      · have q3 : ((fixVlans P vls).length : Int) > 0 := of_decide_eq_true q3
        obtain ⟨L, hL⟩ : ∃ L, (fixVlans P vls).length = L := ⟨_, rfl⟩
        obtain ⟨y, hy⟩ : ∃ y, sets[i]? = some y := ⟨sets[i]'(by omega), List.getElem?_eq_getElem (by omega)⟩
        obtain ⟨a, ha, hrd⟩ := (x6.row hro) i y hy
        have hm : i % (fixVlans P vls).length < (fixVlans P vls).length := Nat.mod_lt _ (by omega)
        obtain ⟨w, hw⟩ : ∃ w, (fixVlans P vls)[i % (fixVlans P vls).length]? = some w := ⟨_, List.getElem?_eq_getElem hm⟩
        obtain ⟨av, hav, hrv⟩ := (oV6.row encVl_len) _ w hw
        repeat (first | refine ⟨_, cell_blk (hib6) rfl, ?_⟩)
        have htm : ((i : Int)).tmod ((fixVlans P vls).length : Int) = ((i % (fixVlans P vls).length : Nat) : Int) := by rw [Int.tmod_eq_emod_of_nonneg (by omega), ← Int.natCast_emod]
        have r0 : cell h6 ((av.add ((((i : Int)).tmod ((fixVlans P vls).length : Int)).toNat * 3)).add 0) = some (.int .i64 w.vid) := by
          rw [htm, Int.toNat_natCast]; exact hrv.get 0 rfl
        refine ⟨by omega, av, hav, by rw [htm]; omega, by rw [htm]; omega, _, r0, ?_⟩
        have e0 : cell h6 ((a.add (i * 2)).add 0) = some (.int .u64 y.1) := hrd.get 0 rfl
        have e1 : cell h6 ((a.add (i * 2)).add 1) = some (.int .u64 y.2) := hrd.get 1 rfl
        obtain ⟨wm, wu⟩ := ws y (List.mem_of_getElem? hy)
        obtain ⟨j, hj, hjl⟩ : ∃ j : Nat, findV w.vid F.vls 0 = (j : Int) ∧ j < F.vls.length := by
          have hne := findV_mem (vid := w.vid) F.vls 0 ⟨w, by rw [eV]; exact List.mem_of_getElem? hw, rfl⟩
          rcases findV_range (vid := w.vid) F.vls 0 with h0 | ⟨h0, h1⟩
          · exact absurd h0 hne
          · exact ⟨(findV w.vid F.vls 0).toNat, by omega, by omega⟩
        have hjb : F.P + 2 * j + 1 < M'.cells.length := by rw [hcl]; rw [eV] at hjl; omega
        refine ⟨a, ha, Int.natCast_nonneg i, q1, by decide, by decide, _, e0, ?_⟩
        refine ⟨a, ha, Int.natCast_nonneg i, q1, by decide, by decide, _, e1, ?_⟩
        refine (l17Op_spec ⟨9, 0, 0, w.vid, 0, 0, 0, y.1, y.2, 0, 0, 0, 0, 0⟩).mono ?_
        rintro v h7 ⟨rfl, x7⟩
        refine (cCommand_vlan (B := h.size) (who := 2) (o := ⟨9, 0, 0, w.vid, 0, 0, 0, y.1, y.2, 0, 0, 0, 0, 0⟩) (fab.ext x7) (mem.ext x7) Fr.g1 Fr.g2 Fr.g3 (x6.trans x7).size (by decide) rfl hj (by omega)).mono ?_
        rintro v h8 ⟨ab, x, rfl, S, xo, xw, xh, xn, x8⟩
        have x68 := x7.trans x8
        have hib8 := x68.blk hib6
        refine ⟨_, rfl, reads_all hib8, ?_⟩
        refine (rBound19_spec ((oR6.ext x68).row encRu_len) ((oV6.ext x68).row encVl_len) wf).mono ?_
        rintro v h9 ⟨most, m1, m2, rfl, x9⟩
        have Q0 : SetV h9 h.size F ab M' ⟨9, 0, 0, w.vid, 0, 0, 0, y.1, y.2, 0, 0, 0, 0, 0⟩ 2 j 0 h9 :=
          ⟨ChgT.refl _, x, M', _, S.ext x9, xo, xw, rfl, rfl, fun p hp => by rw [hlk p hp, if_neg (by omega)], .inl ⟨Nat.zero_le _, xh, rfl, by rw [xn, if_pos (by omega)]⟩⟩
        have over : ∀ g, SetV h9 h.size F ab M' ⟨9, 0, 0, w.vid, 0, 0, 0, y.1, y.2, 0, 0, 0, 0, 0⟩ 2 j (2 * F.P + 2) g → ∃ x M2 E, ChgT h.size TyC h9 g ∧ CaS g h.size F ab x (List.range F.P) M2 E ∧ x.next = .nilFunc ∧ E.ans = 1 ∧ M2.t = M'.t + (2 * F.P + 2) ∧ (∀ p, p < F.P → M2.locks[p]? = some (-1)) ∧ M2.cells = (M'.cells.set (F.P + 2 * j + 1) (andM y.2 (andM y.1 (allM F.P)))).set (F.P + 2 * j) (andM y.1 (allM F.P)) := by
          rintro g ⟨cg, x, M2, E, Sg, _, _, hTg, _, hlg, H⟩
          rcases H with ⟨hk, _⟩ | ⟨hk, _⟩ | ⟨hE, hcs, j', hk, hj', hh, hn⟩
          · omega
          · omega
          · have : j' = F.P := by omega
            subst this
            exact ⟨x, M2, E, cg, Sg, by rw [hn, if_neg (Nat.lt_irrefl _)], hE, hTg, fun p hp => by rw [hlg p hp, if_neg (by omega)], hcs⟩
        refine (lFinish_spec (n := 2 * F.P + 2) (by omega) (by omega) m2 Q0 (fun k hk g Q => setV_step (by decide) rfl hj hjl wm wu hjb (by omega) hk Q) (fun g Q => ?_)).mono ?_
        · obtain ⟨x, M2, E, _, Sg, hn, _⟩ := over g Q
          exact aOver_nil Sg.raw hn
        rintro v h10 ⟨rfl, Q10⟩
        obtain ⟨x, M2, E, c10, S10, hn10, hE, hT2, hl2, hcs2⟩ := over h10 Q10
        refine (aAnswer_spec S10 hn10).mono ?_
        rintro v h11 ⟨rfl, rfl⟩
        rw [hE]
        have hA : M2.cells[F.P + 2 * j]? = some (andM y.1 (allM F.P)) := by rw [hcs2]; exact List.getElem?_set_self (by rw [List.length_set]; omega)
        have hB' : M2.cells[F.P + 2 * j + 1]? = some (andM y.2 (andM y.1 (allM F.P))) := by rw [hcs2, List.getElem?_set_ne (by omega)]; exact List.getElem?_set_self hjb
        refine (cMembers_spec S10.fab S10.mem hj (by have := S10.fab.v1; omega) hA (by omega)).mono ?_
        rintro v h12 ⟨rfl, m12, c12⟩
        have S12 := S10.memory c12 m12
        refine (cUntagged_spec S12.fab S12.mem hj (by have := S12.fab.v1; omega) hB' (by show M2.t + 1 < 1000000; omega)).mono ?_
        rintro v h13 ⟨rfl, m13, c13⟩
        have S13 := S12.memory c13 m13
        have c6all : ChgT h.size TyC h5 h13 := (((c6.trans (x68.chgT x6.size)).trans (x9.chgT (x6.trans x68).size)).trans c10).trans ((S10.frM c12).trans (S12.frM c13))
        have x13 : Ext h h13 := c6all.ext Fr5.ext
        have hib13 := c6all.typ _ _ _ _ hib5 (by decide)
        obtain ⟨a2, ha2, hrd2⟩ := (x13.row hro) i y hy
        rw [ha] at ha2
        cases ha2
        have f0 : cell h13 ((a.add (i * 2)).add 0) = some (.int .u64 y.1) := hrd2.get 0 rfl
        have f1 : cell h13 ((a.add (i * 2)).add 1) = some (.int .u64 y.2) := hrd2.get 1 rfl
        have wall := allM_wf (F.P : Int)
        have wA := andM_wf (b := allM F.P) wm
        have wB := andM_wf (b := andM y.1 (allM F.P)) wu
        refine ⟨Nat, fun q => [(1, .slice C sets.length co), (2, .pointer (some ⟨ib, 0, none⟩)), (5, .pointer (some ⟨F.fb, 0, none⟩)), (6, .int .i64 i), (9, .int .u64 (andM y.1 (allM F.P))), (10, .int .u64 (andM y.2 (andM y.1 (allM F.P)))), (11, .int .i64 q)],
          fun q h' => q ≤ 64 ∧ h' = h13, fun q => 64 - q, 0, ⟨rfl, rfl, rfl, rfl, rfl, rfl, rfl, trivial⟩, ⟨by omega, rfl⟩, ?_⟩
        rintro q h14 ⟨hq, rfl⟩
        refine xif_of (fun g => ?_) (fun g => ?_)
        · have g : (q : Int) < 64 := of_decide_eq_true g
          have hA2 : hasM (andM y.1 (allM F.P)) q = (decide (q < F.P) && hasM y.1 q) := by rw [hasM_and wm wall, hasM_all (by omega), Bool.and_comm]
          have hB2 : hasM (andM y.2 (andM y.1 (allM F.P))) q = ((decide (q < F.P) && hasM y.1 q) && hasM y.2 q) := by rw [hasM_and wu wA, hA2, Bool.and_comm]
          refine ⟨Unit, fun _ => [(1, .slice C sets.length co), (2, .pointer (some ⟨ib, 0, none⟩)), (5, .pointer (some ⟨F.fb, 0, none⟩)), (6, .int .i64 i), (9, .int .u64 (andM y.1 (allM F.P))), (10, .int .u64 (andM y.2 (andM y.1 (allM F.P)))), (11, .int .i64 q), (12, .bool (decide (q < F.P) && hasM y.1 q))], fun _ h' => h' = h14, ?_, ?_⟩
          · repeat (first | refine ⟨_, cell_blk (hib13) rfl, ?_⟩)
            rw [eP]
            refine xif_of (fun g2 => ?_) (fun g2 => ?_)
            · have g2 : (q : Int) < (F.P : Int) := of_decide_eq_true g2
              refine ⟨a, ha, Int.natCast_nonneg i, q1, by decide, by decide, _, f0, ?_⟩
              refine (r3Has_spec wm).mono ?_
              rintro v h15 ⟨rfl, rfl⟩
              refine ⟨(), ⟨rfl, rfl, rfl, rfl, rfl, rfl, rfl, ?_, trivial⟩, rfl⟩
              rw [decide_eq_true (show q < F.P by omega), Bool.true_and]
              rfl
            · have g2 : ¬ (q : Int) < (F.P : Int) := of_decide_eq_false g2
              refine ⟨(), ⟨rfl, rfl, rfl, rfl, rfl, rfl, rfl, ?_, trivial⟩, rfl⟩
              rw [decide_eq_false (show ¬ q < F.P by omega), Bool.false_and]
              rfl
          rintro _ h15 rfl
          refine (r3Has_spec wA).mono ?_
          rintro v h16 ⟨rfl, rfl⟩
          rw [hA2]
          refine xif_false (by simp) ?_
          refine (r3Has_spec wB).mono ?_
          rintro v h17 ⟨rfl, rfl⟩
          rw [hB2]
          refine xif_of (fun g2 => ?_) (fun g2 => ?_)
          · have g2 : (decide (q < F.P) && hasM y.1 q) = true := g2
            refine ⟨a, ha, Int.natCast_nonneg i, q1, by decide, by decide, _, f1, ?_⟩
            refine (r3Has_spec wu).mono ?_
            rintro v h18 ⟨rfl, rfl⟩
            refine xif_false (by rw [g2]; simp) ?_
            exact ⟨q + 1, ⟨rfl, rfl, rfl, rfl, rfl, rfl, slot_inc (by omega), trivial⟩, ⟨by omega, rfl⟩, by show 64 - (q + 1) < 64 - q; omega⟩
          · have g2 : (decide (q < F.P) && hasM y.1 q) = false := g2
            refine xif_false (by rw [g2]; simp) ?_
            exact ⟨q + 1, ⟨rfl, rfl, rfl, rfl, rfl, rfl, slot_inc (by omega), trivial⟩, ⟨by omega, rfl⟩, by show 64 - (q + 1) < 64 - q; omega⟩
        · refine ⟨i + 1, ⟨rfl, rfl, rfl, slot_inc (by omega), trivial⟩, ⟨by omega, _, c6all, S13.fab, S13.mem, hl2, ?_, ?_⟩, by show 12 - (i + 1) < 12 - i; omega⟩
          · show M2.cells.length = M.cells.length
            rw [hcs2, List.length_set, List.length_set]
            exact hcl
          · show M2.t + 1 + 1 ≤ 20000 + 1000 * (i + 1)
            omega
      · exact ⟨rfl, x6⟩
    · exact ⟨rfl, x6⟩
  · exact ⟨rfl, x6⟩
end Go.Proofs.YthoikbogkhpciaaGreatE
