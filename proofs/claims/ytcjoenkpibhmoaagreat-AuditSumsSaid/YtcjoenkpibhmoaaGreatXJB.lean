/- What the law of layer 23 tells of three reports: yes. Conditions: none. -/
import Derived.Test.YtcjoenkpibhmoaaGreatXJA
set_option linter.unusedVariables false
set_option linter.unusedSimpArgs false
set_option maxRecDepth 100000
namespace Go.Proofs.YtcjoenkpibhmoaaGreatE
open Go Go.Proofs
def env_told23 : Nat → Ann
  | 2 => ⟨.op 0 [] <| .alt (.op 1 [0] <| .alt (.op 2 [0] <| .alt (.op 3 [0] <| .op 4 [] <| .op 5 [0] <| .op 6 [] <| .nil) (.op 5 [0] <| .op 3 [0] <| .op 4 [] <| .op 6 [] <| .nil)) (.op 5 [0] <| .op 2 [0] <| .op 3 [0] <| .op 4 [] <| .op 6 [] <| .nil)) (.alt (.op 2 [0] <| .alt (.op 1 [0] <| .alt (.op 3 [0] <| .op 4 [] <| .op 5 [0] <| .op 6 [] <| .nil) (.op 5 [0] <| .op 3 [0] <| .op 4 [] <| .op 6 [] <| .nil)) (.op 5 [0] <| .op 1 [0] <| .op 3 [0] <| .op 4 [] <| .op 6 [] <| .nil)) (.op 5 [0] <| .alt (.op 1 [0] <| .op 2 [0] <| .op 3 [0] <| .op 4 [] <| .op 6 [] <| .nil) (.op 2 [0] <| .op 1 [0] <| .op 3 [0] <| .op 4 [] <| .op 6 [] <| .nil))), [0, 0, 0, 6, 15, 0, 63], false⟩
  | 3 => ⟨.nil, [], true⟩
  | _ => ⟨.nil, [], false⟩
theorem own_ok {base : Nat} {h h0 : Heap} {r r' : Rp} (H : RpOwn base h r') (e : era r' = era r) (R : RpOk h0 r) : RpOk h r' := by
  have e1 : r'.log = r.log := (congrArg Rp.log e : (era r').log = (era r).log)
  have e2 : r'.ln = r.ln := (congrArg Rp.ln e : (era r').ln = (era r).ln)
  have e3 : r'.cn = r.cn := (congrArg Rp.cn e : (era r').cn = (era r).cn)
  have e4 : r'.dn = r.dn := (congrArg Rp.dn e : (era r').dn = (era r).dn)
  have e5 : r'.on = r.on := (congrArg Rp.on e : (era r').on = (era r).on)
  have e6 : r'.kn = r.kn := (congrArg Rp.kn e : (era r').kn = (era r).kn)
  have e7 : r'.came.map eraC = r.came.map eraC := (congrArg Rp.came e : (era r').came = (era r).came)
  have e8 : r'.don.map eraD = r.don.map eraD := (congrArg Rp.don e : (era r').don = (era r).don)
  have e9 : r'.outs.map eraO = r.outs.map eraO := (congrArg Rp.outs e : (era r').outs = (era r).outs)
  have e10 : r'.cnts.map eraR = r.cnts.map eraR := (congrArg Rp.cnts e : (era r').cnts = (era r).cnts)
  have l7 := congrArg List.length e7
  have l8 := congrArg List.length e8
  have l9 := congrArg List.length e9
  have l10 := congrArg List.length e10
  rw [List.length_map, List.length_map] at l7 l8 l9 l10
  refine ⟨H.log.row encHe_len, by rw [e1, e2]; exact R.logl, by rw [e2]; have := H.log.le; rw [e1, R.logl] at this; exact this, by rw [e2]; exact R.logs, H.came.row encCm_len, by rw [l7, e3]; exact R.camel, by rw [e3]; exact R.cames, ?_,
    H.don.row encDn_len, by rw [l8, e4]; exact R.donl, by rw [e4]; exact R.dons, H.outs.row encOt_len, by rw [l9, e5]; exact R.outsl, by have := H.outs.le; rw [l9, R.outsl] at this; rw [e5]; exact this, by rw [e5]; exact R.outss, ?_,
    H.cnts.row encCr_len, by rw [l10, e6]; exact R.cntsl, by rw [e6]; exact R.cntss, ?_⟩
  · intro x hx
    have hm : eraC x ∈ r.came.map eraC := by rw [← e7]; exact List.mem_map_of_mem hx
    obtain ⟨y, hy, hxy⟩ := List.mem_map.1 hm
    have b := R.cameb y hy
    have k1 : y.n = x.n := (congrArg Cm.n hxy : (eraC y).n = (eraC x).n)
    have k2 : y.bs = x.bs := (congrArg Cm.bs hxy : (eraC y).bs = (eraC x).bs)
    have o := H.cameb x hx
    have ol := o.le
    have bl := b.len
    rw [k1, k2] at bl
    exact ⟨o.row encU8_len, bl, by omega, by rw [← k1]; exact b.few, by rw [← k2]; exact b.byte⟩
  · intro x hx
    have hm : eraO x ∈ r.outs.map eraO := by rw [← e9]; exact List.mem_map_of_mem hx
    obtain ⟨y, hy, hxy⟩ := List.mem_map.1 hm
    have b := R.outsb y hy
    have k1 : y.n = x.n := (congrArg Ot.n hxy : (eraO y).n = (eraO x).n)
    have k2 : y.bs = x.bs := (congrArg Ot.bs hxy : (eraO y).bs = (eraO x).bs)
    have o := H.outsb x hx
    have ol := o.le
    have bl := b.len
    rw [k1, k2] at bl
    exact ⟨o.row encU8_len, bl, by omega, by rw [← k1]; exact b.few, by rw [← k2]; exact b.byte⟩
  · intro x hx
    have hm : eraR x ∈ r.cnts.map eraR := by rw [← e10]; exact List.mem_map_of_mem hx
    obtain ⟨y, hy, hxy⟩ := List.mem_map.1 hm
    have b := R.cntsr y hy
    have k1 : y.n = x.n := (congrArg Cr.n hxy : (eraR y).n = (eraR x).n)
    have k2 : y.l = x.l := (congrArg Cr.l hxy : (eraR y).l = (eraR x).l)
    exact ⟨(H.cntsb x hx).row encCn_len, by rw [← k1, ← k2]; exact b.len⟩
/-- What a report that was made so is judged. -/
theorem aJudge_made {base : Nat} {h h0 : Heap} {r r' : Rp} {q : Qp} (H : RpOwn base h r') (L : PlOwn base h r' q) (e : era r' = era r) (R : RpOk h0 r) (wf : ∀ v ∈ q.vls, SetWf v.mem ∧ SetWf v.unt) (wo : ∀ e ∈ r.log, e.op.Wf) :
    HCalls Tryz.prog 8 #[.agg (encRp r').toArray] h (fun v h' => ∃ w, v = .string (wordS (judgeM r w)) ∧ HistW (fixPl q.P q.s q.tries q.ring q.normal q.short) (newM (fixPl q.P q.s q.tries q.ring q.normal q.short) (fixVlans q.P q.vls)) r.log w ∧ Ext h h') := by
  obtain ⟨A, ca, B, cb, hp, oA, oB⟩ := L
  have e1 : r'.log = r.log := (congrArg Rp.log e : (era r').log = (era r).log)
  refine (aJudge_spec (own_ok H e R) oA oB rfl rfl wf hp (by rw [e1]; exact wo)).mono ?_
  rintro v h' ⟨w, rfl, hist, x⟩
  rw [judge_same e w]
  rw [e1] at hist
  exact ⟨w, rfl, hist, x⟩
section
variable {h : Heap}
def toldQ : Qp := ⟨0, [], [], ⟨0, 0, 0⟩, 0, 0, 0, 0⟩
def rpT (A : Option Addr) (ca : Nat) (B : Option Addr) (cb bA bB kb : Nat) : Rp := rpW toldQ A ca B cb none 0 0 [] none 0 0 [] none 0 0 [] none 0 0 [] (some ⟨kb, 0, none⟩) 2 2 [⟨some ⟨bA, 0, none⟩, 2, 2, [cn0, cn0]⟩, ⟨some ⟨bB, 0, none⟩, 2, 2, [cn0, cn0]⟩]
set_option maxHeartbeats 4000000 in
theorem told23_spec : HCalls Tryz.prog 5 #[] h (fun v h' => v = .bool true ∧ Ext h h') := by
  refine xcalls env_told23 Tryz.func5 rfl (by kernel_rfl) rfl (by kernel_rfl) ?_
  have wf : ∀ v ∈ ([] : List Vl), SetWf v.mem ∧ SetWf v.unt := fun v hv => by cases hv
  refine (rPFix_spec (rules := []) (vls := []) (s := ⟨0, 0, 0⟩) (P := 0) (tries := 0) (ring := 0) (normal := 0) (short := 0) (A := none) (B := none) (ca := 0) (cb := 0) Row.nil rfl Row.nil rfl wf).mono ?_
  rintro v h1 ⟨A, ca, B, cb, rfl, oR, oV, x1⟩
  have oR : OwnA encRu 2 _ h.size h1 A ca (fixRules 0 []) := oR
  have oV : OwnA encVl 3 _ h.size h1 B cb (fixVlans 0 []) := oV
  intro pb h2 n2
  refine ⟨rfl, rfl, canset_blk n2.this rfl, fun h3 s3 => ?_⟩
  have hpb : h3[pb]? = some (.cells (toldQ.val A ca B cb).toArray 28 (0, 0)) := n2.fill rfl s3
  have x13 : Ext h1 h3 := n2.ext.stored s3 (n2.ge (Ext.refl _))
  have x3 := x1.trans x13
  have rp : ∀ g, Ext h3 g → Reads g ⟨pb, 0, none⟩ (toldQ.val A ca B cb) := fun g x => reads_all (x.blk hpb)
  have e0 : encRp (rpT A ca B cb 0 0 0) = encRp (rpT A ca B cb 0 0 0) := rfl
  refine ⟨Nat × Nat × Nat × Nat, fun z => [(2, .pointer (some ⟨z.1, 0, none⟩))], fun z h' => h'[z.1]? = some (.cells (encRp (rpT A ca B cb z.2.1 z.2.2.1 z.2.2.2)).toArray 35 (0, 0)) ∧ h'[z.2.1]? = some (.cells ([cn0, cn0].flatMap encCn ++ []).toArray 58 (0, 0)) ∧ h'[z.2.2.1]? = some (.cells ([cn0, cn0].flatMap encCn ++ []).toArray 58 (0, 0)) ∧
    h'[z.2.2.2]? = some (.cells (([⟨some ⟨z.2.1, 0, none⟩, 2, 2, [cn0, cn0]⟩, ⟨some ⟨z.2.2.1, 0, none⟩, 2, 2, [cn0, cn0]⟩] : List Cr).flatMap encCr ++ []).toArray 36 (0, 0)) ∧ Ext h3 h' ∧ h3.size ≤ z.1, ?_, ?_⟩
  · refine ⟨_, rfl, rp _ (Ext.refl _), ?_, ?_⟩
    · refine ⟨by decide, by decide, by decide, by decide, ?_⟩
      intro bA g1 m1
      have y1 : Ext h3 g1 := m1.ext
      refine ⟨⟨rp _ y1, trivial⟩, ?_, ?_⟩
      · refine ⟨by decide, by decide, by decide, by decide, ?_⟩
        intro bB g2 m2
        have y2 : Ext h3 g2 := y1.trans m2.ext
        refine ⟨⟨rp _ y2, trivial⟩, ?_, ?_⟩
        · intro kb g3 m3
          have y3 : Ext h3 g3 := y2.trans m3.ext
          refine ⟨⟨rp _ y3, trivial⟩, ?_⟩
          intro rb g4 m4
          have y4 : Ext h3 g4 := y3.trans m4.ext
          refine ⟨⟨rp _ y4, trivial⟩, ?_⟩
          have hR := m4.this
          refine ⟨rfl, rfl, canset_blk hR rfl, fun h5 s5 => ?_⟩
          have gR : h3.size ≤ rb := m4.ge y3
          have nA : bA ≠ rb := by have := m4.lt (m3.ext.blk (m2.ext.blk m1.this)); omega
          have nB : bB ≠ rb := by have := m4.lt (m3.ext.blk m2.this); omega
          have nK : kb ≠ rb := by have := m4.lt m3.this; omega
          exact ⟨(rb, bA, bB, kb), ⟨rfl, trivial⟩, s5.fill0 hR rfl, s5.blk (m4.ext.blk (m3.ext.blk (m2.ext.blk m1.this))) nA, s5.blk (m4.ext.blk (m3.ext.blk m2.this)) nB, s5.blk (m4.ext.blk m3.this) nK, y4.stored s5 gR, gR⟩
        · intro rb g3 m3
          have y3 : Ext h3 g3 := y2.trans m3.ext
          refine ⟨⟨rp _ y3, trivial⟩, ?_⟩
          intro kb g4 m4
          have y4 : Ext h3 g4 := y3.trans m4.ext
          refine ⟨⟨rp _ y4, trivial⟩, ?_⟩
          have hR := (m4.ext.blk m3.this)
          refine ⟨rfl, rfl, canset_blk hR rfl, fun h5 s5 => ?_⟩
          have gR : h3.size ≤ rb := m3.ge y2
          have nA : bA ≠ rb := by have := m3.lt (m2.ext.blk m1.this); omega
          have nB : bB ≠ rb := by have := m3.lt m2.this; omega
          have nK : kb ≠ rb := by have := m4.lt m3.this; omega
          exact ⟨(rb, bA, bB, kb), ⟨rfl, trivial⟩, s5.fill0 hR rfl, s5.blk (m4.ext.blk (m3.ext.blk (m2.ext.blk m1.this))) nA, s5.blk (m4.ext.blk (m3.ext.blk m2.this)) nB, s5.blk m4.this nK, y4.stored s5 gR, gR⟩
      · intro rb g2 m2
        have y2 : Ext h3 g2 := y1.trans m2.ext
        refine ⟨⟨rp _ y2, trivial⟩, ?_⟩
        refine ⟨by decide, by decide, by decide, by decide, ?_⟩
        intro bB g3 m3
        have y3 : Ext h3 g3 := y2.trans m3.ext
        refine ⟨⟨rp _ y3, trivial⟩, ?_⟩
        intro kb g4 m4
        have y4 : Ext h3 g4 := y3.trans m4.ext
        refine ⟨⟨rp _ y4, trivial⟩, ?_⟩
        have hR := (m4.ext.blk (m3.ext.blk m2.this))
        refine ⟨rfl, rfl, canset_blk hR rfl, fun h5 s5 => ?_⟩
        have gR : h3.size ≤ rb := m2.ge y1
        have nA : bA ≠ rb := by have := m2.lt m1.this; omega
        have nB : bB ≠ rb := by have := m3.lt m2.this; omega
        have nK : kb ≠ rb := by have := m4.lt (m3.ext.blk m2.this); omega
        exact ⟨(rb, bA, bB, kb), ⟨rfl, trivial⟩, s5.fill0 hR rfl, s5.blk (m4.ext.blk (m3.ext.blk (m2.ext.blk m1.this))) nA, s5.blk (m4.ext.blk m3.this) nB, s5.blk m4.this nK, y4.stored s5 gR, gR⟩
    · refine ⟨?_, ?_⟩
      · refine ⟨by decide, by decide, by decide, by decide, ?_⟩
        intro bB g1 m1
        have y1 : Ext h3 g1 := m1.ext
        refine ⟨⟨rp _ y1, trivial⟩, ?_, ?_⟩
        · refine ⟨by decide, by decide, by decide, by decide, ?_⟩
          intro bA g2 m2
          have y2 : Ext h3 g2 := y1.trans m2.ext
          refine ⟨⟨rp _ y2, trivial⟩, ?_, ?_⟩
          · intro kb g3 m3
            have y3 : Ext h3 g3 := y2.trans m3.ext
            refine ⟨⟨rp _ y3, trivial⟩, ?_⟩
            intro rb g4 m4
            have y4 : Ext h3 g4 := y3.trans m4.ext
            refine ⟨⟨rp _ y4, trivial⟩, ?_⟩
            have hR := m4.this
            refine ⟨rfl, rfl, canset_blk hR rfl, fun h5 s5 => ?_⟩
            have gR : h3.size ≤ rb := m4.ge y3
            have nA : bA ≠ rb := by have := m4.lt (m3.ext.blk m2.this); omega
            have nB : bB ≠ rb := by have := m4.lt (m3.ext.blk (m2.ext.blk m1.this)); omega
            have nK : kb ≠ rb := by have := m4.lt m3.this; omega
            exact ⟨(rb, bA, bB, kb), ⟨rfl, trivial⟩, s5.fill0 hR rfl, s5.blk (m4.ext.blk (m3.ext.blk m2.this)) nA, s5.blk (m4.ext.blk (m3.ext.blk (m2.ext.blk m1.this))) nB, s5.blk (m4.ext.blk m3.this) nK, y4.stored s5 gR, gR⟩
          · intro rb g3 m3
            have y3 : Ext h3 g3 := y2.trans m3.ext
            refine ⟨⟨rp _ y3, trivial⟩, ?_⟩
            intro kb g4 m4
            have y4 : Ext h3 g4 := y3.trans m4.ext
            refine ⟨⟨rp _ y4, trivial⟩, ?_⟩
            have hR := (m4.ext.blk m3.this)
            refine ⟨rfl, rfl, canset_blk hR rfl, fun h5 s5 => ?_⟩
            have gR : h3.size ≤ rb := m3.ge y2
            have nA : bA ≠ rb := by have := m3.lt m2.this; omega
            have nB : bB ≠ rb := by have := m3.lt (m2.ext.blk m1.this); omega
            have nK : kb ≠ rb := by have := m4.lt m3.this; omega
            exact ⟨(rb, bA, bB, kb), ⟨rfl, trivial⟩, s5.fill0 hR rfl, s5.blk (m4.ext.blk (m3.ext.blk m2.this)) nA, s5.blk (m4.ext.blk (m3.ext.blk (m2.ext.blk m1.this))) nB, s5.blk m4.this nK, y4.stored s5 gR, gR⟩
        · intro rb g2 m2
          have y2 : Ext h3 g2 := y1.trans m2.ext
          refine ⟨⟨rp _ y2, trivial⟩, ?_⟩
          refine ⟨by decide, by decide, by decide, by decide, ?_⟩
          intro bA g3 m3
          have y3 : Ext h3 g3 := y2.trans m3.ext
          refine ⟨⟨rp _ y3, trivial⟩, ?_⟩
          intro kb g4 m4
          have y4 : Ext h3 g4 := y3.trans m4.ext
          refine ⟨⟨rp _ y4, trivial⟩, ?_⟩
          have hR := (m4.ext.blk (m3.ext.blk m2.this))
          refine ⟨rfl, rfl, canset_blk hR rfl, fun h5 s5 => ?_⟩
          have gR : h3.size ≤ rb := m2.ge y1
          have nA : bA ≠ rb := by have := m3.lt m2.this; omega
          have nB : bB ≠ rb := by have := m2.lt m1.this; omega
          have nK : kb ≠ rb := by have := m4.lt (m3.ext.blk m2.this); omega
          exact ⟨(rb, bA, bB, kb), ⟨rfl, trivial⟩, s5.fill0 hR rfl, s5.blk (m4.ext.blk m3.this) nA, s5.blk (m4.ext.blk (m3.ext.blk (m2.ext.blk m1.this))) nB, s5.blk m4.this nK, y4.stored s5 gR, gR⟩
      · intro rb g1 m1
        have y1 : Ext h3 g1 := m1.ext
        refine ⟨⟨rp _ y1, trivial⟩, ?_, ?_⟩
        · refine ⟨by decide, by decide, by decide, by decide, ?_⟩
          intro bA g2 m2
          have y2 : Ext h3 g2 := y1.trans m2.ext
          refine ⟨⟨rp _ y2, trivial⟩, ?_⟩
          refine ⟨by decide, by decide, by decide, by decide, ?_⟩
          intro bB g3 m3
          have y3 : Ext h3 g3 := y2.trans m3.ext
          refine ⟨⟨rp _ y3, trivial⟩, ?_⟩
          intro kb g4 m4
          have y4 : Ext h3 g4 := y3.trans m4.ext
          refine ⟨⟨rp _ y4, trivial⟩, ?_⟩
          have hR := (m4.ext.blk (m3.ext.blk (m2.ext.blk m1.this)))
          refine ⟨rfl, rfl, canset_blk hR rfl, fun h5 s5 => ?_⟩
          have gR : h3.size ≤ rb := m1.ge (Ext.refl _)
          have nA : bA ≠ rb := by have := m2.lt m1.this; omega
          have nB : bB ≠ rb := by have := m3.lt (m2.ext.blk m1.this); omega
          have nK : kb ≠ rb := by have := m4.lt (m3.ext.blk (m2.ext.blk m1.this)); omega
          exact ⟨(rb, bA, bB, kb), ⟨rfl, trivial⟩, s5.fill0 hR rfl, s5.blk (m4.ext.blk (m3.ext.blk m2.this)) nA, s5.blk (m4.ext.blk m3.this) nB, s5.blk m4.this nK, y4.stored s5 gR, gR⟩
        · refine ⟨by decide, by decide, by decide, by decide, ?_⟩
          intro bB g2 m2
          have y2 : Ext h3 g2 := y1.trans m2.ext
          refine ⟨⟨rp _ y2, trivial⟩, ?_⟩
          refine ⟨by decide, by decide, by decide, by decide, ?_⟩
          intro bA g3 m3
          have y3 : Ext h3 g3 := y2.trans m3.ext
          refine ⟨⟨rp _ y3, trivial⟩, ?_⟩
          intro kb g4 m4
          have y4 : Ext h3 g4 := y3.trans m4.ext
          refine ⟨⟨rp _ y4, trivial⟩, ?_⟩
          have hR := (m4.ext.blk (m3.ext.blk (m2.ext.blk m1.this)))
          refine ⟨rfl, rfl, canset_blk hR rfl, fun h5 s5 => ?_⟩
          have gR : h3.size ≤ rb := m1.ge (Ext.refl _)
          have nA : bA ≠ rb := by have := m3.lt (m2.ext.blk m1.this); omega
          have nB : bB ≠ rb := by have := m2.lt m1.this; omega
          have nK : kb ≠ rb := by have := m4.lt (m3.ext.blk (m2.ext.blk m1.this)); omega
          exact ⟨(rb, bA, bB, kb), ⟨rfl, trivial⟩, s5.fill0 hR rfl, s5.blk (m4.ext.blk m3.this) nA, s5.blk (m4.ext.blk (m3.ext.blk m2.this)) nB, s5.blk m4.this nK, y4.stored s5 gR, gR⟩
  rintro ⟨rb, bA, bB, kb⟩ h4 ⟨hrb4, hA4, hB4, hK4, x34, rge⟩
  simp only at hrb4 hA4 hB4 hK4 rge
  have x04 := x3.trans x34
  have row2 : ∀ (g : Heap) (b : Nat), g[b]? = some (.cells ([cn0, cn0].flatMap encCn ++ []).toArray 58 (0, 0)) → CrOk g ⟨some ⟨b, 0, none⟩, 2, 2, [cn0, cn0]⟩ := fun g b hb => ⟨row_blk hb fun x _ => encCn_len x, rfl⟩
  have ok1 : RpOk h4 (rpT A ca B cb bA bB kb) := by
    refine ⟨Row.nil, rfl, Nat.le_refl _, (by decide : (0 : Nat) ≤ 60), Row.nil, rfl, (by decide : (0 : Nat) ≤ 12), fun x hx => absurd hx List.not_mem_nil, Row.nil, rfl, (by decide : (0 : Nat) ≤ 12), Row.nil, rfl, Nat.le_refl _, (by decide : (0 : Nat) ≤ 30), fun x hx => absurd hx List.not_mem_nil, row_blk hK4 fun x _ => encCr_len x, rfl, (by decide : (2 : Nat) ≤ 10), fun x hx => ?_⟩
    rcases List.mem_cons.1 hx with rfl | hx
    · exact row2 _ _ hA4
    · obtain rfl := List.mem_singleton.1 hx
      exact row2 _ _ hB4
  have pl : ∀ g, Ext h1 g → ∀ r' : Rp, r'.plan = toldQ.val A ca B cb → PlIn g r' toldQ := fun g x r' e => ⟨A, ca, B, cb, e, x.row (oR.row encRu_len), x.row (oV.row encVl_len)⟩
  have hn20 : ∀ x ∈ (rpT A ca B cb bA bB kb).cnts, x.n ≤ 20 := by
    intro x hx
    rcases List.mem_cons.1 hx with rfl | hx
    · show 2 ≤ 20; omega
    · obtain rfl := List.mem_singleton.1 hx
      show 2 ≤ 20; omega
  have no : ∀ e ∈ ([] : List He), e.op.Wf := fun e he => absurd he List.not_mem_nil
  refine ⟨encRp (rpT A ca B cb bA bB kb), rfl, reads_all hrb4, ?_⟩
  refine (l23To_spec ok1 (pl _ (x13.trans x34) _ rfl) (fun d hd => absurd hd List.not_mem_nil) hn20).mono ?_
  rintro v h5 ⟨r5, rfl, e5, own5, pl5, x5⟩
  refine (aJudge_made own5 pl5 e5 ok1 wf no).mono ?_
  rintro v h6 ⟨w6, hv6, hist6, x6⟩
  obtain rfl := hist_nil hist6
  obtain ⟨a6, ha6⟩ : ∃ a, a = wordS (judgeM (rpT A ca B cb bA bB kb) 0) := ⟨_, rfl⟩
  rw [← ha6] at hv6
  subst hv6
  have era1 : era (rpT A ca B cb bA bB kb) = toldR1 := rfl
  have j6 : judgeM (rpT A ca B cb bA bB kb) 0 = 0 := by rw [← era_judge, era1]; exact told_judge1
  rw [j6] at ha6
  have x46 := x5.trans x6
  have hrb6 := x46.blk hrb4
  intro cb2 h7 n7
  have hcb : h7[cb2]? = some (.cells (([⟨0, 0, none, 0, 0, []⟩] : List Cm).flatMap encCm ++ []).toArray 63 (0, 0)) := n7.this
  have hrb7 := n7.ext.blk hrb6
  refine ⟨rfl, rfl, canset_blk hrb7 rfl, fun h8 s8 => ?_⟩
  have hrb8 := s8.put hrb7
  have hcb8 := s8.blk hcb (by have : rb < cb2 := n7.lt hrb6; show cb2 ≠ rb; omega)
  intro ob h9 n9
  have hob : h9[ob]? = some (.cells (([⟨0, 0, 0, 1, none, 0, 0, []⟩] : List Ot).flatMap encOt ++ []).toArray 65 (0, 0)) := n9.this
  have hrb9 := n9.ext.blk hrb8
  refine ⟨rfl, rfl, canset_blk hrb9 rfl, fun h10 s10 => ?_⟩
  have hob10 := s10.blk hob (by have : rb < ob := n9.lt hrb8; show ob ≠ rb; omega)
  have hcb10 := s10.blk (n9.ext.blk hcb8) (by have : rb < cb2 := n7.lt hrb6; show cb2 ≠ rb; omega)
  obtain ⟨r2, hr2⟩ : ∃ r2, r2 = rpW toldQ A ca B cb none 0 0 [] (some ⟨cb2, 0, none⟩) 1 1 [⟨0, 0, none, 0, 0, []⟩] none 0 0 [] (some ⟨ob, 0, none⟩) 1 1 [⟨0, 0, 0, 1, none, 0, 0, []⟩] (some ⟨kb, 0, none⟩) 2 2 [⟨some ⟨bA, 0, none⟩, 2, 2, [cn0, cn0]⟩, ⟨some ⟨bB, 0, none⟩, 2, 2, [cn0, cn0]⟩] := ⟨_, rfl⟩
  have hrb10 : h10[rb]? = some (.cells (encRp r2).toArray 35 (0, 0)) := by rw [hr2]; exact s10.put hrb9
  have rge0 : h1.size ≤ rb := Nat.le_trans x13.size rge
  have x1_8 : Ext h1 h8 := (x13.trans (x34.trans (x46.trans n7.ext))).stored s8 rge0
  have x1_10 : Ext h1 h10 := (x1_8.trans n9.ext).stored s10 rge0
  have x0_10 : Ext h h10 := x1.trans x1_10
  have keep : ∀ (b : Nat) (o : Obj), b ≠ rb → h4[b]? = some o → h10[b]? = some o := fun b o ne hb => s10.blk (n9.ext.blk (s8.blk (n7.ext.blk (x46.blk hb)) ne)) ne
  have neA : bA ≠ rb := fun e => by subst e; rw [hrb4] at hA4; injection hA4 with e1; injection e1 with _ e2; exact absurd e2 (by decide)
  have neB : bB ≠ rb := fun e => by subst e; rw [hrb4] at hB4; injection hB4 with e1; injection e1 with _ e2; exact absurd e2 (by decide)
  have neK : kb ≠ rb := fun e => by subst e; rw [hrb4] at hK4; injection hK4 with e1; injection e1 with _ e2; exact absurd e2 (by decide)
  have bz : BsOk h10 none 0 0 [] := ⟨Row.nil, rfl, Nat.le_refl _, by decide, fun y hy => absurd hy List.not_mem_nil⟩
  have ok2 : RpOk h10 r2 := by
    rw [hr2]
    refine ⟨Row.nil, rfl, Nat.le_refl _, (by decide : (0 : Nat) ≤ 60), row_blk hcb10 fun x _ => encCm_len x, rfl, (by decide : (1 : Nat) ≤ 12), fun x hx => by obtain rfl := List.mem_singleton.1 hx; exact bz, Row.nil, rfl, (by decide : (0 : Nat) ≤ 12), row_blk hob10 fun x _ => encOt_len x, rfl, Nat.le_refl _, (by decide : (1 : Nat) ≤ 30), fun x hx => by obtain rfl := List.mem_singleton.1 hx; exact bz, row_blk (keep kb _ neK hK4) fun x _ => encCr_len x, rfl, (by decide : (2 : Nat) ≤ 10), fun x hx => ?_⟩
    rcases List.mem_cons.1 hx with rfl | hx
    · exact row2 _ _ (keep bA _ neA hA4)
    · obtain rfl := List.mem_singleton.1 hx
      exact row2 _ _ (keep bB _ neB hB4)
  have hn20' : ∀ x ∈ r2.cnts, x.n ≤ 20 := by rw [hr2]; exact hn20
  have hd2 : ∀ d ∈ r2.don, d.tA = none ∧ d.tn = 0 ∧ d.fA = none ∧ d.fn = 0 := by rw [hr2]; exact fun d hd => absurd hd List.not_mem_nil
  have hl2 : r2.log = [] := by rw [hr2]; rfl
  have hp2 : r2.plan = toldQ.val A ca B cb := by rw [hr2]; rfl
  refine xif_of (fun q => ?_) (fun q => ?_)
  rotate_left
  · have q : (a6.toList == (wordS 0).toList) = false := q
    rw [ha6, word_is 0 0 (by decide) (by decide)] at q
    cases q
  refine ⟨encRp r2, rfl, reads_all hrb10, ?_⟩
  refine (l23To_spec ok2 (pl _ x1_10 _ hp2) hd2 hn20').mono ?_
  rintro v h11 ⟨r11, rfl, e11, own11, pl11, x11⟩
  refine (aJudge_made own11 pl11 e11 ok2 wf (by rw [hl2]; exact no)).mono ?_
  rintro v h12 ⟨w12, hv12, hist12, x12⟩
  rw [hl2] at hist12
  obtain rfl := hist_nil hist12
  obtain ⟨a12, ha12⟩ : ∃ a, a = wordS (judgeM r2 0) := ⟨_, rfl⟩
  rw [← ha12] at hv12
  subst hv12
  have era2 : era r2 = toldR2 := by rw [hr2]; rfl
  have j12 : judgeM r2 0 = 6 := by rw [← era_judge, era2]; exact told_judge2
  rw [j12] at ha12
  refine xif_of (fun q => ?_) (fun q => ?_)
  rotate_left
  · have q : (a12.toList == (wordS 6).toList) = false := q
    rw [ha12, word_is 6 6 (by decide) (by decide)] at q
    cases q
  refine (aJudge_bad (r := rpz) rfl).mono ?_
  rintro v h13 ⟨hv13, x13'⟩
  obtain ⟨a13, ha13⟩ : ∃ a, a = wordS 13 := ⟨_, rfl⟩
  rw [← ha13] at hv13
  subst hv13
  refine ⟨congrArg Value.bool ?_, x0_10.trans (x11.trans (x12.trans x13'))⟩
  show (a13.toList == (wordS 13).toList) = true
  rw [ha13, word_is 13 13 (by decide) (by decide)]
  rfl
end
end Go.Proofs.YtcjoenkpibhmoaaGreatE
/- What the law AuditJudges answers: yes. Conditions: the argument is of its type. -/
set_option linter.unusedVariables false
set_option linter.unusedSimpArgs false
set_option maxRecDepth 100000
namespace Go.Proofs.YtcjoenkpibhmoaaGreatE
open Go Go.Proofs
section
variable {h : Heap}
theorem slot_inc63 {i : Nat} (h : i < 9223372036854775807) : some (Value.int .i64 (IntKind.i64.wrap ((i : Int) + 1))) = some (Value.int .i64 ((i + 1 : Nat) : Int)) := by
  rw [wrap_i64 (by omega) (by omega)]; rfl
theorem one_in {h : Heap} {r : Rp} {q : Qp} (Q : PlIn h r q) : (encRp r).all Value.oneCell' = true := by
  obtain ⟨A, ca, B, cb, e, _, _⟩ := Q
  have : encRp r = r.plan ++ [.slice r.LA r.ln r.lc, .slice r.CA r.cn r.cc, .slice r.DA r.dn r.dc, .slice r.OA r.on r.oc, .slice r.KA r.kn r.kc] := rfl
  rw [this, e]
  rfl
theorem one_own {base : Nat} {h : Heap} {r : Rp} {q : Qp} (Q : PlOwn base h r q) : (encRp r).all Value.oneCell' = true := by
  obtain ⟨A, ca, B, cb, e, _, _⟩ := Q
  have : encRp r = r.plan ++ [.slice r.LA r.ln r.lc, .slice r.CA r.cn r.cc, .slice r.DA r.dn r.dc, .slice r.OA r.on r.oc, .slice r.KA r.kn r.kc] := rfl
  rw [this, e]
  rfl
set_option maxHeartbeats 4000000 in
theorem lJudges_spec {r0 : Rp} {P tries ring normal short : Int} {A B : Option Addr} {na ca nb cb : Nat} {rules : List Ru} {vls : List Vl} {s : Sz} (R0 : RpIn h r0) (hkn : r0.kn ≤ 9223372036854775807)
    (hp : r0.plan = planV P (.slice A na ca) (.slice B nb cb) s tries ring normal short) (rA : Row encRu 2 h A rules) (rlA : rules.length = na) (rB : Row encVl 3 h B vls) (rlB : vls.length = nb) (wf : ∀ v ∈ vls, SetWf v.mem ∧ SetWf v.unt) :
    HCalls Tryz.prog 3 #[.agg (encRp r0).toArray] h (fun v h' => v = .bool true ∧ Ext h h') := by
  refine xcalls env0 Tryz.func3 rfl (by kernel_rfl) rfl (by kernel_rfl) ?_
  intro rb h1 n1
  have hrb1 : h1[rb]? = some (.cells (encRp r0).toArray 35 (0, 0)) := n1.this
  have x1 := n1.ext
  have kl := R0.cntsl
  have rge : h.size ≤ rb := n1.ge (Ext.refl _)
  have kbig := R0.cntsc
  refine ⟨Nat, fun i => [(1, .pointer (some ⟨rb, 0, none⟩)), (3, .int .i64 i)], fun i h' => (i ≤ r0.kn ∧ ∀ j x, j < i → r0.cnts[j]? = some x → x.n ≤ 20) ∧ h' = h1, fun i => r0.kn - i, 0, ⟨rfl, rfl, trivial⟩, ⟨⟨Nat.zero_le _, fun j x hj => by omega⟩, rfl⟩, ?_⟩
  rintro i h2 ⟨⟨hi, hal⟩, rfl⟩
  refine ⟨_, cell_blk hrb1 rfl, ?_⟩
  refine xif_of (fun hlt => ?_) (fun hge => ?_)
  · have hlt : (i : Int) < r0.kn := of_decide_eq_true hlt
    obtain ⟨x, hx⟩ : ∃ x, r0.cnts[i]? = some x := ⟨r0.cnts[i]'(by omega), List.getElem?_eq_getElem (by omega)⟩
    obtain ⟨a, hA, xrd⟩ := (x1.row R0.cnts) i x hx
    have k0 : cell h2 (a.add ((i : Int).toNat * 1)) = some (.slice x.A x.n x.c) := by
      have := xrd.get 0 (v := .slice x.A x.n x.c) rfl
      rwa [add_zero'] at this
    refine ⟨_, cell_blk hrb1 rfl, a, hA, by omega, hlt, _, k0, ?_⟩
    refine xif_of (fun q => ?_) (fun q => ?_)
    · refine told23_spec.mono ?_
      rintro v h3 ⟨rfl, x3⟩
      exact ⟨rfl, x1.trans x3⟩
    · have q : ¬ (x.n : Int) > 20 := of_decide_eq_false q
      refine ⟨i + 1, ⟨rfl, slot_inc63 (by omega), trivial⟩, ⟨⟨by omega, fun j y hj hy => ?_⟩, rfl⟩, by show r0.kn - (i + 1) < r0.kn - i; omega⟩
      by_cases e : j = i
      · subst e; rw [hx] at hy; cases hy; omega
      · exact hal j y (by omega) hy
  have hge : ¬ (i : Int) < r0.kn := of_decide_eq_false hge
  have hn20 : ∀ x ∈ r0.cnts, x.n ≤ 20 := fun x hx => by
    obtain ⟨j, hj⟩ := List.getElem?_of_mem hx
    have := (List.getElem?_eq_some_iff.1 hj).1
    exact hal j x (by omega) hj
  refine ⟨encRp r0, rfl, reads_all hrb1, ?_⟩
  refine (l23Few_spec x1 R0 hn20 hp (x1.row rA) rlA (x1.row rB) rlB wf).mono ?_
  rintro v h3 ⟨r, rfl, R3, Q3, wo, hd, hrn, x3, keep⟩
  have hrb3 := x3.blk hrb1
  have x03 := x1.trans x3
  refine ⟨rfl, one_in Q3, canset_blk hrb3 rfl, fun h4 s4 => ?_⟩
  have hrb4 : h4[rb]? = some (.cells (encRp r).toArray 35 (0, 0)) := s4.fill0 hrb3 rfl
  obtain ⟨R, Q⟩ := keep s4 hrb3 rge
  have x04 : Ext h h4 := x03.stored s4 rge
  clear keep R3 Q3 x03 x3 hrb3 s4
  obtain ⟨q, hq⟩ : ∃ q : Qp, q = ⟨P, rules, vls, s, tries, ring, normal, short⟩ := ⟨_, rfl⟩
  rw [← hq] at Q
  have wfq : ∀ v ∈ q.vls, SetWf v.mem ∧ SetWf v.unt := by rw [hq]; exact wf
  refine ⟨encRp r, rfl, reads_all hrb4, ?_⟩
  refine (l23To_spec R Q hd hrn).mono ?_
  rintro v h5 ⟨r1, rfl, e1, own1, pl1, x5⟩
  intro o1 h6 n6
  refine ⟨rfl, one_own pl1, canset_blk n6.this rfl, fun h7 s7 => ?_⟩
  have ho1 : h7[o1]? = some (.cells (encRp r1).toArray 50 (0, 0)) := s7.fill0 n6.this rfl
  have own1 := (own1.ext n6.ext).store s7 n6.this (by decide) (by decide) (by decide) (by decide) (by decide) (by decide) (by decide)
  have pl1 := (pl1.ext n6.ext).store s7 n6.this (by decide) (by decide)
  have x47 : Ext h4 h7 := (x5.trans n6.ext).stored s7 (n6.ge x5)
  have hrb7 := x47.blk hrb4
  refine ⟨encRp r, rfl, reads_all hrb7, ?_⟩
  refine (l23To_spec (R.ext x47) (Q.ext x47) hd hrn).mono ?_
  rintro v h8 ⟨r2, rfl, e2, own2, pl2, x8⟩
  intro o2 h9 n9
  refine ⟨rfl, one_own pl2, canset_blk n9.this rfl, fun h10 s10 => ?_⟩
  have ho2 : h10[o2]? = some (.cells (encRp r2).toArray 50 (0, 0)) := s10.fill0 n9.this rfl
  have own2 := (own2.ext n9.ext).store s10 n9.this (by decide) (by decide) (by decide) (by decide) (by decide) (by decide) (by decide)
  have pl2 := (pl2.ext n9.ext).store s10 n9.this (by decide) (by decide)
  have x710 : Ext h7 h10 := (x8.trans n9.ext).stored s10 (n9.ge x8)
  have x410 := x47.trans x710
  refine ⟨encRp r1, rfl, reads_all (x710.blk ho1), ?_⟩
  refine (aJudge_made (own1.ext x710) (pl1.ext x710) e1 R wfq wo).mono ?_
  rintro v h11 ⟨w1, hv1, hist1, x11⟩
  obtain ⟨a1, ha1⟩ : ∃ a, a = wordS (judgeM r w1) := ⟨_, rfl⟩
  rw [← ha1] at hv1
  subst hv1
  refine told23_spec.mono ?_
  rintro v h12 ⟨rfl, x12⟩
  have x412 := x410.trans (x11.trans x12)
  refine ⟨encRp r, rfl, reads_all (x412.blk hrb4), ?_⟩
  obtain ⟨A9, c9, B9, d9, hp9, rA9, rB9⟩ := Q.ext x412
  refine (rJudge23_spec (R.ext x412) rA9 rB9 rfl rfl wfq hp9 wo).mono ?_
  rintro v h13 ⟨w2, hv2, hist2, x13⟩
  obtain rfl := hist1.one hist2
  rw [← ha1] at hv2
  subst hv2
  refine xif_of (fun _ => ?_) (fun q => ?_)
  rotate_left
  · have q : (a1.toList == a1.toList) = false := q
    rw [beq_self_eq_true] at q
    cases q
  have x1013 := x11.trans (x12.trans x13)
  refine ⟨encRp r2, rfl, reads_all (x1013.blk ho2), ?_⟩
  refine (aJudge_made (own2.ext x1013) (pl2.ext x1013) e2 R wfq wo).mono ?_
  rintro v h14 ⟨w3, hv3, hist3, x14⟩
  obtain rfl := hist1.one hist3
  rw [← ha1] at hv3
  subst hv3
  refine xif_of (fun _ => ?_) (fun q => ?_)
  rotate_left
  · have q : (a1.toList == a1.toList) = false := q
    rw [beq_self_eq_true] at q
    cases q
  have x714 := x710.trans (x1013.trans x14)
  have x414 := x47.trans x714
  refine ⟨_, cell_blk (x714.blk ho1) rfl, _, cell_blk (x414.blk hrb4) rfl, ?_⟩
  have eln : r1.ln = r.ln := (congrArg Rp.ln e1 : (era r1).ln = (era r).ln)
  have eon : r1.on = r.on := (congrArg Rp.on e1 : (era r1).on = (era r).on)
  refine xif_of (fun _ => ?_) (fun q => ?_)
  rotate_left
  · have q : decide ((r1.ln : Int) = r.ln) = false := q
    exact absurd (by rw [eln] : (r1.ln : Int) = r.ln) (of_decide_eq_false q)
  refine ⟨_, cell_blk (x714.blk ho1) rfl, _, cell_blk (x414.blk hrb4) rfl, ?_⟩
  refine ⟨congrArg Value.bool ?_, x04.trans x414⟩
  exact decide_eq_true (by rw [eon] : (r1.on : Int) = r.on)
end
end Go.Proofs.YtcjoenkpibhmoaaGreatE
