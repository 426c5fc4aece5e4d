/- An order that is being carried out: a VLAN is written; what it notes. Conditions: the locks are held. -/
import Derived.Test.YthoikbogkhpciaaGreatXG1
set_option linter.unusedVariables false
set_option linter.unusedSimpArgs false
set_option maxRecDepth 100000
namespace Go.Proofs.YthoikbogkhpciaaGreatE
open Go Go.Proofs
def env_aMarks : Nat → Ann
  | 0 => ⟨.op 0 [] <| .op 1 [] <| .op 2 [] <| .op 3 [] <| .op 4 [] <| .op 5 [] <| .op 6 [] <| .op 7 [] <| .op 8 [] <| .op 9 [] <| .op 10 [] <| .op 11 [3] <| .op 12 [] <| .op 13 [] <| .op 14 [] <| .nil, [0, 1, 3, 7, 0, 16, 48, 112, 240, 496, 1008, 2032, 4095, 8191, 16383], false⟩
  | _ => ⟨.nil, [], false⟩
def env_aDone : Nat → Ann
  | 0 => ⟨.op 0 [] <| .op 1 [] <| .op 2 [] <| .op 3 [] <| .op 4 [] <| .op 5 [] <| .op 6 [] <| .op 7 [] <| .op 8 [] <| .op 9 [] <| .op 10 [] <| .op 11 [] <| .op 12 [] <| .op 13 [] <| .op 14 [] <| .op 16 [] <| .op 15 [3, 7] <| .op 17 [] <| .op 18 [] <| .op 19 [] <| .op 20 [] <| .op 21 [] <| .op 22 [] <| .nil, [0, 1, 3, 7, 0, 16, 48, 112, 0, 256, 768, 1792, 3840, 7936, 16128, 32512, 0, 65535, 196607, 458751, 1048575, 2097151, 4194303], false⟩
  | _ => ⟨.nil, [], false⟩
def env_aBare : Nat → Ann
  | 1 => ⟨.op 0 [] <| .op 1 [] <| .op 2 [] <| .op 3 [] <| .op 4 [] <| .op 5 [] <| .op 6 [] <| .op 7 [] <| .op 8 [] <| .op 9 [] <| .op 10 [] <| .op 11 [] <| .op 12 [] <| .op 13 [4] <| .op 14 [] <| .op 15 [] <| .nil, [0, 1, 3, 7, 15, 0, 32, 96, 224, 480, 992, 2016, 4064, 8160, 16383, 32767], false⟩
  | 2 => ⟨.op 0 [] <| .op 1 [] <| .op 2 [] <| .op 3 [] <| .op 4 [] <| .op 5 [] <| .op 6 [] <| .op 7 [] <| .op 8 [] <| .op 9 [] <| .op 10 [] <| .op 11 [] <| .op 12 [] <| .op 13 [] <| .op 14 [] <| .op 15 [] <| .op 16 [] <| .op 17 [] <| .op 18 [] <| .op 19 [] <| .op 23 [] <| .op 24 [] <| .op 25 [] <| .op 26 [] <| .op 27 [] <| .op 28 [] <| .op 29 [] <| .op 20 [3, 6, 10, 27] <| .op 21 [3, 6, 27] <| .op 22 [] <| .op 30 [] <| .nil, [0, 1, 3, 7, 15, 31, 63, 0, 128, 384, 896, 0, 2048, 6144, 14336, 0, 32768, 98304, 229376, 491520, 1046528, 2097024, 4194176, 0, 8388608, 25165824, 58720256, 125829120, 0, 528482304, 1073741823], true⟩
  | _ => ⟨.nil, [], false⟩
def env_aMembers : Nat → Ann
  | 1 => ⟨.op 0 [] <| .op 1 [] <| .op 2 [] <| .op 3 [] <| .op 4 [] <| .op 5 [] <| .op 6 [] <| .op 7 [] <| .op 8 [] <| .op 9 [] <| .op 10 [] <| .op 11 [] <| .op 12 [] <| .op 13 [] <| .op 14 [] <| .op 15 [] <| .op 16 [] <| .op 17 [] <| .op 18 [] <| .op 19 [] <| .op 22 [] <| .op 23 [] <| .op 24 [] <| .op 25 [] <| .op 26 [] <| .op 27 [] <| .op 28 [] <| .op 29 [] <| .op 30 [] <| .op 31 [] <| .op 32 [] <| .op 33 [] <| .op 34 [] <| .op 20 [3, 6, 10, 26, 30, 34] <| .op 21 [3, 6, 26, 30, 34] <| .op 35 [3, 6, 26] <| .op 36 [] <| .op 37 [] <| .nil, [0, 1, 3, 7, 15, 31, 63, 0, 128, 384, 896, 0, 2048, 6144, 14336, 0, 32768, 98304, 229376, 491520, 1046528, 2097024, 0, 4194304, 12582912, 29360128, 62914560, 0, 134217728, 402653184, 939524096, 2013265920, 4160749568, 8455716864, 17045651456, 34229714816, 68719476608, 137438953471], false⟩
  | _ => ⟨.nil, [], false⟩
section
variable {h h' : Heap} {B : Nat} {F : Fb} {ab : Nat} {x : CaV} {ls : List Nat} {M : MemS} {E : He}
theorem cVlan_spec (H : FabAt h F) (vid : Int) : HCalls Tryz.prog 70 #[.pointer (some ⟨F.fb, 0, none⟩), .int .i64 vid] h (fun v h' => v = .int .i64 (findV vid F.vls 0) ∧ Ext h h') := by
  obtain ⟨RA, rc, hb', hr⟩ := H.blk
  refine xcalls env0 Tryz.func70 rfl (by kernel_rfl) rfl (by kernel_rfl) ?_
  repeat (first | refine ⟨_, cell_blk (hb') rfl, ?_⟩)
  refine (vFind_spec (H.vls.row encVl_len) (by have := H.v1; omega)).mono ?_
  rintro v h1 ⟨rfl, x1⟩
  exact ⟨rfl, x1⟩
theorem cVlanAt_fab (H : FabAt h F) {i : Nat} (hi : i ≤ 1000) : HCalls Tryz.prog 78 #[.pointer (some ⟨F.fb, 0, none⟩), .int .i64 i] h (fun v h' => v = .int .i64 ((F.P + 2 * i : Nat) : Int) ∧ h' = h) := by
  obtain ⟨RA, rc, hb', hr⟩ := H.blk
  exact cVlanAt_spec hb' H.p2 hi
/-- A field of the entry is stored. -/
theorem CaS.entry (S : CaS h B F ab x ls M E) {lb : Nat} (hg : x.gA = some ⟨lb, 0, none⟩) {j : Nat} {vs : List Value} {E' : He} (s : Stored h ⟨lb, j, none⟩ vs h') (hj : j + vs.length ≤ 19) (he : encHe E' = lset (encHe E) j vs) : CaS h' B F ab x ls M E' ∧ ChgT B TyC h h' := by
  have ol := S.log
  rw [hg] at ol
  obtain ⟨cs, hb⟩ := ol.block
  have c : Chg [(lb, 75)] h h' := s.chg hb (.head _)
  have s' : Stored h ⟨lb, 0 * 19 + j, none⟩ vs h' := by simpa using s
  have o' := ol.put encHe_len (x' := E') rfl s' (show [E][0]? = some E from rfl) hj he
  refine ⟨⟨c.blk S.raw (by simp), S.xf, S.kn, S.keys.chg c (fun b _ => by simp), S.kne, S.gn, ?_, S.fab.chgC c (by simp [TyC]), S.mem.chg c (by simp) (by simp) (by simp), S.b0, S.b1, S.b2, S.b3, Nat.le_trans S.hB c.size, S.w0, S.small⟩, c.chgT S.hB fun p hp => ?_⟩
  · rw [hg]; exact o'
  · simp at hp
    subst hp
    exact ⟨ol.ge _ rfl, by simp [TyC]⟩
theorem CaS.logAt (S : CaS h B F ab x ls M E) : ∃ lb, x.gA = some ⟨lb, 0, none⟩ := by
  rcases S.log with ⟨_, h1, _⟩ | ⟨b, _, h1, _⟩
  · cases h1
  · exact ⟨b, h1⟩
theorem CaS.csE (S : CaS h B F ab x ls M E) {lb : Nat} (hg : x.gA = some ⟨lb, 0, none⟩) {j : Nat} (hj : j + 1 ≤ 19) : CanSet h ⟨lb, j, none⟩ 1 := by
  have ol := S.log
  rw [hg] at ol
  obtain ⟨b, e, _, cs⟩ := ol.canset encHe_len (i := 0) (j := j) (n := 1) (Nat.zero_lt_one) hj
  cases e
  simpa using cs
theorem ent_lit (lb j : Nat) : ((⟨lb, 0, none⟩ : Addr).add (0 * 19)).add j = ⟨lb, j, none⟩ := by rw [add_lit, add_lit]; simp
theorem aMarks_spec (S : CaS h B F ab x ls M E) : HCalls Tryz.prog 186 #[.pointer (some ⟨ab, 0, none⟩)] h (fun v h' => v = .tuple #[] ∧ CaS h' B F ab x ls M { E with mark := (M.t : Int) } ∧ ChgT B TyC h h') := by
  obtain ⟨lb, hg⟩ := S.logAt
  obtain ⟨RA, rc, hb', hr⟩ := S.fab.blk
  have raw := S.raw
  have hf := S.xf
  have hgn := S.gn
  have cs := fun j hj => S.csE hg (j := j) hj
  obtain ⟨f', who, o, next, gA, gn, gc, kA, kn, kc, held, from_, pop, act⟩ := x
  simp only at hf hgn hg
  subst hf hgn hg
  refine xcalls env_aMarks Tryz.func186 rfl (by kernel_rfl) rfl (by kernel_rfl) ?_
  repeat (first | refine ⟨_, cell_blk (raw) rfl, ?_⟩ | refine ⟨_, cell_blk (hb') rfl, ?_⟩)
  refine (mTime_spec S.mem).mono ?_
  rintro v h1 ⟨rfl, rfl⟩
  try (refine ⟨by ((repeat (first | refine ⟨cell_blk (raw) rfl, ?_⟩)); exact trivial), ?_⟩)
  refine ⟨⟨lb, 0, none⟩, rfl, by decide, (by show (0 : Int) < ((1 : Nat) : Int); decide), rfl, rfl, ?_, fun h2 s2 => ?_⟩
  · show CanSet _ (((⟨lb, 0, none⟩ : Addr).add (0 * 19)).add 2) 1
    rw [ent_lit]; exact cs 2 (by decide)
  have s2' : Stored _ (((⟨lb, 0, none⟩ : Addr).add (0 * 19)).add 2) [.int .i64 (M.t : Int)] h2 := s2
  rw [ent_lit] at s2'
  obtain ⟨S2, c2⟩ := S.entry rfl (E' := { E with mark := (M.t : Int) }) s2' (by show 2 + 1 ≤ 19; decide) rfl
  exact ⟨rfl, S2, c2⟩
theorem aDone_spec (S : CaS h B F ab x ls M E) (ans : Int) : HCalls Tryz.prog 123 #[.pointer (some ⟨ab, 0, none⟩), .int .i64 ans] h (fun v h' => v = .tuple #[] ∧ CaS h' B F ab x ls M { E with fin := (M.t : Int), ans := ans } ∧ ChgT B TyC h h') := by
  obtain ⟨lb, hg⟩ := S.logAt
  obtain ⟨RA, rc, hb', hr⟩ := S.fab.blk
  have raw := S.raw
  have hf := S.xf
  have hgn := S.gn
  have cs := fun j hj => S.csE hg (j := j) hj
  obtain ⟨f', who, o, next, gA, gn, gc, kA, kn, kc, held, from_, pop, act⟩ := x
  simp only at hf hgn hg
  subst hf hgn hg
  refine xcalls env_aDone Tryz.func123 rfl (by kernel_rfl) rfl (by kernel_rfl) ?_
  repeat (first | refine ⟨_, cell_blk (raw) rfl, ?_⟩ | refine ⟨_, cell_blk (hb') rfl, ?_⟩)
  refine (mTime_spec S.mem).mono ?_
  rintro v h1 ⟨rfl, rfl⟩
  try (refine ⟨by ((repeat (first | refine ⟨cell_blk (raw) rfl, ?_⟩)); exact trivial), ?_⟩)
  refine ⟨⟨lb, 0, none⟩, rfl, by decide, (by show (0 : Int) < ((1 : Nat) : Int); decide), ?_⟩
  refine ⟨rfl, rfl, ?_, fun h2 s2 => ?_⟩
  · show CanSet _ (((⟨lb, 0, none⟩ : Addr).add (0 * 19)).add 3) 1
    rw [ent_lit]; exact cs 3 (by decide)
  have s2' : Stored _ (((⟨lb, 0, none⟩ : Addr).add (0 * 19)).add 3) [.int .i64 (M.t : Int)] h2 := s2
  rw [ent_lit] at s2'
  obtain ⟨S2, c2⟩ := S.entry rfl (E' := { E with fin := (M.t : Int) }) s2' (by show 3 + 1 ≤ 19; decide) rfl
  refine ⟨⟨lb, 0, none⟩, rfl, by decide, (by show (0 : Int) < ((1 : Nat) : Int); decide), ?_⟩
  refine ⟨rfl, rfl, ?_, fun h3 s3 => ?_⟩
  · show CanSet _ (((⟨lb, 0, none⟩ : Addr).add (0 * 19)).add 18) 1
    rw [ent_lit]; exact S2.csE rfl (by decide)
  have s3' : Stored _ (((⟨lb, 0, none⟩ : Addr).add (0 * 19)).add 18) [.int .i64 ans] h3 := s3
  rw [ent_lit] at s3'
  obtain ⟨S3, c3⟩ := S2.entry rfl (E' := { E with fin := (M.t : Int), ans := ans }) s3' (by show 18 + 1 ≤ 19; decide) rfl
  exact ⟨rfl, S3, c2.trans c3⟩
/-- Who gets the VLAN's frames without a tag. -/
theorem aBare_spec (S : CaS h B F ab x ls M E) {i : Nat} (hi : findV x.o.vid F.vls 0 = (i : Int)) (hv : i < F.vls.length) (wm : SetWf x.o.mem) (wu : SetWf x.o.unt) (hc : F.P + 2 * i + 1 < M.cells.length) (ht : M.t < 900000) :
    HCalls Tryz.prog 114 #[.pointer (some ⟨ab, 0, none⟩)] h (fun v h' => v = .func (.func 158) #[] #[] ∧ CaS h' B F ab x ls { M with cells := M.cells.set (F.P + 2 * i + 1) (andM x.o.unt (andM x.o.mem (allM F.P))), t := M.t + 1 } E ∧ ChgT B TyC h h') := by
  have raw := S.raw
  have hf := S.xf
  have p2 := S.fab.p2
  have v1 := S.fab.v1
  obtain ⟨RA, rc, hb', hr⟩ := S.fab.blk
  obtain ⟨f', who, o, next, gA, gn, gc, kA, kn, kc, held, from_, pop, act⟩ := x
  simp only at hf hi wm wu
  subst hf
  have wall := allM_wf (F.P : Int)
  have e1 := and_eq wm wall
  have e2 := and_eq wu (andM_wf (b := allM F.P) wm)
  refine xcalls env_aBare Tryz.func114 rfl (by kernel_rfl) rfl (by kernel_rfl) ?_
  refine ⟨Unit, fun _ => [(0, .pointer (some ⟨ab, 0, none⟩)), (3, .int .u64 (andM o.mem (allM F.P)))], fun _ h' => h' = h, ?_, ?_⟩
  · repeat (first | refine ⟨_, cell_blk (raw) rfl, ?_⟩ | refine ⟨_, cell_blk (hb') rfl, ?_⟩)
    refine (vAll_spec (F.P : Int)).mono ?_
    rintro v h1 ⟨rfl, rfl⟩
    try (refine ⟨by ((repeat (first | refine ⟨cell_blk (raw) rfl, ?_⟩)); exact trivial), ?_⟩)
    exact ⟨(), ⟨rfl, congrArg (fun z => some (Value.int .u64 z)) e1, trivial⟩, rfl⟩
  rintro _ h1 rfl
  repeat (first | refine ⟨_, cell_blk (raw) rfl, ?_⟩ | refine ⟨_, cell_blk (hb') rfl, ?_⟩)
  refine (cVlan_spec S.fab o.vid).mono ?_
  rintro v h2 ⟨rfl, x2⟩
  have S2 := S.ext x2
  have raw2 := S2.raw
  obtain ⟨RA2, rc2, hb2, _⟩ := S2.fab.blk
  try (refine ⟨by ((repeat (first | refine ⟨cell_blk (raw2) rfl, ?_⟩ | refine ⟨cell_blk (hb2) rfl, ?_⟩)); exact trivial), ?_⟩)
  rw [hi]
  refine (cVlanAt_fab S2.fab (i := i) (by omega)).mono ?_
  rintro v h3 ⟨rfl, rfl⟩
  try (refine ⟨by ((repeat (first | refine ⟨cell_blk (raw2) rfl, ?_⟩ | refine ⟨cell_blk (hb2) rfl, ?_⟩)); exact trivial), ?_⟩)
  refine (mStore_at S2.mem (i := F.P + 2 * i + 1) (x := andM o.unt (andM o.mem (allM F.P))) (wrap_add1 _ (by omega)) e2 hc (by omega)).mono ?_
  rintro v h4 ⟨rfl, m4, c4⟩
  exact ⟨rfl, S2.memory c4 m4, ((x2.chgT S.hB).trans (S2.frM c4))⟩
/-- Who is in it. -/
theorem aMembers_spec (S : CaS h B F ab x ls M E) {i : Nat} (hi : findV x.o.vid F.vls 0 = (i : Int)) (hv : i < F.vls.length) (wm : SetWf x.o.mem) (hc : F.P + 2 * i < M.cells.length) (ht : M.t < 900000) :
    HCalls Tryz.prog 158 #[.pointer (some ⟨ab, 0, none⟩)] h (fun v h' => v = .func (.func 187) #[] #[] ∧ CaS h' B F ab x ls { M with cells := M.cells.set (F.P + 2 * i) (andM x.o.mem (allM F.P)), t := M.t + 1 } { E with mark := ((M.t + 1 : Nat) : Int), fin := ((M.t + 1 : Nat) : Int), ans := 1 } ∧ ChgT B TyC h h') := by
  have raw := S.raw
  have hf := S.xf
  have p2 := S.fab.p2
  have v1 := S.fab.v1
  obtain ⟨RA, rc, hb', hr⟩ := S.fab.blk
  obtain ⟨f', who, o, next, gA, gn, gc, kA, kn, kc, held, from_, pop, act⟩ := x
  simp only at hf hi wm
  subst hf
  have wall := allM_wf (F.P : Int)
  have e1 := and_eq wm wall
  refine xcalls env_aMembers Tryz.func158 rfl (by kernel_rfl) rfl (by kernel_rfl) ?_
  repeat (first | refine ⟨_, cell_blk (raw) rfl, ?_⟩ | refine ⟨_, cell_blk (hb') rfl, ?_⟩)
  refine (cVlan_spec S.fab o.vid).mono ?_
  rintro v h2 ⟨rfl, x2⟩
  have S2 := S.ext x2
  have raw2 := S2.raw
  obtain ⟨RA2, rc2, hb2, _⟩ := S2.fab.blk
  try (refine ⟨by ((repeat (first | refine ⟨cell_blk (raw2) rfl, ?_⟩ | refine ⟨cell_blk (hb2) rfl, ?_⟩)); exact trivial), ?_⟩)
  rw [hi]
  refine (cVlanAt_fab S2.fab (i := i) (by omega)).mono ?_
  rintro v h3 ⟨rfl, rfl⟩
  try (refine ⟨by ((repeat (first | refine ⟨cell_blk (raw2) rfl, ?_⟩ | refine ⟨cell_blk (hb2) rfl, ?_⟩)); exact trivial), ?_⟩)
  repeat (first | refine ⟨_, cell_blk (raw2) rfl, ?_⟩ | refine ⟨_, cell_blk (hb2) rfl, ?_⟩)
  refine (vAll_spec (F.P : Int)).mono ?_
  rintro v h3 ⟨rfl, rfl⟩
  try (refine ⟨by ((repeat (first | refine ⟨cell_blk (raw2) rfl, ?_⟩ | refine ⟨cell_blk (hb2) rfl, ?_⟩)); exact trivial), ?_⟩)
  refine (mStore_at S2.mem (i := F.P + 2 * i) (x := andM o.mem (allM F.P)) rfl e1 hc (by omega)).mono ?_
  rintro v h4 ⟨rfl, m4, c4⟩
  have S4 := S2.memory c4 m4
  refine (aMarks_spec S4).mono ?_
  rintro v h5 ⟨rfl, S5, c5⟩
  refine (aDone_spec S5 1).mono ?_
  rintro v h6 ⟨rfl, S6, c6⟩
  exact ⟨rfl, S6, (((x2.chgT S.hB).trans (S2.frM c4)).trans c5).trans c6⟩
end
end Go.Proofs.YthoikbogkhpciaaGreatE
