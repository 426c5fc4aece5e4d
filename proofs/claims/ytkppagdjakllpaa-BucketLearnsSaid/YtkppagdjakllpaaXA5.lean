/- What the laws of layer 10 answer: yes. Conditions: the arguments are of their types. -/
import Derived.Test.YtkppagdjakllpaaXA4
set_option linter.unusedVariables false
set_option linter.unusedSimpArgs false
set_option maxRecDepth 100000
namespace Go.Proofs.YtkppagdjakllpaaE
open Go Go.Proofs
def env_lLearns : Nat → Ann
  | 3 => ⟨[(0, []), (1, []), (2, []), (4, []), (5, []), (6, []), (7, []), (3, [5, 7]), (8, []), (9, []), (10, []), (11, []), (12, []), (13, [])], [0, 0, 2, 6, 0, 16, 0, 64, 255, 511, 1023, 1023, 2047, 8191]⟩
  | 5 => ⟨[(0, []), (1, []), (2, []), (3, []), (4, []), (5, []), (6, []), (7, []), (9, []), (8, []), (10, []), (11, []), (12, []), (13, []), (15, []), (14, []), (16, []), (17, []), (18, []), (19, []), (20, []), (21, []), (24, []), (25, []), (26, []), (22, [26]), (23, [26]), (27, []), (28, []), (29, []), (30, [])], [0, 1, 3, 3, 15, 31, 63, 127, 255, 127, 1023, 2047, 4095, 8191, 16383, 8191, 65535, 131071, 262143, 524287, 524287, 1572863, 3670015, 8388607, 524287, 524287, 34078719, 134217727, 268435455, 536870911, 1073741823]⟩
  | _ => ⟨[], []⟩
def env_lOrders : Nat → Ann
  | 3 => ⟨[(0, []), (1, []), (2, []), (4, []), (5, []), (6, []), (7, []), (3, [5, 7]), (8, []), (9, []), (10, []), (11, []), (12, []), (13, [])], [0, 0, 2, 6, 0, 16, 0, 64, 255, 511, 1023, 1023, 2047, 8191]⟩
  | _ => ⟨[], []⟩
def env_lAges : Nat → Ann
  | 2 => ⟨[(0, []), (2, []), (3, []), (4, []), (5, []), (1, [3, 5]), (6, []), (7, []), (8, []), (9, []), (10, []), (11, [])], [0, 1, 0, 4, 0, 16, 63, 127, 255, 255, 511, 2047]⟩
  | 4 => ⟨[(0, []), (2, []), (3, []), (4, []), (5, []), (6, []), (1, [3, 5]), (7, []), (8, []), (9, []), (10, []), (11, []), (12, [])], [0, 1, 0, 4, 0, 16, 60, 127, 255, 511, 511, 1023, 4095]⟩
  | _ => ⟨[], []⟩
def env_lKeeps : Nat → Ann
  | 2 => ⟨[(0, []), (2, []), (3, []), (5, []), (6, []), (7, []), (8, []), (1, [3, 6, 8]), (4, [6, 8]), (9, []), (10, []), (11, []), (12, []), (13, []), (14, [])], [0, 1, 0, 4, 15, 0, 32, 0, 128, 511, 1023, 2047, 2047, 4095, 16383]⟩
  | 11 => ⟨[(0, []), (1, []), (2, []), (3, []), (4, []), (5, []), (6, []), (7, []), (8, []), (9, []), (10, []), (11, []), (12, []), (13, []), (14, []), (15, []), (16, []), (17, []), (18, []), (19, []), (20, []), (21, []), (22, []), (23, [])], [0, 0, 3, 7, 15, 31, 63, 63, 255, 511, 1023, 2047, 4095, 8191, 16383, 16383, 65535, 131071, 16383, 16383, 802815, 1851391, 4194303, 8388607]⟩
  | _ => ⟨[], []⟩
def env_lEvicts : Nat → Ann
  | 9 => ⟨[(0, []), (2, []), (4, []), (1, [2]), (3, []), (5, []), (6, []), (7, []), (8, []), (9, []), (10, [])], [0, 1, 0, 7, 0, 31, 63, 127, 127, 255, 1023]⟩
  | 19 => ⟨[(0, []), (1, []), (2, []), (3, []), (4, []), (5, []), (6, []), (7, []), (8, []), (9, []), (10, []), (11, []), (12, []), (13, [])], [0, 0, 3, 7, 15, 15, 63, 127, 15, 15, 783, 1807, 4095, 8191]⟩
  | 21 => ⟨[(0, []), (1, []), (2, []), (3, []), (4, []), (5, []), (6, []), (7, []), (8, []), (9, []), (10, []), (11, []), (12, []), (13, []), (14, []), (15, []), (16, []), (17, []), (18, []), (19, [])], [0, 1, 3, 3, 15, 31, 63, 127, 255, 511, 511, 2047, 4095, 8191, 511, 511, 49663, 131071, 262143, 524287]⟩
  | _ => ⟨[], []⟩
theorem putM_len (xs : List Place) (e : Place) (now : Int) : (putM xs e now).1.length = xs.length := by
  unfold putM
  split <;> simp
theorem learnM_len (xs : List Place) (vid mac port now : Int) : (learnM xs vid mac port now).1.length = xs.length := by
  unfold learnM
  simp only
  split
  · simp
  · split
    · simp [putM_len]
    · split <;> simp
theorem orderM_len (xs : List Place) (vid mac port now : Int) : (orderM xs vid mac port now).1.length = xs.length := by
  unfold orderM
  simp only
  split
  · simp
  · split
    · simp [putM_len]
    · split <;> simp
theorem dropM_len (xs : List Place) (vid mac : Int) : (dropM xs vid mac).1.length = xs.length := by
  unfold dropM
  simp only
  split
  · simp
  · split <;> simp
theorem withoutM_len (gone : Place → Bool) (xs : List Place) : (withoutM gone xs).1.length = xs.length := by
  simp [withoutM]
theorem lLearns_spec {A : Option Addr} {xs : List Place} {c : Nat} {vid mac port now : Int} {h : Heap} (hr : Row encP 6 h A xs) (pwf : ∀ p ∈ xs, p.Wf) (wf : KeyWf vid mac) (a0 : 0 ≤ now) (a1 : now < 4294967296) {n : Nat} (hl : xs.length = n) (hn : n ≤ 140737488355328) :
    HCalls Try.prog 3 #[.slice A n c, .agg #[.int .i64 vid, .int .u64 mac, .int .i64 port, .int .u32 now]] h (fun v h' => v = .bool true ∧ Ext h h') := by
  subst hl
  refine xcalls env_lLearns Try.func3 rfl (by kernel_rfl) rfl (by kernel_rfl) ?_
  intro bs h1 n1
  have hbs : h1[bs]? = some (.cells [.int .i64 vid, .int .u64 mac, .int .i64 port, .int .u32 now].toArray 28 (0, 0)) := n1.this
  refine (rFix_spec (n1.ext.row hr) pwf rfl hn).mono ?_
  rintro v h2 ⟨B, d, rfl, ownl, x2⟩
  have fwf : ∀ p ∈ fixM xs, p.Wf := fun p hp => (fixM_ok pwf p hp).wf
  have f8 := fixM_len xs
  obtain ⟨ys, hys⟩ : ∃ ys, fixM xs = ys := ⟨_, rfl⟩
  rw [hys] at ownl fwf f8 ⊢
  refine (l10To_spec (ownl.row encP_len) rfl (by omega)).mono ?_
  rintro v h3 ⟨C, e, rfl, ownb, x3⟩
  have x13 := x2.trans x3
  have rk : ∀ {h' : Heap}, Ext h1 h' → Reads h' ((⟨bs, 0, none⟩ : Addr).add 0) [.int .i64 vid, .int .u64 mac] := fun x => reads_at (x.blk hbs) rfl
  have rp : ∀ {h' : Heap}, Ext h1 h' → cell h' ((⟨bs, 0, none⟩ : Addr).add 2) = some (.int .i64 port) := fun x => cell_blk (x.blk hbs) rfl
  have rn : ∀ {h' : Heap}, Ext h1 h' → cell h' ((⟨bs, 0, none⟩ : Addr).add 3) = some (.int .u32 now) := fun x => cell_blk (x.blk hbs) rfl
  refine ⟨_, rfl, rk x13, _, rp x13, _, rn x13, ?_⟩
  refine (l8To_spec _ _ _).mono ?_
  rintro v h4 ⟨rfl, x4⟩
  have x14 := x13.trans x4
  refine ⟨⟨rn x14, rp x14, trivial⟩, ?_⟩
  refine (bLearn_spec ((ownb.ext x4).row encP_len) rfl (by omega) wf).mono ?_
  rintro v h5 ⟨la, rfl, owna, x5⟩
  have x15 := x14.trans x5
  refine ⟨_, rfl, rk x15, _, rp x15, _, rn x15, ?_⟩
  refine (rLearn_spec ((ownl.ext (x3.trans (x4.trans x5))).row encP_len) fwf a0 a1 rfl (by omega) wf).mono ?_
  rintro v h6 ⟨D, f, rfl, ownd, x6⟩
  refine (told10_spec _).mono ?_
  rintro v h7 ⟨rfl, x7⟩
  refine xif_of (fun _ => ?_) (fun q => absurd q (by simp))
  have len1 := learnM_len ys vid mac port now
  have owna7 := owna.ext (x6.trans x7)
  refine (l10From_spec (owna7.row encP_len) len1 (by omega)).mono ?_
  rintro v h8 ⟨E, g, rfl, owne, x8⟩
  refine (rSame_spec (owne.row encP_len) ((ownd.ext (x7.trans x8)).row encP_len) len1 len1 (by omega)).mono ?_
  rintro v h9 ⟨rfl, rfl⟩
  refine xif_of (fun _ => ?_) (fun q => absurd q (by simp))
  have x48 := x5.trans (x6.trans (x7.trans x8))
  have ownb8 := (ownb.ext x4).ext x48
  refine (l10From_spec (ownb8.row encP_len) rfl (by omega)).mono ?_
  rintro v h10 ⟨F, g', rfl, ownf, x10⟩
  have x310 := x4.trans (x48.trans x10)
  refine (rSame_spec (ownf.row encP_len) ((ownl.ext (x3.trans x310)).row encP_len) rfl rfl (by omega)).mono ?_
  rintro v h11 ⟨rfl, rfl⟩
  refine xif_of (fun _ => ?_) (fun q => absurd q (by simp))
  have x111 := x15.trans (x6.trans (x7.trans (x8.trans x10)))
  refine ⟨_, rfl, rk x111, _, rfl, rk x111, ?_⟩
  refine (l8To_spec _ _ _).mono ?_
  rintro v h12 ⟨rfl, x12⟩
  refine ⟨⟨rk (x111.trans x12), trivial⟩, ?_⟩
  refine (bFind_spec ((ownb8.ext (x10.trans x12)).row encP_len) rfl (by omega)).mono ?_
  rintro v h13 ⟨rfl, x13'⟩
  refine ⟨⟨rk (x111.trans (x12.trans x13')), trivial⟩, ?_⟩
  refine (rFind_spec ((ownl.ext (x3.trans (x310.trans (x12.trans x13')))).row encP_len) rfl (by omega)).mono ?_
  rintro v h14 ⟨rfl, x14'⟩
  exact ⟨congrArg Value.bool (by simp), n1.ext.trans (x111.trans (x12.trans (x13'.trans x14')))⟩
end Go.Proofs.YtkppagdjakllpaaE
