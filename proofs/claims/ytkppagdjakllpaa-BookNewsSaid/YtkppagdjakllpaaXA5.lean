/- What the laws of layer 10 answer: yes. Conditions: the arguments are of their types. -/
import Derived.Test.YtkppagdjakllpaaXA4
set_option linter.unusedVariables false
set_option linter.unusedSimpArgs false
set_option maxRecDepth 100000
namespace Go.Proofs.YtkppagdjakllpaaE
open Go Go.Proofs
def env_lLearns : Nat → Ann
  | 3 => ⟨.op 0 [] <| .op 1 [] <| .op 2 [] <| .op 4 [] <| .op 5 [] <| .op 6 [] <| .op 7 [] <| .op 3 [5, 7] <| .op 8 [] <| .op 9 [] <| .op 10 [] <| .op 11 [] <| .op 12 [] <| .op 13 [] <| .nil, [0, 0, 2, 6, 0, 16, 0, 64, 255, 511, 1023, 1023, 2047, 8191], false⟩
  | 5 => ⟨.op 0 [] <| .op 1 [] <| .op 2 [] <| .op 3 [] <| .op 4 [] <| .op 5 [] <| .op 6 [] <| .op 7 [] <| .op 9 [] <| .op 8 [] <| .op 10 [] <| .op 11 [] <| .op 12 [] <| .op 13 [] <| .op 15 [] <| .op 14 [] <| .op 16 [] <| .op 17 [] <| .op 18 [] <| .op 19 [] <| .op 20 [] <| .op 21 [] <| .op 24 [] <| .op 25 [] <| .op 26 [] <| .op 22 [26] <| .op 23 [26] <| .op 27 [] <| .op 28 [] <| .op 29 [] <| .op 30 [] <| .nil, [0, 1, 3, 3, 15, 31, 63, 127, 255, 127, 1023, 2047, 4095, 8191, 16383, 8191, 65535, 131071, 262143, 524287, 524287, 1572863, 3670015, 8388607, 524287, 524287, 34078719, 134217727, 268435455, 536870911, 1073741823], false⟩
  | _ => ⟨.nil, [], false⟩
def env_lOrders : Nat → Ann
  | 3 => ⟨.op 0 [] <| .op 1 [] <| .op 2 [] <| .op 4 [] <| .op 5 [] <| .op 6 [] <| .op 7 [] <| .op 3 [5, 7] <| .op 8 [] <| .op 9 [] <| .op 10 [] <| .op 11 [] <| .op 12 [] <| .op 13 [] <| .nil, [0, 0, 2, 6, 0, 16, 0, 64, 255, 511, 1023, 1023, 2047, 8191], false⟩
  | _ => ⟨.nil, [], false⟩
def env_lAges : Nat → Ann
  | 2 => ⟨.op 0 [] <| .op 2 [] <| .op 3 [] <| .op 4 [] <| .op 5 [] <| .op 1 [3, 5] <| .op 6 [] <| .op 7 [] <| .op 8 [] <| .op 9 [] <| .op 10 [] <| .op 11 [] <| .nil, [0, 1, 0, 4, 0, 16, 63, 127, 255, 255, 511, 2047], false⟩
  | 4 => ⟨.op 0 [] <| .op 2 [] <| .op 3 [] <| .op 4 [] <| .op 5 [] <| .op 6 [] <| .op 1 [3, 5] <| .op 7 [] <| .op 8 [] <| .op 9 [] <| .op 10 [] <| .op 11 [] <| .op 12 [] <| .nil, [0, 1, 0, 4, 0, 16, 60, 127, 255, 511, 511, 1023, 4095], false⟩
  | _ => ⟨.nil, [], false⟩
def env_lKeeps : Nat → Ann
  | 2 => ⟨.op 0 [] <| .op 2 [] <| .op 3 [] <| .op 5 [] <| .op 6 [] <| .op 7 [] <| .op 8 [] <| .op 1 [3, 6, 8] <| .op 4 [6, 8] <| .op 9 [] <| .op 10 [] <| .op 11 [] <| .op 12 [] <| .op 13 [] <| .op 14 [] <| .nil, [0, 1, 0, 4, 15, 0, 32, 0, 128, 511, 1023, 2047, 2047, 4095, 16383], false⟩
  | 11 => ⟨.op 0 [] <| .op 1 [] <| .op 2 [] <| .op 3 [] <| .op 4 [] <| .op 5 [] <| .op 6 [] <| .op 7 [] <| .op 8 [] <| .op 9 [] <| .op 10 [] <| .op 11 [] <| .op 12 [] <| .op 13 [] <| .op 14 [] <| .op 15 [] <| .op 16 [] <| .op 17 [] <| .op 18 [] <| .op 19 [] <| .op 20 [] <| .op 21 [] <| .op 22 [] <| .op 23 [] <| .nil, [0, 0, 3, 7, 15, 31, 63, 63, 255, 511, 1023, 2047, 4095, 8191, 16383, 16383, 65535, 131071, 16383, 16383, 802815, 1851391, 4194303, 8388607], false⟩
  | _ => ⟨.nil, [], false⟩
theorem putM_len (xs : List Place) (e : Place) (now : Int) : (putM xs e now).1.length = xs.length := by
  unfold putM
  split <;> simp
theorem learnM_len (xs : List Place) (vid mac port now : Int) : (learnM xs vid mac port now).1.length = xs.length := by
  unfold learnM
  simp only
  split
  · simp
  · split
    · simp [putM_len]
    · split <;> simp
theorem orderM_len (xs : List Place) (vid mac port now : Int) : (orderM xs vid mac port now).1.length = xs.length := by
  unfold orderM
  simp only
  split
  · simp
  · split
    · simp [putM_len]
    · split <;> simp
theorem dropM_len (xs : List Place) (vid mac : Int) : (dropM xs vid mac).1.length = xs.length := by
  unfold dropM
  simp only
  split
  · simp
  · split <;> simp
theorem withoutM_len (gone : Place → Bool) (xs : List Place) : (withoutM gone xs).1.length = xs.length := by
  simp [withoutM]
theorem roomP_spot {now : Int} : ∀ (xs : List Place) (k : Nat) (best did g : Int), (roomP now xs k best did g).1 = best ∨ ∃ m p, (roomP now xs k best did g).1 = ((k + m : Nat) : Int) ∧ xs[m]? = some p ∧ (p.used = false ∨ p.static = false) := by
  intro xs
  induction xs with
  | nil => intro k best did g; exact .inl rfl
  | cons p ps ih =>
    intro k best did g
    simp only [roomP]
    split
    · rename_i hu
      exact .inr ⟨0, p, by simp, rfl, .inl hu⟩
    · split
      · rcases ih (k + 1) best did g with h | ⟨m, q, h1, h2, h3⟩
        · exact .inl h
        · exact .inr ⟨m + 1, q, by rw [h1]; congr 1; omega, by simpa using h2, h3⟩
      · rename_i hu hs
        split
        · rcases ih (k + 1) k 4 (ageM now p.stamp) with h | ⟨m, q, h1, h2, h3⟩
          · exact .inr ⟨0, p, by rw [h]; simp, rfl, .inr (by simpa using hs)⟩
          · exact .inr ⟨m + 1, q, by rw [h1]; congr 1; omega, by simpa using h2, h3⟩
        · rcases ih (k + 1) best did g with h | ⟨m, q, h1, h2, h3⟩
          · exact .inl h
          · exact .inr ⟨m + 1, q, by rw [h1]; congr 1; omega, by simpa using h2, h3⟩
theorem putM_keeps {xs : List Place} {e : Place} {now : Int} {i : Nat} {p : Place} (hp : xs[i]? = some p) (hu : p.used = true) (hs : p.static = true) : (putM xs e now).1[i]? = some p := by
  unfold putM
  split
  · rename_i hge
    rcases roomP_spot (now := now) xs 0 (-1) 5 0 with h | ⟨m, q, h1, h2, h3⟩
    · rw [roomM, h] at hge; omega
    · simp only
      rw [roomM, h1, Int.toNat_natCast, Nat.zero_add, List.getElem?_set_ne]
      · exact hp
      · intro hm
        subst hm
        rw [hp] at h2
        cases h2
        rcases h3 with h3 | h3
        · rw [hu] at h3; cases h3
        · rw [hs] at h3; cases h3
  · exact hp
theorem cleanP_used {p : Place} (hu : p.used = true) : cleanP p = p := by simp [cleanP, hu]
theorem learnM_keeps {xs : List Place} {vid mac port now : Int} {i : Nat} {p : Place} (hp : xs[i]? = some p) (hu : p.used = true) (hs : p.static = true) : (learnM xs vid mac port now).1[i]? = some p := by
  have hc : (xs.map cleanP)[i]? = some p := by rw [List.getElem?_map, hp]; simp [cleanP_used hu]
  cases hm : mayM vid mac port with
  | false => rw [learnM_no hm]; exact hc
  | true =>
    rcases findN_range (vid := vid) (mac := mac) (xs.map cleanP) 0 with hf | ⟨hf0, hf1⟩
    · rw [learnM_new hm hf]; exact putM_keeps hc hu hs
    · obtain ⟨j, hj⟩ : ∃ j : Nat, findN vid mac (xs.map cleanP) 0 = j := ⟨(findN vid mac (xs.map cleanP) 0).toNat, by omega⟩
      have hjl : j < (xs.map cleanP).length := by omega
      obtain ⟨w, hw⟩ : ∃ w, (xs.map cleanP)[j]? = some w := ⟨_, List.getElem?_eq_getElem hjl⟩
      rw [learnM_hit hm hj hw]
      split
      · exact hc
      · rename_i hws
        simp only
        rw [List.getElem?_set_ne]
        · exact hc
        · intro e
          subst e
          rw [hw] at hc
          cases hc
          exact hws hs
theorem withoutM_keeps {gone : Place → Bool} {xs : List Place} {i : Nat} {p : Place} (hp : xs[i]? = some p) (hu : p.used = true) (hg : gone p = false) : (withoutM gone xs).1[i]? = some p := by
  simp [withoutM, hp, cleanP_used hu, hg]
theorem lLearns_spec {A : Option Addr} {xs : List Place} {c : Nat} {vid mac port now : Int} {h : Heap} (hr : Row encP 6 h A xs) (pwf : ∀ p ∈ xs, p.Wf) (wf : KeyWf vid mac) (a0 : 0 ≤ now) (a1 : now < 4294967296) {n : Nat} (hl : xs.length = n) (hn : n ≤ 140737488355328) :
    HCalls Try.prog 3 #[.slice A n c, .agg #[.int .i64 vid, .int .u64 mac, .int .i64 port, .int .u32 now]] h (fun v h' => v = .bool true ∧ Ext h h') := by
  subst hl
  refine xcalls env_lLearns Try.func3 rfl (by kernel_rfl) rfl (by kernel_rfl) ?_
  intro bs h1 n1
  have hbs : h1[bs]? = some (.cells [.int .i64 vid, .int .u64 mac, .int .i64 port, .int .u32 now].toArray 28 (0, 0)) := n1.this
  refine (rFix_spec (n1.ext.row hr) pwf rfl hn).mono ?_
  rintro v h2 ⟨B, d, rfl, ownl, x2⟩
  have fwf : ∀ p ∈ fixM xs, p.Wf := fun p hp => (fixM_ok pwf p hp).wf
  have f8 := fixM_len xs
  obtain ⟨ys, hys⟩ : ∃ ys, fixM xs = ys := ⟨_, rfl⟩
  rw [hys] at ownl fwf f8 ⊢
  refine (l10To_spec (ownl.row encP_len) rfl (by omega)).mono ?_
  rintro v h3 ⟨C, e, rfl, ownb, x3⟩
  have x13 := x2.trans x3
  have rk : ∀ {h' : Heap}, Ext h1 h' → Reads h' ((⟨bs, 0, none⟩ : Addr).add 0) [.int .i64 vid, .int .u64 mac] := fun x => reads_at (x.blk hbs) rfl
  have rp : ∀ {h' : Heap}, Ext h1 h' → cell h' ((⟨bs, 0, none⟩ : Addr).add 2) = some (.int .i64 port) := fun x => cell_blk (x.blk hbs) rfl
  have rn : ∀ {h' : Heap}, Ext h1 h' → cell h' ((⟨bs, 0, none⟩ : Addr).add 3) = some (.int .u32 now) := fun x => cell_blk (x.blk hbs) rfl
  refine ⟨_, rfl, rk x13, _, rp x13, _, rn x13, ?_⟩
  refine (l8To_spec _ _ _).mono ?_
  rintro v h4 ⟨rfl, x4⟩
  have x14 := x13.trans x4
  refine ⟨⟨rn x14, rp x14, trivial⟩, ?_⟩
  refine (bLearn_spec ((ownb.ext x4).row encP_len) rfl (by omega) wf).mono ?_
  rintro v h5 ⟨la, rfl, owna, x5⟩
  have x15 := x14.trans x5
  refine ⟨_, rfl, rk x15, _, rp x15, _, rn x15, ?_⟩
  refine (rLearn_spec ((ownl.ext (x3.trans (x4.trans x5))).row encP_len) fwf a0 a1 rfl (by omega) wf).mono ?_
  rintro v h6 ⟨D, f, rfl, ownd, x6⟩
  refine (told10_spec _).mono ?_
  rintro v h7 ⟨rfl, x7⟩
  refine xif_of (fun _ => ?_) (fun q => absurd q (by simp))
  have len1 := learnM_len ys vid mac port now
  have owna7 := owna.ext (x6.trans x7)
  refine (l10From_spec (owna7.row encP_len) len1 (by omega)).mono ?_
  rintro v h8 ⟨E, g, rfl, owne, x8⟩
  refine (rSame_spec (owne.row encP_len) ((ownd.ext (x7.trans x8)).row encP_len) len1 len1 (by omega)).mono ?_
  rintro v h9 ⟨rfl, rfl⟩
  refine xif_of (fun _ => ?_) (fun q => absurd q (by simp))
  have x48 := x5.trans (x6.trans (x7.trans x8))
  have ownb8 := (ownb.ext x4).ext x48
  refine (l10From_spec (ownb8.row encP_len) rfl (by omega)).mono ?_
  rintro v h10 ⟨F, g', rfl, ownf, x10⟩
  have x310 := x4.trans (x48.trans x10)
  refine (rSame_spec (ownf.row encP_len) ((ownl.ext (x3.trans x310)).row encP_len) rfl rfl (by omega)).mono ?_
  rintro v h11 ⟨rfl, rfl⟩
  refine xif_of (fun _ => ?_) (fun q => absurd q (by simp))
  have x111 := x15.trans (x6.trans (x7.trans (x8.trans x10)))
  refine ⟨_, rfl, rk x111, _, rfl, rk x111, ?_⟩
  refine (l8To_spec _ _ _).mono ?_
  rintro v h12 ⟨rfl, x12⟩
  refine ⟨⟨rk (x111.trans x12), trivial⟩, ?_⟩
  refine (bFind_spec ((ownb8.ext (x10.trans x12)).row encP_len) rfl (by omega)).mono ?_
  rintro v h13 ⟨rfl, x13'⟩
  refine ⟨⟨rk (x111.trans (x12.trans x13')), trivial⟩, ?_⟩
  refine (rFind_spec ((ownl.ext (x3.trans (x310.trans (x12.trans x13')))).row encP_len) rfl (by omega)).mono ?_
  rintro v h14 ⟨rfl, x14'⟩
  exact ⟨congrArg Value.bool (by simp), n1.ext.trans (x111.trans (x12.trans (x13'.trans x14')))⟩
theorem lOrders_spec {A : Option Addr} {xs : List Place} {c : Nat} {vid mac port now : Int} {h : Heap} (hr : Row encP 6 h A xs) (pwf : ∀ p ∈ xs, p.Wf) (wf : KeyWf vid mac) (a0 : 0 ≤ now) (a1 : now < 4294967296) {n : Nat} (hl : xs.length = n) (hn : n ≤ 140737488355328) :
    HCalls Try.prog 7 #[.slice A n c, .agg #[.int .i64 vid, .int .u64 mac, .int .i64 port, .int .u32 now]] h (fun v h' => v = .bool true ∧ Ext h h') := by
  subst hl
  refine xcalls env_lOrders Try.func7 rfl (by kernel_rfl) rfl (by kernel_rfl) ?_
  intro bs h1 n1
  have hbs : h1[bs]? = some (.cells [.int .i64 vid, .int .u64 mac, .int .i64 port, .int .u32 now].toArray 28 (0, 0)) := n1.this
  refine (rFix_spec (n1.ext.row hr) pwf rfl hn).mono ?_
  rintro v h2 ⟨B, d, rfl, ownl, x2⟩
  have fwf : ∀ p ∈ fixM xs, p.Wf := fun p hp => (fixM_ok pwf p hp).wf
  have f8 := fixM_len xs
  obtain ⟨ys, hys⟩ : ∃ ys, fixM xs = ys := ⟨_, rfl⟩
  rw [hys] at ownl fwf f8 ⊢
  refine (l10To_spec (ownl.row encP_len) rfl (by omega)).mono ?_
  rintro v h3 ⟨C, e, rfl, ownb, x3⟩
  have x13 := x2.trans x3
  have rk : ∀ {h' : Heap}, Ext h1 h' → Reads h' ((⟨bs, 0, none⟩ : Addr).add 0) [.int .i64 vid, .int .u64 mac] := fun x => reads_at (x.blk hbs) rfl
  have rp : ∀ {h' : Heap}, Ext h1 h' → cell h' ((⟨bs, 0, none⟩ : Addr).add 2) = some (.int .i64 port) := fun x => cell_blk (x.blk hbs) rfl
  have rn : ∀ {h' : Heap}, Ext h1 h' → cell h' ((⟨bs, 0, none⟩ : Addr).add 3) = some (.int .u32 now) := fun x => cell_blk (x.blk hbs) rfl
  refine ⟨_, rfl, rk x13, _, rp x13, _, rn x13, ?_⟩
  refine (l8To_spec _ _ _).mono ?_
  rintro v h4 ⟨rfl, x4⟩
  have x14 := x13.trans x4
  refine ⟨⟨rn x14, rp x14, trivial⟩, ?_⟩
  refine (bOrder_spec ((ownb.ext x4).row encP_len) rfl (by omega) wf).mono ?_
  rintro v h5 ⟨la, rfl, owna, x5⟩
  have x15 := x14.trans x5
  refine ⟨_, rfl, rk x15, _, rp x15, _, rn x15, ?_⟩
  refine (rOrder_spec ((ownl.ext (x3.trans (x4.trans x5))).row encP_len) fwf a0 a1 rfl (by omega) wf).mono ?_
  rintro v h6 ⟨D, f, rfl, ownd, x6⟩
  have x16 := x15.trans x6
  refine ⟨_, rfl, rk x16, ?_⟩
  refine (l8To_spec _ _ _).mono ?_
  rintro v h7 ⟨rfl, x7⟩
  have x47 := x5.trans (x6.trans x7)
  have ownb7 := (ownb.ext x4).ext x47
  refine (bDrop_spec (ownb7.row encP_len) rfl (by omega)).mono ?_
  rintro v h8 ⟨lc, rfl, ownc, x8⟩
  have x38 := x4.trans (x47.trans x8)
  have x18 := x13.trans x38
  refine ⟨_, rfl, rk x18, ?_⟩
  refine (rDrop_spec ((ownl.ext (x3.trans x38)).row encP_len) rfl (by omega)).mono ?_
  rintro v h9 ⟨F, g, rfl, ownf, x9⟩
  refine (told10_spec _).mono ?_
  rintro v h10 ⟨rfl, x10⟩
  have x810 := x9.trans x10
  refine xif_of (fun _ => ?_) (fun q => absurd q (by simp))
  have len1 := orderM_len ys vid mac port now
  have len2 := dropM_len ys vid mac
  refine (l10From_spec ((owna.ext ((x6.trans x7).trans (x8.trans x810))).row encP_len) len1 (by omega)).mono ?_
  rintro v h11 ⟨G, g1, rfl, owng, x11⟩
  refine (rSame_spec (owng.row encP_len) ((ownd.ext (x7.trans (x8.trans (x810.trans x11)))).row encP_len) len1 len1 (by omega)).mono ?_
  rintro v h12 ⟨rfl, rfl⟩
  refine xif_of (fun _ => ?_) (fun q => absurd q (by simp))
  refine xif_of (fun _ => ?_) (fun q => absurd q (by simp))
  refine (l10From_spec ((ownc.ext (x810.trans x11)).row encP_len) len2 (by omega)).mono ?_
  rintro v h13 ⟨I, g2, rfl, owni, x13'⟩
  refine (rSame_spec (owni.row encP_len) ((ownf.ext (x10.trans (x11.trans x13'))).row encP_len) len2 len2 (by omega)).mono ?_
  rintro v h14 ⟨rfl, rfl⟩
  refine xif_of (fun _ => ?_) (fun q => absurd q (by simp))
  have x813 := x810.trans (x11.trans x13')
  refine (l10From_spec ((ownb7.ext (x8.trans x813)).row encP_len) rfl (by omega)).mono ?_
  rintro v h15 ⟨J, g3, rfl, ownj, x15'⟩
  refine (rSame_spec (ownj.row encP_len) ((ownl.ext (x3.trans (x38.trans (x813.trans x15')))).row encP_len) rfl rfl (by omega)).mono ?_
  rintro v h16 ⟨rfl, rfl⟩
  exact ⟨congrArg Value.bool (by simp), n1.ext.trans (x18.trans (x813.trans x15'))⟩
theorem lAges_spec {A : Option Addr} {xs : List Place} {c : Nat} {now limit port vid : Int} {h : Heap} (hr : Row encP 6 h A xs) (pwf : ∀ p ∈ xs, p.Wf) (a0 : 0 ≤ now) (a1 : now < 4294967296) {n : Nat} (hl : xs.length = n) (hn : n ≤ 140737488355328) :
    HCalls Try.prog 5 #[.slice A n c, .agg #[.int .u32 now, .int .u32 limit], .agg #[.int .i64 port, .int .i64 vid]] h (fun v h' => v = .bool true ∧ Ext h h') := by
  subst hl
  refine xcalls env_lAges Try.func5 rfl (by kernel_rfl) rfl (by kernel_rfl) ?_
  intro bw h0 n0 bf h1 n1
  have hbf : h1[bf]? = some (.cells [.int .i64 port, .int .i64 vid].toArray 57 (0, 0)) := n1.this
  have hbw : h1[bw]? = some (.cells [.int .u32 now, .int .u32 limit].toArray 55 (0, 0)) := n1.ext.blk n0.this
  have x01 := n0.ext.trans n1.ext
  refine (rFix_spec (x01.row hr) pwf rfl hn).mono ?_
  rintro v h2 ⟨B, d, rfl, ownl, x2⟩
  have fwf : ∀ p ∈ fixM xs, p.Wf := fun p hp => (fixM_ok pwf p hp).wf
  have f8 := fixM_len xs
  obtain ⟨ys, hys⟩ : ∃ ys, fixM xs = ys := ⟨_, rfl⟩
  rw [hys] at ownl fwf f8 ⊢
  have rn : ∀ {h' : Heap}, Ext h1 h' → cell h' ((⟨bw, 0, none⟩ : Addr).add 0) = some (.int .u32 now) := fun x => cell_blk (x.blk hbw) rfl
  have rl : ∀ {h' : Heap}, Ext h1 h' → cell h' ((⟨bw, 0, none⟩ : Addr).add 1) = some (.int .u32 limit) := fun x => cell_blk (x.blk hbw) rfl
  have rp : ∀ {h' : Heap}, Ext h1 h' → cell h' ((⟨bf, 0, none⟩ : Addr).add 0) = some (.int .i64 port) := fun x => cell_blk (x.blk hbf) rfl
  have rv : ∀ {h' : Heap}, Ext h1 h' → cell h' ((⟨bf, 0, none⟩ : Addr).add 1) = some (.int .i64 vid) := fun x => cell_blk (x.blk hbf) rfl
  refine ⟨_, rn x2, _, rl x2, ?_⟩
  refine (l10To_spec (ownl.row encP_len) rfl (by omega)).mono ?_
  rintro v h3 ⟨C, e, rfl, ownb, x3⟩
  have x13 := x2.trans x3
  refine ⟨⟨rl x13, rn x13, trivial⟩, ?_⟩
  refine (bAge_spec (ownb.row encP_len) rfl (by omega)).mono ?_
  rintro v h4 ⟨la, rfl, owna, x4⟩
  have x14 := x13.trans x4
  refine ⟨_, rn x14, _, rl x14, ?_⟩
  have ownl4 := ownl.ext (x3.trans x4)
  refine (rBAge_spec (ownl4.row encP_len) rfl (by omega) fwf a0 a1).mono ?_
  rintro v h5 ⟨D, f, rfl, ownd, x5⟩
  have x15 := x14.trans x5
  refine ⟨_, rp x15, _, rv x15, ?_⟩
  have ownl5 := ownl4.ext x5
  refine (l10To_spec (ownl5.row encP_len) rfl (by omega)).mono ?_
  rintro v h6 ⟨F, g, rfl, ownf, x6⟩
  have x16 := x15.trans x6
  refine ⟨⟨rv x16, rp x16, trivial⟩, ?_⟩
  refine (bFlush_spec (ownf.row encP_len) rfl (by omega)).mono ?_
  rintro v h7 ⟨lc, rfl, ownc, x7⟩
  have x17 := x16.trans x7
  refine ⟨_, rfl, reads_all (x17.blk hbf), ?_⟩
  refine (rFlush_spec ((ownl5.ext (x6.trans x7)).row encP_len) rfl (by omega)).mono ?_
  rintro v h8 ⟨G, g1, rfl, owng, x8⟩
  refine (told10_spec _).mono ?_
  rintro v h9 ⟨rfl, x9⟩
  refine xif_of (fun _ => ?_) (fun q => absurd q (by simp))
  have len1 := withoutM_len (oldM now limit) ys
  have len2 := withoutM_len (hitM port vid) ys
  have x79 := x8.trans x9
  have x59 := x6.trans (x7.trans x79)
  refine (l10From_spec ((owna.ext (x5.trans x59)).row encP_len) len1 (by omega)).mono ?_
  rintro v h10 ⟨I, g2, rfl, owni, x10⟩
  refine (rSame_spec (owni.row encP_len) ((ownd.ext (x59.trans x10)).row encP_len) len1 len1 (by omega)).mono ?_
  rintro v h11 ⟨rfl, rfl⟩
  refine xif_of (fun _ => ?_) (fun q => absurd q (by simp))
  refine xif_of (fun _ => ?_) (fun q => absurd q (by simp))
  refine (l10From_spec ((ownc.ext (x79.trans x10)).row encP_len) len2 (by omega)).mono ?_
  rintro v h12 ⟨J, g3, rfl, ownj, x12⟩
  refine (rSame_spec (ownj.row encP_len) ((owng.ext (x9.trans (x10.trans x12))).row encP_len) len2 len2 (by omega)).mono ?_
  rintro v h13 ⟨rfl, rfl⟩
  exact ⟨congrArg Value.bool (by simp), x01.trans (x17.trans (x79.trans (x10.trans x12)))⟩
theorem lKeeps_spec {A : Option Addr} {xs : List Place} {c : Nat} {vid mac port now fport fvid : Int} {h : Heap} (hr : Row encP 6 h A xs) (pwf : ∀ p ∈ xs, p.Wf) (wf : KeyWf vid mac) {n : Nat} (hl : xs.length = n) (hn : n ≤ 140737488355328) :
    HCalls Try.prog 6 #[.slice A n c, .agg #[.int .i64 vid, .int .u64 mac, .int .i64 port, .int .u32 now], .agg #[.int .i64 fport, .int .i64 fvid]] h (fun v h' => v = .bool true ∧ Ext h h') := by
  subst hl
  refine xcalls env_lKeeps Try.func6 rfl (by kernel_rfl) rfl (by kernel_rfl) ?_
  intro bs h0 n0 bf h1 n1
  have hbs : h1[bs]? = some (.cells [.int .i64 vid, .int .u64 mac, .int .i64 port, .int .u32 now].toArray 28 (0, 0)) := n1.ext.blk n0.this
  have hbf : h1[bf]? = some (.cells [.int .i64 fport, .int .i64 fvid].toArray 57 (0, 0)) := n1.this
  have x01 := n0.ext.trans n1.ext
  refine (rFix_spec (x01.row hr) pwf rfl hn).mono ?_
  rintro v h2 ⟨B, d, rfl, ownl, x2⟩
  have fok : ∀ p ∈ fixM xs, p.Ok := fixM_ok pwf
  have f8 := fixM_len xs
  obtain ⟨ys, hys⟩ : ∃ ys, fixM xs = ys := ⟨_, rfl⟩
  rw [hys] at ownl fok f8 ⊢
  have rk : ∀ {h' : Heap}, Ext h1 h' → Reads h' ((⟨bs, 0, none⟩ : Addr).add 0) [.int .i64 vid, .int .u64 mac] := fun x => reads_at (x.blk hbs) rfl
  have rp : ∀ {h' : Heap}, Ext h1 h' → cell h' ((⟨bs, 0, none⟩ : Addr).add 2) = some (.int .i64 port) := fun x => cell_blk (x.blk hbs) rfl
  have rn : ∀ {h' : Heap}, Ext h1 h' → cell h' ((⟨bs, 0, none⟩ : Addr).add 3) = some (.int .u32 now) := fun x => cell_blk (x.blk hbs) rfl
  have rfp : ∀ {h' : Heap}, Ext h1 h' → cell h' ((⟨bf, 0, none⟩ : Addr).add 0) = some (.int .i64 fport) := fun x => cell_blk (x.blk hbf) rfl
  have rfv : ∀ {h' : Heap}, Ext h1 h' → cell h' ((⟨bf, 0, none⟩ : Addr).add 1) = some (.int .i64 fvid) := fun x => cell_blk (x.blk hbf) rfl
  refine ⟨_, rfl, rk x2, _, rp x2, _, rn x2, ?_⟩
  refine (l10To_spec (ownl.row encP_len) rfl (by omega)).mono ?_
  rintro v h3 ⟨C, e, rfl, ownb, x3⟩
  have x13 := x2.trans x3
  refine ⟨⟨rn x13, rp x13, rk x13, trivial⟩, ?_⟩
  refine (l8To_spec _ _ _).mono ?_
  rintro v h4 ⟨rfl, x4⟩
  have x14 := x13.trans x4
  refine ⟨⟨rn x14, rp x14, trivial⟩, ?_⟩
  refine (bLearn_spec ((ownb.ext x4).row encP_len) rfl (by omega) wf).mono ?_
  rintro v h5 ⟨la, rfl, owna, x5⟩
  have len1 := learnM_len ys vid mac port now
  have kp1 : ∀ {i : Nat} {p : Place}, ys[i]? = some p → p.used = true → p.static = true → (learnM ys vid mac port now).1[i]? = some p := learnM_keeps
  obtain ⟨y1, hy1⟩ : ∃ y1, (learnM ys vid mac port now).1 = y1 := ⟨_, rfl⟩
  rw [hy1] at owna len1 kp1
  have x15 := x14.trans x5
  refine ⟨_, rn x15, ?_⟩
  refine (bAge_spec (owna.row encP_len) len1 (by omega)).mono ?_
  rintro v h6 ⟨lb, rfl, ownb6, x6⟩
  have len2 := (withoutM_len (oldM now 0) y1).trans len1
  have kp2 : ∀ {i : Nat} {p : Place}, ys[i]? = some p → p.used = true → p.static = true → (withoutM (oldM now 0) y1).1[i]? = some p := fun h1 h2 h3 => withoutM_keeps (kp1 h1 h2 h3) h2 (by simp [oldM, h3])
  obtain ⟨y2, hy2⟩ : ∃ y2, (withoutM (oldM now 0) y1).1 = y2 := ⟨_, rfl⟩
  rw [hy2] at ownb6 len2 kp2
  have x16 := x15.trans x6
  refine ⟨_, rfp x16, _, rfv x16, ?_⟩
  refine (bFlush_spec (ownb6.row encP_len) len2 (by omega)).mono ?_
  rintro v h7 ⟨lc, rfl, ownc, x7⟩
  have len3 := (withoutM_len (hitM fport fvid) y2).trans len2
  have kp3 : ∀ {i : Nat} {p : Place}, ys[i]? = some p → p.used = true → p.static = true → (withoutM (hitM fport fvid) y2).1[i]? = some p := fun h1 h2 h3 => withoutM_keeps (kp2 h1 h2 h3) h2 (by simp [hitM, h3])
  obtain ⟨y3, hy3⟩ : ∃ y3, (withoutM (hitM fport fvid) y2).1 = y3 := ⟨_, rfl⟩
  rw [hy3] at ownc len3 kp3
  refine (l10From_spec (ownc.row encP_len) len3 (by omega)).mono ?_
  rintro v h8 ⟨D, f, rfl, ownd, x8⟩
  have x28 := x3.trans (x4.trans (x5.trans (x6.trans (x7.trans x8))))
  have rowl := (ownl.ext x28).row encP_len
  have rowd := ownd.row encP_len
  have x18 := x2.trans x28
  refine xif_of (fun q => absurd q (by simp)) (fun _ => ?_)
  refine ⟨Nat, fun i => [(0, .slice B ys.length d), (13, .slice D ys.length f), (14, .int .i64 i)], fun i h' => h' = h8 ∧ i ≤ ys.length, fun i => ys.length - i, 0, ⟨rfl, rfl, rfl, trivial⟩, ⟨rfl, Nat.zero_le _⟩, ?_⟩
  rintro i h9 ⟨rfl, hi⟩
  refine xif_of (fun hlt => ?_) (fun hge => ?_)
  · have hlt : i < ys.length := by simpa using hlt
    obtain ⟨p, hp⟩ : ∃ p, ys[i]? = some p := ⟨ys[i], by simp [hlt]⟩
    obtain ⟨w, hw⟩ : ∃ w, y3[i]? = some w := ⟨y3[i]'(by omega), List.getElem?_eq_getElem (by omega)⟩
    obtain ⟨a, rfl, hrd⟩ := rowl i p hp
    obtain ⟨b, rfl, hwd⟩ := rowd i w hw
    refine ⟨a, rfl, by omega, by omega, .bool p.used, hrd.get 0 rfl, ?_⟩
    refine xif_of (fun hu => ?_) (fun hu => ?_)
    · have hst : cell h9 (((a.add ((i : Int).toNat * 6)).add 1).add 3) = some (.bool p.static) := by simp only [add_add]; exact hrd.cellAt 4 (by omega) rfl
      refine ⟨a, rfl, by omega, by omega, .bool p.static, hst, ?_⟩
      refine xif_of (fun hs => ?_) (fun hs => ?_)
      · have hwp : w = p := by have := kp3 hp hu hs; rw [hw] at this; exact Option.some.inj this
        subst hwp
        refine ⟨b, rfl, by omega, by omega, encP w, rfl, hwd, a, rfl, by omega, by omega, encP w, rfl, hrd, ?_⟩
        refine xeq_of (eqPlaceRG w) (eqPlaceR w w) ?_
        rw [Place.decEq']
        refine xif_of (fun hd => absurd hd (by simp)) (fun _ => ?_)
        exact ⟨i + 1, ⟨rfl, rfl, slot_inc (by omega), trivial⟩, ⟨rfl, by omega⟩, by show ys.length - (i + 1) < ys.length - i; omega⟩
      · exact ⟨i + 1, ⟨rfl, rfl, slot_inc (by omega), trivial⟩, ⟨rfl, by omega⟩, by show ys.length - (i + 1) < ys.length - i; omega⟩
    · exact ⟨i + 1, ⟨rfl, rfl, slot_inc (by omega), trivial⟩, ⟨rfl, by omega⟩, by show ys.length - (i + 1) < ys.length - i; omega⟩
  · refine (told10_spec _).mono ?_
    rintro v h10 ⟨rfl, x10⟩
    exact ⟨rfl, x01.trans (x18.trans x10)⟩
end Go.Proofs.YtkppagdjakllpaaE
