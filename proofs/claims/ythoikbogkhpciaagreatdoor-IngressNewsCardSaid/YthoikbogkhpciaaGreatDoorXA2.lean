/- What the functions of layer 10 (bucket) answer. Conditions: the arguments are of their types; lists are not longer than a bound. -/
import Derived.Test.YthoikbogkhpciaaGreatDoorXLib
import Derived.Test.YthoikbogkhpciaaGreatDoorXA1
set_option linter.unusedVariables false
set_option linter.unusedSimpArgs false
set_option maxRecDepth 100000
namespace Go.Proofs.YthoikbogkhpciaaGreatDoorE
open Go Go.Proofs
theorem eqKey (a b c d : Int) : eqv Tryz.prog 60 95 (.agg #[.int .i64 a, .int .u64 b]) (.agg #[.int .i64 c, .int .u64 d]) = some (a == c && (b == d && true)) := by kernel_rfl
theorem eqKeyG (a b : Int) : guardBad Tryz.prog 95 (.agg #[.int .i64 a, .int .u64 b]) = false := by kernel_rfl
theorem bFind_spec {A : Option Addr} {xs : List Place} {c : Nat} {vid mac : Int} {h : Heap} (hr : Row encP 6 h A xs) {n : Nat} (hl : xs.length = n) (hn : n ≤ 140737488355328) :
    HCalls Tryz.prog 122 #[.slice A n c, .agg #[.int .i64 vid, .int .u64 mac]] h (fun v h' => v = .int .i64 (findN vid mac xs 0) ∧ Ext h h') := by
  subst hl
  refine xcalls env0 Tryz.func122 rfl (by kernel_rfl) rfl (by kernel_rfl) ?_
  intro b3 h1 n1
  refine ⟨Nat, fun i => [(7, .slice A xs.length c), (8, .int .i64 xs.length), (9, .int .i64 i), (3, .pointer (some ⟨b3, 0, none⟩))], fun i h' => i ≤ xs.length ∧ findN vid mac (xs.drop i) i = findN vid mac xs 0 ∧ Ext h1 h', fun i => xs.length - i, 0, ⟨rfl, rfl, rfl, rfl, trivial⟩, ⟨Nat.zero_le _, rfl, Ext.refl _⟩, ?_⟩
  rintro i h2 ⟨hi, hf, x2⟩
  refine xif_of (fun hlt => ?_) (fun hge => ?_)
  · have hlt : i < xs.length := by simpa using hlt
    obtain ⟨p, hp⟩ : ∃ p, xs[i]? = some p := ⟨xs[i], by simp [hlt]⟩
    obtain ⟨a, rfl, hrd⟩ := (x2.row (n1.ext.row hr)) i p hp
    refine ⟨a, rfl, by omega, by omega, encP p, rfl, hrd, ?_⟩
    intro b6 h3 n3
    refine ⟨rfl, rfl, canset_blk n3.this rfl, fun h4 s4 => ?_⟩
    have hb6 : h4[b6]? = some (.cells (encP p).toArray 200 (0, 0)) := s4.put (ws := [_, _, _, _, _, _]) n3.this
    have x4 : Ext h1 h4 := (x2.new n3).stored s4 (n3.ge x2)
    refine ⟨_, cell_blk hb6 rfl, ?_⟩
    refine xif_of (fun hu => ?_) (fun hu => ?_)
    · refine ⟨[.int .i64 p.vid, .int .u64 p.mac], rfl, reads_at hb6 rfl, ?_⟩
      refine ⟨[.int .i64 vid, .int .u64 mac], rfl, reads_all (x4.blk n1.this), ?_⟩
      refine xeq_of (eqKeyG _ _) (eqKey _ _ _ _) ?_
      refine xif_of (fun he => ?_) (fun he => ?_)
      · refine ⟨?_, n1.ext.trans x4⟩
        rw [← hf, findN_drop hp, if_pos (by simpa [hasKey, hu] using he)]
        rfl
      · refine ⟨i + 1, ⟨rfl, rfl, slot_inc (by omega), rfl, trivial⟩, ⟨by omega, ?_, x4⟩, by show xs.length - (i + 1) < xs.length - i; omega⟩
        rw [← hf, findN_drop hp, if_neg (by simpa [hasKey, hu] using he)]
    · refine ⟨i + 1, ⟨rfl, rfl, slot_inc (by omega), rfl, trivial⟩, ⟨by omega, ?_, x4⟩, by show xs.length - (i + 1) < xs.length - i; omega⟩
      rw [← hf, findN_drop hp, if_neg (by simp [hasKey, hu])]
  · refine ⟨?_, n1.ext.trans x2⟩
    have : xs.length ≤ i := by simpa using hge
    rw [← hf, findN_end this]
    rfl
theorem bRoom_spec {A : Option Addr} {xs : List Place} {c : Nat} {now : Int} {h : Heap} (hr : Row encP 6 h A xs) {n : Nat} (hl : xs.length = n) (hn : n ≤ 140737488355328) :
    HCalls Tryz.prog 142 #[.slice A n c, .int .u32 now] h (fun v h' => v = .tuple #[.int .i64 (roomM xs now).1, .int .i64 (roomM xs now).2] ∧ Ext h h') := by
  subst hl
  refine xcalls env0 Tryz.func142 rfl (by kernel_rfl) rfl (by kernel_rfl) ?_
  refine ⟨Nat × Int × Int × Int, fun s => [(1, .int .u32 now), (6, .int .i64 s.2.1), (7, .int .i64 s.2.2.1), (8, .int .u32 s.2.2.2), (12, .slice A xs.length c), (13, .int .i64 xs.length), (14, .int .i64 s.1)],
    fun s h' => s.1 ≤ xs.length ∧ roomP now (xs.drop s.1) s.1 s.2.1 s.2.2.1 s.2.2.2 = roomM xs now ∧ Ext h h', fun s => xs.length - s.1, (0, -1, 5, 0), ⟨rfl, rfl, rfl, rfl, rfl, rfl, rfl, trivial⟩, ⟨Nat.zero_le _, rfl, Ext.refl _⟩, ?_⟩
  rintro ⟨i, best, did, g⟩ h2 ⟨hi, hf, x2⟩
  simp only at hi hf
  refine xif_of (fun hlt => ?_) (fun hge => ?_)
  · have hlt : i < xs.length := by simpa using hlt
    obtain ⟨p, hp⟩ : ∃ p, xs[i]? = some p := ⟨xs[i], by simp [hlt]⟩
    rw [roomP_drop hp] at hf
    obtain ⟨a, rfl, hrd⟩ := (x2.row hr) i p hp
    refine ⟨a, rfl, by omega, by omega, encP p, rfl, hrd, ?_⟩
    intro b6 h3 n3
    refine ⟨rfl, rfl, canset_blk n3.this rfl, fun h4 s4 => ?_⟩
    have hb6 : h4[b6]? = some (.cells (encP p).toArray 200 (0, 0)) := s4.put (ws := [_, _, _, _, _, _]) n3.this
    have x4 : Ext h h4 := (x2.new n3).stored s4 (n3.ge x2)
    have nxt : ∀ (best' did' g' : Int), roomP now (xs.drop (i + 1)) (i + 1) best' did' g' = roomM xs now → ∃ x' : Nat × Int × Int × Int,
        (some (Value.int .u32 now) = some (Value.int .u32 now) ∧ some (Value.int .i64 best') = some (Value.int .i64 x'.2.1) ∧ some (Value.int .i64 did') = some (Value.int .i64 x'.2.2.1) ∧ some (Value.int .u32 g') = some (Value.int .u32 x'.2.2.2) ∧ some (Value.slice (some a) xs.length c) = some (Value.slice (some a) xs.length c) ∧ some (Value.int .i64 xs.length) = some (Value.int .i64 xs.length) ∧
          some (Value.int .i64 (IntKind.i64.wrap ((i : Int) + 1))) = some (Value.int .i64 x'.1) ∧ True) ∧ (x'.1 ≤ xs.length ∧ roomP now (xs.drop x'.1) x'.1 x'.2.1 x'.2.2.1 x'.2.2.2 = roomM xs now ∧ Ext h h4) ∧ xs.length - x'.1 < xs.length - i :=
      fun best' did' g' e => ⟨(i + 1, best', did', g'), ⟨rfl, rfl, rfl, rfl, rfl, rfl, slot_inc (by omega), trivial⟩, ⟨by omega, e, x4⟩, by show xs.length - (i + 1) < xs.length - i; omega⟩
    refine ⟨_, cell_blk hb6 rfl, ?_⟩
    refine xif_of (fun hu => ?_) (fun hu => ?_)
    · refine ⟨?_, x4⟩
      rw [if_pos (by simpa using hu)] at hf
      rw [← hf]; rfl
    rw [if_neg (by simpa using hu)] at hf
    refine ⟨_, cell_blk hb6 rfl, ?_⟩
    refine xif_of (fun hs => ?_) (fun hs => ?_)
    · rw [if_pos hs] at hf
      exact nxt _ _ _ hf
    rw [if_neg (by simp [hs])] at hf
    refine ⟨_, cell_blk hb6 rfl, ?_⟩
    refine (tAge_spec _ _ _).mono ?_
    rintro v h5 ⟨rfl, rfl⟩
    refine xif_of (fun hb => ?_) (fun hb => ?_)
    · rw [if_pos (.inl (of_decide_eq_true hb))] at hf
      exact nxt _ _ _ hf
    have hb : ¬ best < 0 := of_decide_eq_false hb
    refine xif_of (fun hg => ?_) (fun hg => ?_)
    · rw [if_pos (.inr (of_decide_eq_true hg))] at hf
      exact nxt _ _ _ hf
    · have hg : ¬ ageM now p.stamp > g := of_decide_eq_false hg
      rw [if_neg (by omega)] at hf
      exact nxt _ _ _ hf
  · have : xs.length ≤ i := by simpa using hge
    rw [List.drop_eq_nil_of_le this] at hf
    refine ⟨?_, x2⟩
    rw [← hf]; rfl
theorem bCopied_spec {A : Option Addr} {xs : List Place} {c : Nat} {h : Heap} (hr : Row encP 6 h A xs) {n : Nat} (hl : xs.length = n) (hn : n ≤ 1000000) :
    HCalls Tryz.prog 120 #[.slice A n c] h (fun v h' => ∃ b, v = .slice (some ⟨b, 0, none⟩) n n ∧ OwnA encP 6 200 h.size h' (some ⟨b, 0, none⟩) n (xs.map cleanP) ∧ Ext h h') := by
  subst hl
  refine xcalls env0 Tryz.func120 rfl (by kernel_rfl) rfl (by kernel_rfl) ?_
  refine ⟨by omega, by omega, by show (40 : Int) * _ ≤ _; omega, by omega, fun bo h1 n1 => ?_⟩
  have own1 : OwnA encP 6 200 h.size h1 (some ⟨bo, 0, none⟩) xs.length (List.replicate xs.length Place.none) := OwnA.made xs.length (zs := encP Place.none) (by rw [Int.toNat_natCast] at n1; exact n1) rfl (Nat.le_refl _)
  refine ⟨Nat, fun i => [(3, .slice (some ⟨bo, 0, none⟩) xs.length xs.length), (9, .slice A xs.length c), (10, .int .i64 xs.length), (11, .int .i64 i)],
    fun i h' => i ≤ xs.length ∧ OwnA encP 6 200 h.size h' (some ⟨bo, 0, none⟩) xs.length ((xs.take i).map cleanP ++ List.replicate (xs.length - i) Place.none) ∧ Ext h h', fun i => xs.length - i, 0, ⟨rfl, rfl, rfl, rfl, trivial⟩, ⟨Nat.zero_le _, own1, n1.ext⟩, ?_⟩
  rintro i h2 ⟨hi, own2, x2⟩
  refine xif_of (fun hlt => ?_) (fun hge => ?_)
  · have hlt : i < xs.length := by simpa using hlt
    obtain ⟨p, hp⟩ : ∃ p, xs[i]? = some p := ⟨xs[i], by simp [hlt]⟩
    have hlen : ((xs.take i).map cleanP ++ List.replicate (xs.length - i) Place.none).length = xs.length := by simp; omega
    have hnext : ((xs.take i).map cleanP ++ List.replicate (xs.length - i) Place.none).set i (cleanP p) = (xs.take (i + 1)).map cleanP ++ List.replicate (xs.length - (i + 1)) Place.none := by
      have hpi : xs[i] = p := by rw [List.getElem?_eq_getElem hlt] at hp; exact Option.some.inj hp
      rw [List.set_append_right _ _ (by simp; omega), List.take_succ_eq_append_getElem hlt, hpi, show xs.length - i = (xs.length - (i + 1)) + 1 by omega, List.replicate_succ]
      simp [Nat.min_eq_left hi]
    have hat : ((xs.take i).map cleanP ++ List.replicate (xs.length - i) Place.none)[i]? = some Place.none := by
      rw [List.getElem?_append_right (by simp; omega), List.getElem?_replicate, if_pos (by simp; omega)]
    obtain ⟨a, rfl, hrd⟩ := (x2.row hr) i p hp
    refine ⟨a, rfl, by omega, by omega, encP p, rfl, hrd, ?_⟩
    intro b6 h3 n3
    refine ⟨rfl, rfl, canset_blk n3.this rfl, fun h4 s4 => ?_⟩
    have hb6 : h4[b6]? = some (.cells (encP p).toArray 200 (0, 0)) := s4.put (ws := [_, _, _, _, _, _]) n3.this
    have x4 : Ext h2 h4 := n3.ext.stored s4 (by rw [n3.at_]; exact Nat.le_refl _)
    have own4 := own2.ext x4
    refine ⟨_, cell_blk hb6 rfl, ?_⟩
    refine xif_of (fun hu => ?_) (fun hu => ?_)
    · obtain ⟨b, hb, hg, hcs⟩ := own4.canset encP_len (i := i) (j := 0) (n := 6) (by omega) (by omega)
      cases hb
      refine ⟨encP p, rfl, reads_all hb6, ?_⟩
      refine ⟨_, rfl, by omega, by omega, rfl, rfl, ?_, fun h5 s5 => ?_⟩
      · rw [add_lit, Nat.zero_add, Int.toNat_natCast]; exact hcs
      rw [add_lit, Nat.zero_add, Int.toNat_natCast] at s5
      have hcl : cleanP p = p := by simp [cleanP, hu]
      have own5 := own4.put encP_len (j := 0) (x' := cleanP p) rfl s5 hat (Nat.le_refl 6) (by rw [hcl]; rfl)
      rw [hnext] at own5
      exact ⟨i + 1, ⟨rfl, rfl, rfl, slot_inc (by omega), trivial⟩, ⟨by omega, own5, (x2.trans x4).stored s5 hg⟩, by show xs.length - (i + 1) < xs.length - i; omega⟩
    · have hcl : cleanP p = Place.none := by simp [cleanP, hu]
      rw [hcl, set_same hat] at hnext
      rw [hnext] at own4
      exact ⟨i + 1, ⟨rfl, rfl, rfl, slot_inc (by omega), trivial⟩, ⟨by omega, own4, x2.trans x4⟩, by show xs.length - (i + 1) < xs.length - i; omega⟩
  · have : i = xs.length := by have : xs.length ≤ i := by simpa using hge
                               omega
    subst this
    simp only [List.take_length, Nat.sub_self, List.replicate_zero, List.append_nil] at own2
    exact ⟨bo, rfl, own2, x2⟩
theorem bPut_spec {A : Option Addr} {xs : List Place} {c base : Nat} {e : Place} {now : Int} {h : Heap} (own : OwnA encP 6 200 base h A c xs) {n : Nat} (hl : xs.length = n) (hn : n ≤ 1000000) :
    HCalls Tryz.prog 123 #[.slice A n c, .agg (encE e).toArray, .int .u32 now] h (fun v h' => v = .tuple #[.slice A n c, .int .i64 (putM xs e now).2] ∧ OwnA encP 6 200 base h' A c (putM xs e now).1 ∧ KeepA A h h') := by
  subst hl
  refine xcalls env0 Tryz.func123 rfl (by kernel_rfl) rfl (by kernel_rfl) ?_
  intro b4 h1 n1
  have own1 := own.ext n1.ext
  refine (bRoom_spec (own1.row encP_len) rfl (by omega)).mono ?_
  rintro v h2 ⟨rfl, x2⟩
  have own2 := own1.ext x2
  have rng := roomM_range xs now
  refine xif_of (fun hge => ?_) (fun hlt => ?_)
  · have hge : (roomM xs now).1 ≥ 0 := of_decide_eq_true hge
    obtain ⟨i, hi⟩ : ∃ i : Nat, (roomM xs now).1 = i := ⟨(roomM xs now).1.toNat, by omega⟩
    have hil : i < xs.length := by omega
    obtain ⟨b, rfl, hg, hcs⟩ := own2.canset encP_len (i := i) (j := 0) (n := 6) hil (by omega)
    refine ⟨encE e, rfl, reads_all (x2.blk n1.this), ?_⟩
    refine ⟨_, rfl, by omega, by omega, rfl, rfl, ?_, fun h3 s3 => ?_⟩
    · rw [add_lit, Nat.zero_add, show (roomM xs now).1.toNat = i by omega]; exact hcs
    rw [add_lit, Nat.zero_add, show (roomM xs now).1.toNat = i by omega] at s3
    have own3 := own2.put encP_len (j := 0) (x' := { e with used := true }) rfl s3 (List.getElem?_eq_getElem hil) (Nat.le_refl 6) rfl
    refine ⟨?_, ?_, ((n1.ext.trans x2).keepA _).trans s3.keepA⟩
    · rw [putM, if_pos hge]; rfl
    · rw [putM, if_pos hge, hi, Int.toNat_natCast]; exact own3
  · have hlt : ¬ (roomM xs now).1 ≥ 0 := of_decide_eq_false hlt
    refine ⟨?_, ?_, (n1.ext.trans x2).keepA _⟩
    · rw [putM, if_neg hlt]; rfl
    · rw [putM, if_neg hlt]; exact own2
theorem clean_wf {xs : List Place} (h : ∀ p ∈ xs, p.Wf) : ∀ p ∈ xs.map cleanP, p.Wf := by
  intro p hp
  obtain ⟨q, hq, rfl⟩ := List.mem_map.1 hp
  unfold cleanP
  split
  · exact h q hq
  · exact ⟨⟨by decide, by decide, by decide, by decide⟩, by decide, by decide, by decide, by decide⟩
theorem bLearn_spec {A : Option Addr} {xs : List Place} {c : Nat} {vid mac port now : Int} {h : Heap} (hr : Row encP 6 h A xs) {n : Nat} (hl : xs.length = n) (hn : n ≤ 1000000) (wf : KeyWf vid mac) :
    HCalls Tryz.prog 106 #[.slice A n c, .agg #[.int .i64 vid, .int .u64 mac], .int .i64 port, .int .u32 now] h (fun v h' => ∃ b, v = .tuple #[.slice (some ⟨b, 0, none⟩) n n, .int .i64 (learnM xs vid mac port now).2] ∧ OwnA encP 6 200 h.size h' (some ⟨b, 0, none⟩) n (learnM xs vid mac port now).1 ∧ Ext h h') := by
  subst hl
  refine xcalls env0 Tryz.func106 rfl (by kernel_rfl) rfl (by kernel_rfl) ?_
  intro b5 h1 n1
  refine (bCopied_spec (n1.ext.row hr) rfl hn).mono ?_
  rintro v h2 ⟨bo, rfl, own2', x2⟩
  have own2 := own2'.mono n1.ext.size
  have hlen : (xs.map cleanP).length = xs.length := by simp
  have e12 := n1.ext.trans x2
  have rk : ∀ {h' : Heap}, Ext h2 h' → Reads h' ⟨b5, 0, none⟩ [.int .i64 vid, .int .u64 mac] := fun x => reads_all ((x2.trans x).blk n1.this)
  have hbo : h1.size ≤ bo := own2'.ge bo rfl
  have h5lt : b5 < bo := by have := n1.at_; have := n1.size; omega
  refine ⟨_, rfl, rk (Ext.refl _), ?_⟩
  refine (may_spec wf _).mono ?_
  rintro v h3 ⟨rfl, x3⟩
  refine xif_of (fun hm => ?_) (fun hm => ?_)
  · have hm : mayM vid mac port = false := by simpa using hm
    refine ⟨bo, ?_, ?_, e12.trans x3⟩
    · rw [learnM_no hm]; rfl
    · rw [learnM_no hm]; exact own2.ext x3
  have hm : mayM vid mac port = true := by simpa using hm
  have own3 := own2.ext x3
  refine ⟨_, rfl, rk x3, ?_⟩
  refine (bFind_spec (own3.row encP_len) hlen (by omega)).mono ?_
  rintro v h4 ⟨rfl, x4⟩
  have own4 := own3.ext x4
  have x34 := x3.trans x4
  rcases findN_range (vid := vid) (mac := mac) (xs.map cleanP) 0 with hf | ⟨hf0, hf1⟩
  · refine xif_of (fun _ => ?_) (fun hc => absurd (of_decide_eq_false hc) (by omega))
    refine ⟨_, rfl, rk x34, ?_⟩
    refine (bPut_spec (e := ⟨true, vid, mac, port, false, now⟩) own4 hlen (by omega)).mono ?_
    rintro v h5 ⟨rfl, own5, k5⟩
    refine ⟨bo, ?_, ?_, k5.ext (e12.trans x34) fun b hb => by cases hb; exact Nat.le_trans n1.ext.size hbo⟩
    · rw [learnM_new hm hf]; rfl
    · rw [learnM_new hm hf]; exact own5
  · refine xif_of (fun hc => absurd (of_decide_eq_true hc) (by omega)) (fun _ => ?_)
    obtain ⟨i, hi⟩ : ∃ i : Nat, findN vid mac (xs.map cleanP) 0 = i := ⟨(findN vid mac (xs.map cleanP) 0).toNat, by omega⟩
    have hil : i < (xs.map cleanP).length := by omega
    obtain ⟨w, hw⟩ : ∃ w, (xs.map cleanP)[i]? = some w := ⟨_, List.getElem?_eq_getElem hil⟩
    have lm := learnM_hit (now := now) hm hi hw
    rw [hi]
    obtain ⟨a, ha, hrd⟩ := own4.row encP_len i w hw
    cases ha
    refine ⟨_, rfl, by omega, by omega, encE w, rfl, ?_, ?_⟩
    · rw [Int.toNat_natCast]; exact hrd.sub 1 rfl
    intro b12 h5 n5
    refine ⟨rfl, rfl, canset_blk n5.this rfl, fun h6 s6 => ?_⟩
    have hb12 : h6[b12]? = some (.cells (encE w).toArray 198 (0, 0)) := s6.put (ws := [_, _, _, _, _]) n5.this
    have x6 : Ext h4 h6 := n5.ext.stored s6 (by rw [n5.at_]; exact Nat.le_refl _)
    have own6 := own4.ext x6
    refine ⟨_, cell_blk hb12 rfl, ?_⟩
    refine xif_of (fun hs => ?_) (fun hs => ?_)
    · refine ⟨bo, ?_, ?_, (e12.trans x34).trans x6⟩
      · rw [lm, if_pos hs]; rfl
      · rw [lm, if_pos hs]; exact own6
    rw [if_neg (by simp [hs])] at lm
    have hb12n : b12 ≠ bo := by
      have h4 := own4
      rcases h4 with ⟨e, _⟩ | ⟨b', _, e, _, hblk, _⟩
      · cases e
      · cases e; have := n5.lt hblk; omega
    obtain ⟨b, hb, hg, hcs⟩ := own6.canset encP_len (i := i) (j := 3) (n := 1) hil (by omega)
    cases hb
    refine ⟨_, rfl, by omega, by omega, rfl, rfl, ?_, fun h7 s7 => ?_⟩
    · simp only [add_lit, Nat.zero_add, Int.toNat_natCast]; exact hcs
    simp only [add_lit, Nat.zero_add, Int.toNat_natCast] at s7
    have own7 := own6.put encP_len (j := 3) (x' := { w with port := port }) rfl s7 hw (Nat.le_of_ble_eq_true rfl) rfl
    obtain ⟨b, hb, hg, hcs⟩ := own7.canset encP_len (i := i) (j := 5) (n := 1) (by simpa using hil) (by omega)
    cases hb
    refine ⟨_, rfl, by omega, by omega, rfl, rfl, ?_, fun h8 s8 => ?_⟩
    · simp only [add_lit, Nat.zero_add, Int.toNat_natCast]; exact hcs
    simp only [add_lit, Nat.zero_add, Int.toNat_natCast] at s8
    have own8 := own7.put encP_len (j := 5) (x' := { w with port := port, stamp := now }) rfl s8 (List.getElem?_set_self hil) (Nat.le_of_ble_eq_true rfl) rfl
    rw [List.set_set] at own8
    have hb8 := s8.blk (s7.blk hb12 hb12n) hb12n
    have x8 : Ext h h8 := (((e12.trans x34).trans x6).stored s7 hg).stored s8 hg
    refine ⟨_, cell_blk hb8 rfl, ?_⟩
    refine xif_of (fun hp => ?_) (fun hp => ?_)
    · have hp : w.port ≠ port := by simpa using hp
      rw [if_pos hp] at lm
      exact ⟨bo, by rw [lm]; rfl, by rw [lm]; exact own8, x8⟩
    have hp : ¬ w.port ≠ port := by simpa using hp
    rw [if_neg hp] at lm
    refine ⟨_, cell_blk hb8 rfl, ?_⟩
    refine xif_of (fun ht => ?_) (fun ht => ?_)
    · have ht : w.stamp ≠ now := by simpa using ht
      rw [if_pos ht] at lm
      exact ⟨bo, by rw [lm]; rfl, by rw [lm]; exact own8, x8⟩
    · have ht : ¬ w.stamp ≠ now := by simpa using ht
      rw [if_neg ht] at lm
      exact ⟨bo, by rw [lm]; rfl, by rw [lm]; exact own8, x8⟩
theorem eqEntry (a b : Place) : eqv Tryz.prog 60 198 (.agg (encE a).toArray) (.agg (encE b).toArray) = some (((a.vid == b.vid) && ((a.mac == b.mac) && true)) && ((a.port == b.port) && ((a.static == b.static) && ((a.stamp == b.stamp) && true)))) := by kernel_rfl
theorem eqEntryG (a : Place) : guardBad Tryz.prog 198 (.agg (encE a).toArray) = false := by kernel_rfl
end Go.Proofs.YthoikbogkhpciaaGreatDoorE
