/- What the functions of layer 10 (bucket) answer. Conditions: the arguments are of their types; lists are not longer than a bound. -/
import Derived.Test.YtjjempefncgfhaaGreatDoorXLib
import Derived.Test.YtjjempefncgfhaaGreatDoorXA1
set_option linter.unusedVariables false
set_option linter.unusedSimpArgs false
set_option maxRecDepth 100000
namespace Go.Proofs.YtjjempefncgfhaaGreatDoorE
open Go Go.Proofs
def env_bOrder : Nat → Ann
  | 8 => ⟨.op 0 [] <| .op 1 [] <| .op 2 [] <| .op 3 [] <| .op 4 [] <| .op 5 [] <| .op 6 [] <| .op 7 [] <| .nil, [0, 0, 3, 7, 15, 0, 63, 127], false⟩
  | _ => ⟨.nil, [], false⟩
theorem eqKey (a b c d : Int) : eqv Tryz.prog 60 104 (.agg #[.int .i64 a, .int .u64 b]) (.agg #[.int .i64 c, .int .u64 d]) = some (a == c && (b == d && true)) := by kernel_rfl
theorem eqKeyG (a b : Int) : guardBad Tryz.prog 104 (.agg #[.int .i64 a, .int .u64 b]) = false := by kernel_rfl
theorem bFind_spec {A : Option Addr} {xs : List Place} {c : Nat} {vid mac : Int} {h : Heap} (hr : Row encP 6 h A xs) {n : Nat} (hl : xs.length = n) (hn : n ≤ 140737488355328) :
    HCalls Tryz.prog 233 #[.slice A n c, .agg #[.int .i64 vid, .int .u64 mac]] h (fun v h' => v = .int .i64 (findN vid mac xs 0) ∧ Ext h h') := by
  subst hl
  refine xcalls env0 Tryz.func233 rfl (by kernel_rfl) rfl (by kernel_rfl) ?_
  intro b3 h1 n1
  refine ⟨Nat, fun i => [(7, .slice A xs.length c), (8, .int .i64 xs.length), (9, .int .i64 i), (3, .pointer (some ⟨b3, 0, none⟩))], fun i h' => i ≤ xs.length ∧ findN vid mac (xs.drop i) i = findN vid mac xs 0 ∧ Ext h1 h', fun i => xs.length - i, 0, ⟨rfl, rfl, rfl, rfl, trivial⟩, ⟨Nat.zero_le _, rfl, Ext.refl _⟩, ?_⟩
  rintro i h2 ⟨hi, hf, x2⟩
  refine xif_of (fun hlt => ?_) (fun hge => ?_)
  · have hlt : i < xs.length := by simpa using hlt
    obtain ⟨p, hp⟩ : ∃ p, xs[i]? = some p := ⟨xs[i], by simp [hlt]⟩
    obtain ⟨a, rfl, hrd⟩ := (x2.row (n1.ext.row hr)) i p hp
    refine ⟨a, rfl, by omega, by omega, encP p, rfl, hrd, ?_⟩
    intro b6 h3 n3
    refine ⟨rfl, rfl, canset_blk n3.this rfl, fun h4 s4 => ?_⟩
    have hb6 : h4[b6]? = some (.cells (encP p).toArray 246 (0, 0)) := s4.put (ws := [_, _, _, _, _, _]) n3.this
    have x4 : Ext h1 h4 := (x2.new n3).stored s4 (n3.ge x2)
    refine ⟨_, cell_blk hb6 rfl, ?_⟩
    refine xif_of (fun hu => ?_) (fun hu => ?_)
    · refine ⟨[.int .i64 p.vid, .int .u64 p.mac], rfl, reads_at hb6 rfl, ?_⟩
      refine ⟨[.int .i64 vid, .int .u64 mac], rfl, reads_all (x4.blk n1.this), ?_⟩
      refine xeq_of (eqKeyG _ _) (eqKey _ _ _ _) ?_
      refine xif_of (fun he => ?_) (fun he => ?_)
      · refine ⟨?_, n1.ext.trans x4⟩
        rw [← hf, findN_drop hp, if_pos (by simpa [hasKey, hu] using he)]
        rfl
      · refine ⟨i + 1, ⟨rfl, rfl, slot_inc (by omega), rfl, trivial⟩, ⟨by omega, ?_, x4⟩, by show xs.length - (i + 1) < xs.length - i; omega⟩
        rw [← hf, findN_drop hp, if_neg (by simpa [hasKey, hu] using he)]
    · refine ⟨i + 1, ⟨rfl, rfl, slot_inc (by omega), rfl, trivial⟩, ⟨by omega, ?_, x4⟩, by show xs.length - (i + 1) < xs.length - i; omega⟩
      rw [← hf, findN_drop hp, if_neg (by simp [hasKey, hu])]
  · refine ⟨?_, n1.ext.trans x2⟩
    have : xs.length ≤ i := by simpa using hge
    rw [← hf, findN_end this]
    rfl
theorem bRoom_spec {A : Option Addr} {xs : List Place} {c : Nat} {now : Int} {h : Heap} (hr : Row encP 6 h A xs) {n : Nat} (hl : xs.length = n) (hn : n ≤ 140737488355328) :
    HCalls Tryz.prog 261 #[.slice A n c, .int .u32 now] h (fun v h' => v = .tuple #[.int .i64 (roomM xs now).1, .int .i64 (roomM xs now).2] ∧ Ext h h') := by
  subst hl
  refine xcalls env0 Tryz.func261 rfl (by kernel_rfl) rfl (by kernel_rfl) ?_
  refine ⟨Nat × Int × Int × Int, fun s => [(1, .int .u32 now), (6, .int .i64 s.2.1), (7, .int .i64 s.2.2.1), (8, .int .u32 s.2.2.2), (12, .slice A xs.length c), (13, .int .i64 xs.length), (14, .int .i64 s.1)],
    fun s h' => s.1 ≤ xs.length ∧ roomP now (xs.drop s.1) s.1 s.2.1 s.2.2.1 s.2.2.2 = roomM xs now ∧ Ext h h', fun s => xs.length - s.1, (0, -1, 5, 0), ⟨rfl, rfl, rfl, rfl, rfl, rfl, rfl, trivial⟩, ⟨Nat.zero_le _, rfl, Ext.refl _⟩, ?_⟩
  rintro ⟨i, best, did, g⟩ h2 ⟨hi, hf, x2⟩
  simp only at hi hf
  refine xif_of (fun hlt => ?_) (fun hge => ?_)
  · have hlt : i < xs.length := by simpa using hlt
    obtain ⟨p, hp⟩ : ∃ p, xs[i]? = some p := ⟨xs[i], by simp [hlt]⟩
    rw [roomP_drop hp] at hf
    obtain ⟨a, rfl, hrd⟩ := (x2.row hr) i p hp
    refine ⟨a, rfl, by omega, by omega, encP p, rfl, hrd, ?_⟩
    intro b6 h3 n3
    refine ⟨rfl, rfl, canset_blk n3.this rfl, fun h4 s4 => ?_⟩
    have hb6 : h4[b6]? = some (.cells (encP p).toArray 246 (0, 0)) := s4.put (ws := [_, _, _, _, _, _]) n3.this
    have x4 : Ext h h4 := (x2.new n3).stored s4 (n3.ge x2)
    have nxt : ∀ (best' did' g' : Int), roomP now (xs.drop (i + 1)) (i + 1) best' did' g' = roomM xs now → ∃ x' : Nat × Int × Int × Int,
        (some (Value.int .u32 now) = some (Value.int .u32 now) ∧ some (Value.int .i64 best') = some (Value.int .i64 x'.2.1) ∧ some (Value.int .i64 did') = some (Value.int .i64 x'.2.2.1) ∧ some (Value.int .u32 g') = some (Value.int .u32 x'.2.2.2) ∧ some (Value.slice (some a) xs.length c) = some (Value.slice (some a) xs.length c) ∧ some (Value.int .i64 xs.length) = some (Value.int .i64 xs.length) ∧
          some (Value.int .i64 (IntKind.i64.wrap ((i : Int) + 1))) = some (Value.int .i64 x'.1) ∧ True) ∧ (x'.1 ≤ xs.length ∧ roomP now (xs.drop x'.1) x'.1 x'.2.1 x'.2.2.1 x'.2.2.2 = roomM xs now ∧ Ext h h4) ∧ xs.length - x'.1 < xs.length - i :=
      fun best' did' g' e => ⟨(i + 1, best', did', g'), ⟨rfl, rfl, rfl, rfl, rfl, rfl, slot_inc (by omega), trivial⟩, ⟨by omega, e, x4⟩, by show xs.length - (i + 1) < xs.length - i; omega⟩
    refine ⟨_, cell_blk hb6 rfl, ?_⟩
    refine xif_of (fun hu => ?_) (fun hu => ?_)
    · refine ⟨?_, x4⟩
      rw [if_pos (by simpa using hu)] at hf
      rw [← hf]; rfl
    rw [if_neg (by simpa using hu)] at hf
    refine ⟨_, cell_blk hb6 rfl, ?_⟩
    refine xif_of (fun hs => ?_) (fun hs => ?_)
    · rw [if_pos hs] at hf
      exact nxt _ _ _ hf
    rw [if_neg (by simp [hs])] at hf
    refine ⟨_, cell_blk hb6 rfl, ?_⟩
    refine (tAge_spec _ _ _).mono ?_
    rintro v h5 ⟨rfl, rfl⟩
    refine xif_of (fun hb => ?_) (fun hb => ?_)
    · rw [if_pos (.inl (of_decide_eq_true hb))] at hf
      exact nxt _ _ _ hf
    have hb : ¬ best < 0 := of_decide_eq_false hb
    refine xif_of (fun hg => ?_) (fun hg => ?_)
    · rw [if_pos (.inr (of_decide_eq_true hg))] at hf
      exact nxt _ _ _ hf
    · have hg : ¬ ageM now p.stamp > g := of_decide_eq_false hg
      rw [if_neg (by omega)] at hf
      exact nxt _ _ _ hf
  · have : xs.length ≤ i := by simpa using hge
    rw [List.drop_eq_nil_of_le this] at hf
    refine ⟨?_, x2⟩
    rw [← hf]; rfl
theorem bCopied_spec {A : Option Addr} {xs : List Place} {c : Nat} {h : Heap} (hr : Row encP 6 h A xs) {n : Nat} (hl : xs.length = n) (hn : n ≤ 1000000) :
    HCalls Tryz.prog 231 #[.slice A n c] h (fun v h' => ∃ b, v = .slice (some ⟨b, 0, none⟩) n n ∧ OwnA encP 6 246 h.size h' (some ⟨b, 0, none⟩) n (xs.map cleanP) ∧ Ext h h') := by
  subst hl
  refine xcalls env0 Tryz.func231 rfl (by kernel_rfl) rfl (by kernel_rfl) ?_
  refine ⟨by omega, by omega, by show (40 : Int) * _ ≤ _; omega, by omega, fun bo h1 n1 => ?_⟩
  have own1 : OwnA encP 6 246 h.size h1 (some ⟨bo, 0, none⟩) xs.length (List.replicate xs.length Place.none) := OwnA.made xs.length (zs := encP Place.none) (by rw [Int.toNat_natCast] at n1; exact n1) rfl (Nat.le_refl _)
  refine ⟨Nat, fun i => [(3, .slice (some ⟨bo, 0, none⟩) xs.length xs.length), (9, .slice A xs.length c), (10, .int .i64 xs.length), (11, .int .i64 i)],
    fun i h' => i ≤ xs.length ∧ OwnA encP 6 246 h.size h' (some ⟨bo, 0, none⟩) xs.length ((xs.take i).map cleanP ++ List.replicate (xs.length - i) Place.none) ∧ Ext h h', fun i => xs.length - i, 0, ⟨rfl, rfl, rfl, rfl, trivial⟩, ⟨Nat.zero_le _, own1, n1.ext⟩, ?_⟩
  rintro i h2 ⟨hi, own2, x2⟩
  refine xif_of (fun hlt => ?_) (fun hge => ?_)
  · have hlt : i < xs.length := by simpa using hlt
    obtain ⟨p, hp⟩ : ∃ p, xs[i]? = some p := ⟨xs[i], by simp [hlt]⟩
    have hlen : ((xs.take i).map cleanP ++ List.replicate (xs.length - i) Place.none).length = xs.length := by simp; omega
    have hnext : ((xs.take i).map cleanP ++ List.replicate (xs.length - i) Place.none).set i (cleanP p) = (xs.take (i + 1)).map cleanP ++ List.replicate (xs.length - (i + 1)) Place.none := by
      have hpi : xs[i] = p := by rw [List.getElem?_eq_getElem hlt] at hp; exact Option.some.inj hp
      rw [List.set_append_right _ _ (by simp; omega), List.take_succ_eq_append_getElem hlt, hpi, show xs.length - i = (xs.length - (i + 1)) + 1 by omega, List.replicate_succ]
      simp [Nat.min_eq_left hi]
    have hat : ((xs.take i).map cleanP ++ List.replicate (xs.length - i) Place.none)[i]? = some Place.none := by
      rw [List.getElem?_append_right (by simp; omega), List.getElem?_replicate, if_pos (by simp; omega)]
    obtain ⟨a, rfl, hrd⟩ := (x2.row hr) i p hp
    refine ⟨a, rfl, by omega, by omega, encP p, rfl, hrd, ?_⟩
    intro b6 h3 n3
    refine ⟨rfl, rfl, canset_blk n3.this rfl, fun h4 s4 => ?_⟩
    have hb6 : h4[b6]? = some (.cells (encP p).toArray 246 (0, 0)) := s4.put (ws := [_, _, _, _, _, _]) n3.this
    have x4 : Ext h2 h4 := n3.ext.stored s4 (by rw [n3.at_]; exact Nat.le_refl _)
    have own4 := own2.ext x4
    refine ⟨_, cell_blk hb6 rfl, ?_⟩
    refine xif_of (fun hu => ?_) (fun hu => ?_)
    · obtain ⟨b, hb, hg, hcs⟩ := own4.canset encP_len (i := i) (j := 0) (n := 6) (by omega) (by omega)
      cases hb
      refine ⟨encP p, rfl, reads_all hb6, ?_⟩
      refine ⟨_, rfl, by omega, by omega, rfl, rfl, ?_, fun h5 s5 => ?_⟩
      · rw [add_lit, Nat.zero_add, Int.toNat_natCast]; exact hcs
      rw [add_lit, Nat.zero_add, Int.toNat_natCast] at s5
      have hcl : cleanP p = p := by simp [cleanP, hu]
      have own5 := own4.put encP_len (j := 0) (x' := cleanP p) rfl s5 hat (Nat.le_refl 6) (by rw [hcl]; rfl)
      rw [hnext] at own5
      exact ⟨i + 1, ⟨rfl, rfl, rfl, slot_inc (by omega), trivial⟩, ⟨by omega, own5, (x2.trans x4).stored s5 hg⟩, by show xs.length - (i + 1) < xs.length - i; omega⟩
    · have hcl : cleanP p = Place.none := by simp [cleanP, hu]
      rw [hcl, set_same hat] at hnext
      rw [hnext] at own4
      exact ⟨i + 1, ⟨rfl, rfl, rfl, slot_inc (by omega), trivial⟩, ⟨by omega, own4, x2.trans x4⟩, by show xs.length - (i + 1) < xs.length - i; omega⟩
  · have : i = xs.length := by have : xs.length ≤ i := by simpa using hge
                               omega
    subst this
    simp only [List.take_length, Nat.sub_self, List.replicate_zero, List.append_nil] at own2
    exact ⟨bo, rfl, own2, x2⟩
theorem bPut_spec {A : Option Addr} {xs : List Place} {c base : Nat} {e : Place} {now : Int} {h : Heap} (own : OwnA encP 6 246 base h A c xs) {n : Nat} (hl : xs.length = n) (hn : n ≤ 1000000) :
    HCalls Tryz.prog 234 #[.slice A n c, .agg (encE e).toArray, .int .u32 now] h (fun v h' => v = .tuple #[.slice A n c, .int .i64 (putM xs e now).2] ∧ OwnA encP 6 246 base h' A c (putM xs e now).1 ∧ KeepA A h h') := by
  subst hl
  refine xcalls env0 Tryz.func234 rfl (by kernel_rfl) rfl (by kernel_rfl) ?_
  intro b4 h1 n1
  have own1 := own.ext n1.ext
  refine (bRoom_spec (own1.row encP_len) rfl (by omega)).mono ?_
  rintro v h2 ⟨rfl, x2⟩
  have own2 := own1.ext x2
  have rng := roomM_range xs now
  refine xif_of (fun hge => ?_) (fun hlt => ?_)
  · have hge : (roomM xs now).1 ≥ 0 := of_decide_eq_true hge
    obtain ⟨i, hi⟩ : ∃ i : Nat, (roomM xs now).1 = i := ⟨(roomM xs now).1.toNat, by omega⟩
    have hil : i < xs.length := by omega
    obtain ⟨b, rfl, hg, hcs⟩ := own2.canset encP_len (i := i) (j := 0) (n := 6) hil (by omega)
    refine ⟨encE e, rfl, reads_all (x2.blk n1.this), ?_⟩
    refine ⟨_, rfl, by omega, by omega, rfl, rfl, ?_, fun h3 s3 => ?_⟩
    · rw [add_lit, Nat.zero_add, show (roomM xs now).1.toNat = i by omega]; exact hcs
    rw [add_lit, Nat.zero_add, show (roomM xs now).1.toNat = i by omega] at s3
    have own3 := own2.put encP_len (j := 0) (x' := { e with used := true }) rfl s3 (List.getElem?_eq_getElem hil) (Nat.le_refl 6) rfl
    refine ⟨?_, ?_, ((n1.ext.trans x2).keepA _).trans s3.keepA⟩
    · rw [putM, if_pos hge]; rfl
    · rw [putM, if_pos hge, hi, Int.toNat_natCast]; exact own3
  · have hlt : ¬ (roomM xs now).1 ≥ 0 := of_decide_eq_false hlt
    refine ⟨?_, ?_, (n1.ext.trans x2).keepA _⟩
    · rw [putM, if_neg hlt]; rfl
    · rw [putM, if_neg hlt]; exact own2
theorem clean_wf {xs : List Place} (h : ∀ p ∈ xs, p.Wf) : ∀ p ∈ xs.map cleanP, p.Wf := by
  intro p hp
  obtain ⟨q, hq, rfl⟩ := List.mem_map.1 hp
  unfold cleanP
  split
  · exact h q hq
  · exact ⟨⟨by decide, by decide, by decide, by decide⟩, by decide, by decide, by decide, by decide⟩
theorem bLearn_spec {A : Option Addr} {xs : List Place} {c : Nat} {vid mac port now : Int} {h : Heap} (hr : Row encP 6 h A xs) {n : Nat} (hl : xs.length = n) (hn : n ≤ 1000000) (wf : KeyWf vid mac) :
    HCalls Tryz.prog 243 #[.slice A n c, .agg #[.int .i64 vid, .int .u64 mac], .int .i64 port, .int .u32 now] h (fun v h' => ∃ b, v = .tuple #[.slice (some ⟨b, 0, none⟩) n n, .int .i64 (learnM xs vid mac port now).2] ∧ OwnA encP 6 246 h.size h' (some ⟨b, 0, none⟩) n (learnM xs vid mac port now).1 ∧ Ext h h') := by
  subst hl
  refine xcalls env0 Tryz.func243 rfl (by kernel_rfl) rfl (by kernel_rfl) ?_
  intro b5 h1 n1
  refine (bCopied_spec (n1.ext.row hr) rfl hn).mono ?_
  rintro v h2 ⟨bo, rfl, own2', x2⟩
  have own2 := own2'.mono n1.ext.size
  have hlen : (xs.map cleanP).length = xs.length := by simp
  have e12 := n1.ext.trans x2
  have rk : ∀ {h' : Heap}, Ext h2 h' → Reads h' ⟨b5, 0, none⟩ [.int .i64 vid, .int .u64 mac] := fun x => reads_all ((x2.trans x).blk n1.this)
  have hbo : h1.size ≤ bo := own2'.ge bo rfl
  have h5lt : b5 < bo := by have := n1.at_; have := n1.size; omega
  refine ⟨_, rfl, rk (Ext.refl _), ?_⟩
  refine (may_spec wf _).mono ?_
  rintro v h3 ⟨rfl, x3⟩
  refine xif_of (fun hm => ?_) (fun hm => ?_)
  · have hm : mayM vid mac port = false := by simpa using hm
    refine ⟨bo, ?_, ?_, e12.trans x3⟩
    · rw [learnM_no hm]; rfl
    · rw [learnM_no hm]; exact own2.ext x3
  have hm : mayM vid mac port = true := by simpa using hm
  have own3 := own2.ext x3
  refine ⟨_, rfl, rk x3, ?_⟩
  refine (bFind_spec (own3.row encP_len) hlen (by omega)).mono ?_
  rintro v h4 ⟨rfl, x4⟩
  have own4 := own3.ext x4
  have x34 := x3.trans x4
  rcases findN_range (vid := vid) (mac := mac) (xs.map cleanP) 0 with hf | ⟨hf0, hf1⟩
  · refine xif_of (fun _ => ?_) (fun hc => absurd (of_decide_eq_false hc) (by omega))
    refine ⟨_, rfl, rk x34, ?_⟩
    refine (bPut_spec (e := ⟨true, vid, mac, port, false, now⟩) own4 hlen (by omega)).mono ?_
    rintro v h5 ⟨rfl, own5, k5⟩
    refine ⟨bo, ?_, ?_, k5.ext (e12.trans x34) fun b hb => by cases hb; exact Nat.le_trans n1.ext.size hbo⟩
    · rw [learnM_new hm hf]; rfl
    · rw [learnM_new hm hf]; exact own5
  · refine xif_of (fun hc => absurd (of_decide_eq_true hc) (by omega)) (fun _ => ?_)
    obtain ⟨i, hi⟩ : ∃ i : Nat, findN vid mac (xs.map cleanP) 0 = i := ⟨(findN vid mac (xs.map cleanP) 0).toNat, by omega⟩
    have hil : i < (xs.map cleanP).length := by omega
    obtain ⟨w, hw⟩ : ∃ w, (xs.map cleanP)[i]? = some w := ⟨_, List.getElem?_eq_getElem hil⟩
    have lm := learnM_hit (now := now) hm hi hw
    rw [hi]
    obtain ⟨a, ha, hrd⟩ := own4.row encP_len i w hw
    cases ha
    refine ⟨_, rfl, by omega, by omega, encE w, rfl, ?_, ?_⟩
    · rw [Int.toNat_natCast]; exact hrd.sub 1 rfl
    intro b12 h5 n5
    refine ⟨rfl, rfl, canset_blk n5.this rfl, fun h6 s6 => ?_⟩
    have hb12 : h6[b12]? = some (.cells (encE w).toArray 244 (0, 0)) := s6.put (ws := [_, _, _, _, _]) n5.this
    have x6 : Ext h4 h6 := n5.ext.stored s6 (by rw [n5.at_]; exact Nat.le_refl _)
    have own6 := own4.ext x6
    refine ⟨_, cell_blk hb12 rfl, ?_⟩
    refine xif_of (fun hs => ?_) (fun hs => ?_)
    · refine ⟨bo, ?_, ?_, (e12.trans x34).trans x6⟩
      · rw [lm, if_pos hs]; rfl
      · rw [lm, if_pos hs]; exact own6
    rw [if_neg (by simp [hs])] at lm
    have hb12n : b12 ≠ bo := by
      have h4 := own4
      rcases h4 with ⟨e, _⟩ | ⟨b', _, e, _, hblk, _⟩
      · cases e
      · cases e; have := n5.lt hblk; omega
    obtain ⟨b, hb, hg, hcs⟩ := own6.canset encP_len (i := i) (j := 3) (n := 1) hil (by omega)
    cases hb
    refine ⟨_, rfl, by omega, by omega, rfl, rfl, ?_, fun h7 s7 => ?_⟩
    · simp only [add_lit, Nat.zero_add, Int.toNat_natCast]; exact hcs
    simp only [add_lit, Nat.zero_add, Int.toNat_natCast] at s7
    have own7 := own6.put encP_len (j := 3) (x' := { w with port := port }) rfl s7 hw (Nat.le_of_ble_eq_true rfl) rfl
    obtain ⟨b, hb, hg, hcs⟩ := own7.canset encP_len (i := i) (j := 5) (n := 1) (by simpa using hil) (by omega)
    cases hb
    refine ⟨_, rfl, by omega, by omega, rfl, rfl, ?_, fun h8 s8 => ?_⟩
    · simp only [add_lit, Nat.zero_add, Int.toNat_natCast]; exact hcs
    simp only [add_lit, Nat.zero_add, Int.toNat_natCast] at s8
    have own8 := own7.put encP_len (j := 5) (x' := { w with port := port, stamp := now }) rfl s8 (List.getElem?_set_self hil) (Nat.le_of_ble_eq_true rfl) rfl
    rw [List.set_set] at own8
    have hb8 := s8.blk (s7.blk hb12 hb12n) hb12n
    have x8 : Ext h h8 := (((e12.trans x34).trans x6).stored s7 hg).stored s8 hg
    refine ⟨_, cell_blk hb8 rfl, ?_⟩
    refine xif_of (fun hp => ?_) (fun hp => ?_)
    · have hp : w.port ≠ port := by simpa using hp
      rw [if_pos hp] at lm
      exact ⟨bo, by rw [lm]; rfl, by rw [lm]; exact own8, x8⟩
    have hp : ¬ w.port ≠ port := by simpa using hp
    rw [if_neg hp] at lm
    refine ⟨_, cell_blk hb8 rfl, ?_⟩
    refine xif_of (fun ht => ?_) (fun ht => ?_)
    · have ht : w.stamp ≠ now := by simpa using ht
      rw [if_pos ht] at lm
      exact ⟨bo, by rw [lm]; rfl, by rw [lm]; exact own8, x8⟩
    · have ht : ¬ w.stamp ≠ now := by simpa using ht
      rw [if_neg ht] at lm
      exact ⟨bo, by rw [lm]; rfl, by rw [lm]; exact own8, x8⟩
theorem eqEntry (a b : Place) : eqv Tryz.prog 60 244 (.agg (encE a).toArray) (.agg (encE b).toArray) = some (((a.vid == b.vid) && ((a.mac == b.mac) && true)) && ((a.port == b.port) && ((a.static == b.static) && ((a.stamp == b.stamp) && true)))) := by kernel_rfl
theorem eqEntryG (a : Place) : guardBad Tryz.prog 244 (.agg (encE a).toArray) = false := by kernel_rfl
theorem bOrder_spec {A : Option Addr} {xs : List Place} {c : Nat} {vid mac port now : Int} {h : Heap} (hr : Row encP 6 h A xs) {n : Nat} (hl : xs.length = n) (hn : n ≤ 1000000) (wf : KeyWf vid mac) :
    HCalls Tryz.prog 195 #[.slice A n c, .agg #[.int .i64 vid, .int .u64 mac], .int .i64 port, .int .u32 now] h (fun v h' => ∃ b, v = .tuple #[.slice (some ⟨b, 0, none⟩) n n, .int .i64 (orderM xs vid mac port now).2] ∧ OwnA encP 6 246 h.size h' (some ⟨b, 0, none⟩) n (orderM xs vid mac port now).1 ∧ Ext h h') := by
  subst hl
  refine xcalls env_bOrder Tryz.func195 rfl (by kernel_rfl) rfl (by kernel_rfl) ?_
  intro b5 h1 n1
  refine (bCopied_spec (n1.ext.row hr) rfl hn).mono ?_
  rintro v h2 ⟨bo, rfl, own2', x2⟩
  have own2 := own2'.mono n1.ext.size
  have hlen : (xs.map cleanP).length = xs.length := by simp
  have e12 := n1.ext.trans x2
  have rk : ∀ {h' : Heap}, Ext h2 h' → Reads h' ⟨b5, 0, none⟩ [.int .i64 vid, .int .u64 mac] := fun x => reads_all ((x2.trans x).blk n1.this)
  have hbo : h1.size ≤ bo := own2'.ge bo rfl
  refine ⟨_, rfl, rk (Ext.refl _), ?_⟩
  refine (may_spec wf _).mono ?_
  rintro v h3 ⟨rfl, x3⟩
  refine xif_of (fun hm => ?_) (fun hm => ?_)
  · have hm : mayM vid mac port = false := by simpa using hm
    refine ⟨bo, ?_, ?_, e12.trans x3⟩
    · rw [orderM_no hm]; rfl
    · rw [orderM_no hm]; exact own2.ext x3
  have hm : mayM vid mac port = true := by simpa using hm
  have own3 := own2.ext x3
  refine ⟨_, rfl, rk x3, ?_⟩
  intro be he0 ne
  refine ⟨rfl, rfl, canset_blk ne.this rfl, fun he1 se => ?_⟩
  have hbe : he1[be]? = some (.cells (encE ⟨true, vid, mac, port, true, 0⟩).toArray 244 (0, 0)) := se.put (ws := [_, _, _, _, _]) ne.this
  have xe : Ext h3 he1 := ne.ext.stored se (by rw [ne.at_]; exact Nat.le_refl _)
  have owne := own3.ext xe
  refine ⟨_, rfl, rk (x3.trans xe), ?_⟩
  refine (bFind_spec (owne.row encP_len) hlen (by omega)).mono ?_
  rintro v h4 ⟨rfl, x4⟩
  have own4 := owne.ext x4
  have x34 := (x3.trans xe).trans x4
  have hbe4 := x4.blk hbe
  rcases findN_range (vid := vid) (mac := mac) (xs.map cleanP) 0 with hf | ⟨hf0, hf1⟩
  · refine xif_of (fun _ => ?_) (fun hc => absurd (of_decide_eq_false hc) (by omega))
    refine ⟨encE ⟨true, vid, mac, port, true, 0⟩, rfl, reads_all hbe4, ?_⟩
    refine (bPut_spec (e := ⟨true, vid, mac, port, true, 0⟩) own4 hlen (by omega)).mono ?_
    rintro v h5 ⟨rfl, own5, k5⟩
    refine ⟨bo, ?_, ?_, k5.ext (e12.trans x34) fun b hb => by cases hb; exact Nat.le_trans n1.ext.size hbo⟩
    · rw [orderM_new hm hf]; rfl
    · rw [orderM_new hm hf]; exact own5
  · refine xif_of (fun hc => absurd (of_decide_eq_true hc) (by omega)) (fun _ => ?_)
    obtain ⟨i, hi⟩ : ∃ i : Nat, findN vid mac (xs.map cleanP) 0 = i := ⟨(findN vid mac (xs.map cleanP) 0).toNat, by omega⟩
    have hil : i < (xs.map cleanP).length := by omega
    obtain ⟨w, hw⟩ : ∃ w, (xs.map cleanP)[i]? = some w := ⟨_, List.getElem?_eq_getElem hil⟩
    have lm := orderM_hit (port := port) (now := now) hm hi hw
    obtain ⟨w', hw', hk⟩ := findN_hit _ _ _ hi
    rw [Nat.sub_zero, hw] at hw'
    cases hw'
    rw [hi]
    obtain ⟨a, ha, hrd⟩ := own4.row encP_len i w hw
    cases ha
    refine ⟨_, rfl, by omega, by omega, encE w, rfl, ?_, ?_⟩
    · rw [Int.toNat_natCast]; exact hrd.sub 1 rfl
    refine ⟨encE ⟨true, vid, mac, port, true, 0⟩, rfl, reads_all hbe4, ?_⟩
    refine xeq_of (eqEntryG w) (eqEntry w ⟨true, vid, mac, port, true, 0⟩) ?_
    have heq : (((w.vid == vid) && ((w.mac == mac) && true)) && ((w.port == port) && ((w.static == true) && ((w.stamp == 0) && true)))) = decide (w = ⟨true, vid, mac, port, true, 0⟩) := by
      obtain ⟨u, a, b, c, d, e⟩ := w
      simp only [hasKey, Bool.and_eq_true] at hk
      obtain rfl : u = true := hk.1
      rw [Bool.eq_iff_iff]
      simp [and_assoc]
    refine xif_of (fun hs => ?_) (fun hs => ?_)
    · have hs : decide (w = (⟨true, vid, mac, port, true, 0⟩ : Place)) = true := heq ▸ hs
      rw [if_pos (of_decide_eq_true hs)] at lm
      exact ⟨bo, by rw [lm]; rfl, by rw [lm]; exact own4, e12.trans x34⟩
    have hs : decide (w = (⟨true, vid, mac, port, true, 0⟩ : Place)) = false := heq ▸ hs
    rw [if_neg (of_decide_eq_false hs)] at lm
    obtain ⟨b, hb, hg, hcs⟩ := own4.canset encP_len (i := i) (j := 1) (n := 5) hil (by omega)
    cases hb
    refine ⟨encE ⟨true, vid, mac, port, true, 0⟩, rfl, reads_all hbe4, ?_⟩
    refine ⟨_, rfl, by omega, by omega, rfl, rfl, ?_, fun h7 s7 => ?_⟩
    · simp only [add_lit, Nat.zero_add, Int.toNat_natCast]; exact hcs
    simp only [add_lit, Nat.zero_add, Int.toNat_natCast] at s7
    have hu : w.used = true := by simp only [hasKey, Bool.and_eq_true] at hk; exact hk.1
    have own7 := own4.put encP_len (j := 1) (x' := ⟨true, vid, mac, port, true, 0⟩) rfl s7 hw (Nat.le_of_ble_eq_true rfl) (by rw [encP, encP, hu]; rfl)
    exact ⟨bo, by rw [lm]; rfl, by rw [lm]; exact own7, (e12.trans x34).stored s7 hg⟩
theorem bDrop_spec {A : Option Addr} {xs : List Place} {c : Nat} {vid mac : Int} {h : Heap} (hr : Row encP 6 h A xs) {n : Nat} (hl : xs.length = n) (hn : n ≤ 1000000) :
    HCalls Tryz.prog 197 #[.slice A n c, .agg #[.int .i64 vid, .int .u64 mac]] h (fun v h' => ∃ b, v = .tuple #[.slice (some ⟨b, 0, none⟩) n n, .bool (dropM xs vid mac).2] ∧ OwnA encP 6 246 h.size h' (some ⟨b, 0, none⟩) n (dropM xs vid mac).1 ∧ Ext h h') := by
  subst hl
  refine xcalls env0 Tryz.func197 rfl (by kernel_rfl) rfl (by kernel_rfl) ?_
  intro b5 h1 n1
  refine (bCopied_spec (n1.ext.row hr) rfl hn).mono ?_
  rintro v h2 ⟨bo, rfl, own2', x2⟩
  have own2 := own2'.mono n1.ext.size
  have hlen : (xs.map cleanP).length = xs.length := by simp
  have e12 := n1.ext.trans x2
  refine ⟨_, rfl, reads_all (x2.blk n1.this), ?_⟩
  refine (bFind_spec (own2.row encP_len) hlen (by omega)).mono ?_
  rintro v h4 ⟨rfl, x4⟩
  have own4 := own2.ext x4
  rcases findN_range (vid := vid) (mac := mac) (xs.map cleanP) 0 with hf | ⟨hf0, hf1⟩
  · refine xif_of (fun _ => ?_) (fun hc => absurd (of_decide_eq_false hc) (by omega))
    exact ⟨bo, by rw [dropM_no hf]; rfl, by rw [dropM_no hf]; exact own4, e12.trans x4⟩
  · refine xif_of (fun hc => absurd (of_decide_eq_true hc) (by omega)) (fun _ => ?_)
    obtain ⟨i, hi⟩ : ∃ i : Nat, findN vid mac (xs.map cleanP) 0 = i := ⟨(findN vid mac (xs.map cleanP) 0).toNat, by omega⟩
    have hil : i < (xs.map cleanP).length := by omega
    obtain ⟨w, hw⟩ : ∃ w, (xs.map cleanP)[i]? = some w := ⟨_, List.getElem?_eq_getElem hil⟩
    have lm := dropM_hit hi hw
    rw [hi]
    obtain ⟨a, ha, hrd⟩ := own4.row encP_len i w hw
    cases ha
    refine ⟨_, rfl, by omega, by omega, .bool w.static, ?_, ?_⟩
    · have := hrd.get 4 (v := .bool w.static) rfl
      simp only [add_lit, Nat.zero_add, Int.toNat_natCast] at this ⊢
      exact this
    refine xif_of (fun hs => ?_) (fun hs => ?_)
    · rw [if_pos (by simpa using hs)] at lm
      exact ⟨bo, by rw [lm]; rfl, by rw [lm]; exact own4, e12.trans x4⟩
    rw [if_neg (by simpa using hs)] at lm
    obtain ⟨b, hb, hg, hcs⟩ := own4.canset encP_len (i := i) (j := 0) (n := 6) hil (by omega)
    cases hb
    refine ⟨_, rfl, by omega, by omega, rfl, rfl, ?_, fun h7 s7 => ?_⟩
    · simp only [add_lit, Nat.zero_add, Int.toNat_natCast]; exact hcs
    simp only [add_lit, Nat.zero_add, Int.toNat_natCast] at s7
    have own7 := own4.put encP_len (j := 0) (x' := Place.none) rfl s7 hw (Nat.le_of_ble_eq_true rfl) rfl
    exact ⟨bo, by rw [lm]; rfl, by rw [lm]; exact own7, (e12.trans x4).stored s7 hg⟩
theorem bHits_spec (port vid : Int) (p : Place) (h : Heap) : HCalls Tryz.prog 238 #[.agg #[.int .i64 port, .int .i64 vid], .agg (encE p).toArray] h (fun v h' => v = .bool (hitM port vid p) ∧ Ext h h') := by
  refine xcalls env0 Tryz.func238 rfl (by kernel_rfl) rfl (by kernel_rfl) ?_
  intro b1 h1 n1 b2 h2 n2
  have hb1 := n2.ext.blk n1.this
  have hb2 : h2[b2]? = some (.cells (encE p).toArray 244 (0, 0)) := n2.this
  have x := n1.ext.trans n2.ext
  refine ⟨_, cell_blk hb2 rfl, ?_⟩
  refine xif_of (fun q1 => ?_) (fun q1 => ?_)
  · refine ⟨_, cell_blk hb1 rfl, ?_⟩
    refine xif_of (fun q2 => ?_) (fun q2 => ?_)
    · refine ⟨_, cell_blk hb1 rfl, ?_⟩
      refine xif_of (fun q3 => ?_) (fun q3 => ?_)
      · exact ⟨congrArg Value.bool (by simp [hitM, q1, q2, q3]), x⟩
      · refine ⟨_, cell_blk hb1 rfl, _, cell_blk hb2 rfl, congrArg Value.bool ?_, x⟩
        simp [hitM, q1, q2, q3]
    · refine ⟨_, cell_blk hb1 rfl, _, cell_blk hb2 rfl, ?_⟩
      refine xif_of (fun q4 => ?_) (fun q4 => ?_)
      · refine ⟨_, cell_blk hb1 rfl, ?_⟩
        refine xif_of (fun q3 => ?_) (fun q3 => ?_)
        · exact ⟨congrArg Value.bool (by simp [hitM, q1, q2, q3, q4]), x⟩
        · refine ⟨_, cell_blk hb1 rfl, _, cell_blk hb2 rfl, congrArg Value.bool ?_, x⟩
          simp [hitM, q1, q2, q3, q4]
      · exact ⟨congrArg Value.bool (by simp [hitM, q1, q2, q4]), x⟩
  · exact ⟨congrArg Value.bool (by simp [hitM, q1]), x⟩
theorem bWithout_spec {A : Option Addr} {xs : List Place} {c : Nat} {gone : Place → Bool} {g : FuncId} {first cap : List Value} {h : Heap} (hr : Row encP 6 h A xs) {n : Nat} (hl : xs.length = n) (hn : n ≤ 1000000)
    (hg : ∀ (p : Place) (h' : Heap), Ext h h' → HCalls Tryz.prog g (first ++ [Value.agg (encE p).toArray] ++ cap).toArray h' (fun v h'' => v = .bool (gone p) ∧ Ext h' h'')) :
    HCalls Tryz.prog 237 #[.slice A n c, .func (.func g) first.toArray cap.toArray] h (fun v h' => ∃ b, v = .tuple #[.slice (some ⟨b, 0, none⟩) n n, .int .i64 (withoutM gone xs).2] ∧ OwnA encP 6 246 h.size h' (some ⟨b, 0, none⟩) n (withoutM gone xs).1 ∧ Ext h h') := by
  subst hl
  refine xcalls env0 Tryz.func237 rfl (by kernel_rfl) rfl (by kernel_rfl) ?_
  refine (bCopied_spec hr rfl hn).mono ?_
  rintro v h1 ⟨bo, rfl, own1, x1⟩
  obtain ⟨cl, hcl⟩ : ∃ cl, xs.map cleanP = cl := ⟨_, rfl⟩
  have hlen : cl.length = xs.length := by rw [← hcl]; simp
  have hw : withoutM gone xs = (cl.map fun p => if (p.used && gone p) = true then Place.none else p, ((cl.countP fun p => p.used && gone p : Nat) : Int)) := by rw [withoutM, hcl]
  rw [hcl] at own1
  rw [hw]
  obtain ⟨f, hf⟩ : ∃ f : Place → Place, (fun p => if (p.used && gone p) = true then Place.none else p) = f := ⟨_, rfl⟩
  obtain ⟨q, hq⟩ : ∃ q : Place → Bool, (fun p => p.used && gone p) = q := ⟨_, rfl⟩
  rw [hf, hq]
  have hfq : ∀ p, f p = if q p = true then Place.none else p := fun p => by rw [← hf, ← hq]
  refine ⟨Nat, fun i => [(1, .func (.func g) first.toArray cap.toArray), (6, .slice (some ⟨bo, 0, none⟩) xs.length xs.length), (7, .int .i64 ((cl.take i).countP q : Nat)), (12, .slice (some ⟨bo, 0, none⟩) xs.length xs.length), (13, .int .i64 xs.length), (14, .int .i64 i)],
    fun i h' => i ≤ xs.length ∧ OwnA encP 6 246 h.size h' (some ⟨bo, 0, none⟩) xs.length ((cl.take i).map f ++ cl.drop i) ∧ Ext h h', fun i => xs.length - i, 0, ⟨rfl, rfl, rfl, rfl, rfl, rfl, trivial⟩, ⟨Nat.zero_le _, own1, x1⟩, ?_⟩
  rintro i h2 ⟨hi, own2, x2⟩
  refine xif_of (fun hlt => ?_) (fun hge => ?_)
  · have hlt : i < cl.length := by rw [hlen]; simpa using hlt
    obtain ⟨p, hp⟩ : ∃ p, cl[i]? = some p := ⟨cl[i], by simp [hlt]⟩
    have hpi : cl[i] = p := by rw [List.getElem?_eq_getElem hlt] at hp; exact Option.some.inj hp
    have hat : ((cl.take i).map f ++ cl.drop i)[i]? = some p := by
      rw [List.getElem?_append_right (by simp; omega)]
      simp [Nat.min_eq_left (Nat.le_of_lt hlt), hp]
    have hdrop : cl.drop i = p :: cl.drop (i + 1) := by rw [List.drop_eq_getElem_cons hlt, hpi]
    have hnext : ((cl.take i).map f ++ cl.drop i).set i (f p) = (cl.take (i + 1)).map f ++ cl.drop (i + 1) := by
      rw [List.set_append_right _ _ (by simp; omega), List.take_succ_eq_append_getElem hlt, hpi, hdrop]
      simp [Nat.min_eq_left (Nat.le_of_lt hlt)]
    have hcnt : (cl.take (i + 1)).countP q = (cl.take i).countP q + if q p = true then 1 else 0 := by
      rw [List.take_succ_eq_append_getElem hlt, hpi, List.countP_append]
      simp [List.countP_cons]
    have hcle : (cl.take i).countP q ≤ i := Nat.le_trans List.countP_le_length (List.length_take_le _ _)
    obtain ⟨a, ha, hrd⟩ := own2.row encP_len i p hat
    cases ha
    refine ⟨_, rfl, by omega, by omega, encP p, rfl, by rw [Int.toNat_natCast]; exact hrd, ?_⟩
    intro b6 h3 n3
    refine ⟨rfl, rfl, canset_blk n3.this rfl, fun h4 s4 => ?_⟩
    have hb6 : h4[b6]? = some (.cells (encP p).toArray 246 (0, 0)) := s4.put (ws := [_, _, _, _, _, _]) n3.this
    have x4 : Ext h2 h4 := n3.ext.stored s4 (by rw [n3.at_]; exact Nat.le_refl _)
    have own4 := own2.ext x4
    have keep : ∀ h5, Ext h4 h5 → q p = false → ∃ x', (some (Value.func (.func g) first.toArray cap.toArray) = some (Value.func (.func g) first.toArray cap.toArray) ∧ some (Value.slice (some ⟨bo, 0, none⟩) xs.length xs.length) = some (Value.slice (some ⟨bo, 0, none⟩) xs.length xs.length) ∧ some (Value.int .i64 ((cl.take i).countP q : Nat)) = some (Value.int .i64 ((cl.take x').countP q : Nat)) ∧ some (Value.slice (some ⟨bo, 0, none⟩) xs.length xs.length) = some (Value.slice (some ⟨bo, 0, none⟩) xs.length xs.length) ∧ some (Value.int .i64 xs.length) = some (Value.int .i64 xs.length) ∧ some (Value.int .i64 (IntKind.i64.wrap ((i : Int) + 1))) = some (Value.int .i64 (x' : Nat)) ∧ True) ∧
        (x' ≤ xs.length ∧ OwnA encP 6 246 h.size h5 (some ⟨bo, 0, none⟩) xs.length ((cl.take x').map f ++ cl.drop x') ∧ Ext h h5) ∧ xs.length - x' < xs.length - i := by
      intro h5 x5 hqp
      have hfp : f p = p := by rw [hfq, hqp]; rfl
      rw [hfp, set_same hat] at hnext
      rw [hnext] at own4
      refine ⟨i + 1, ⟨rfl, rfl, ?_, rfl, rfl, slot_inc (by omega), trivial⟩, ⟨by omega, own4.ext x5, (x2.trans x4).trans x5⟩, by omega⟩
      rw [hcnt, hqp]; rfl
    refine ⟨_, cell_blk hb6 rfl, ?_⟩
    refine xif_of (fun hu => ?_) (fun hu => ?_)
    · refine ⟨encE p, rfl, reads_at hb6 rfl, ?_⟩
      refine (hg p h4 (x2.trans x4)).mono ?_
      rintro v h5 ⟨rfl, x5⟩
      refine xif_of (fun hgp => ?_) (fun hgp => ?_)
      · have hqp : q p = true := by rw [← hq]; simp [hu, hgp]
        have hfp : f p = Place.none := by rw [hfq, hqp]; rfl
        have own5 := own4.ext x5
        obtain ⟨b, hb, hbg, hcs⟩ := own5.canset encP_len (i := i) (j := 0) (n := 6) (by simp; omega) (by omega)
        cases hb
        refine ⟨_, rfl, by omega, by omega, rfl, rfl, ?_, fun h7 s7 => ?_⟩
        · simp only [add_lit, Nat.zero_add, Int.toNat_natCast]; exact hcs
        simp only [add_lit, Nat.zero_add, Int.toNat_natCast] at s7
        have own7 := own5.put encP_len (j := 0) (x' := f p) rfl s7 hat (Nat.le_of_ble_eq_true rfl) (by rw [hfp]; rfl)
        rw [hnext] at own7
        refine ⟨i + 1, ⟨rfl, rfl, ?_, rfl, rfl, slot_inc (by omega), trivial⟩, ⟨by omega, own7, ((x2.trans x4).trans x5).stored s7 hbg⟩, by show xs.length - (i + 1) < xs.length - i; omega⟩
        rw [hcnt, hqp]
        exact slot_inc (by omega)
      · exact keep h5 x5 (by rw [← hq]; simp [hgp])
    · exact keep h4 (Ext.refl _) (by rw [← hq]; simp [hu])
  · have : xs.length ≤ i := by simpa using hge
    have : i = cl.length := by omega
    subst this
    rw [List.take_length, List.drop_length, List.append_nil] at own2
    refine ⟨bo, ?_, own2, x2⟩
    rw [List.take_length]; rfl
theorem bFlush_spec {A : Option Addr} {xs : List Place} {c : Nat} {port vid : Int} {h : Heap} (hr : Row encP 6 h A xs) {n : Nat} (hl : xs.length = n) (hn : n ≤ 1000000) :
    HCalls Tryz.prog 200 #[.slice A n c, .agg #[.int .i64 port, .int .i64 vid]] h (fun v h' => ∃ b, v = .tuple #[.slice (some ⟨b, 0, none⟩) n n, .int .i64 (withoutM (hitM port vid) xs).2] ∧ OwnA encP 6 246 h.size h' (some ⟨b, 0, none⟩) n (withoutM (hitM port vid) xs).1 ∧ Ext h h') := by
  refine xcalls env0 Tryz.func200 rfl (by kernel_rfl) rfl (by kernel_rfl) ?_
  intro b1 h1 n1
  refine ⟨[.int .i64 port, .int .i64 vid], rfl, reads_all n1.this, ?_⟩
  refine (bWithout_spec (gone := hitM port vid) (g := 238) (first := [.agg #[.int .i64 port, .int .i64 vid]]) (cap := []) (n1.ext.row hr) hl hn fun p h' x' => bHits_spec port vid p h').mono ?_
  rintro v h3 ⟨b, rfl, own, x3⟩
  exact ⟨b, rfl, own.mono n1.ext.size, n1.ext.trans x3⟩
end Go.Proofs.YtjjempefncgfhaaGreatDoorE
