/- What the law BucketEvicts answers: yes. Conditions: the arguments are of their types. -/
import Derived.Test.YtkppagdjakllpaaXA5
set_option linter.unusedVariables false
set_option linter.unusedSimpArgs false
set_option maxRecDepth 100000
namespace Go.Proofs.YtkppagdjakllpaaE
open Go Go.Proofs
def env_rOldest : Nat → Ann
  | 5 => ⟨.op 0 [] <| .op 1 [] <| .op 2 [] <| .op 3 [] <| .op 4 [] <| .op 5 [] <| .op 6 [] <| .op 7 [] <| .op 9 [] <| .op 10 [] <| .op 11 [] <| .op 12 [] <| .op 13 [] <| .op 8 [13] <| .op 14 [] <| .op 15 [] <| .op 16 [] <| .nil, [0, 1, 3, 7, 7, 7, 55, 119, 255, 7, 7, 7, 3079, 7175, 16383, 32767, 65535], false⟩
  | _ => ⟨.nil, [], false⟩
def env_lEvicts : Nat → Ann
  | 9 => ⟨.op 0 [] <| .op 2 [] <| .op 4 [] <| .op 1 [2] <| .op 3 [] <| .op 5 [] <| .op 6 [] <| .op 7 [] <| .op 8 [] <| .op 9 [] <| .op 10 [] <| .nil, [0, 1, 0, 7, 0, 31, 63, 127, 127, 255, 1023], false⟩
  | 19 => ⟨.op 0 [] <| .op 1 [] <| .op 2 [] <| .op 3 [] <| .op 4 [] <| .op 5 [] <| .op 6 [] <| .op 7 [] <| .op 8 [] <| .op 9 [] <| .op 10 [] <| .op 11 [] <| .op 12 [] <| .op 13 [] <| .nil, [0, 0, 3, 7, 15, 15, 63, 127, 15, 15, 783, 1807, 4095, 8191], false⟩
  | 21 => ⟨.op 0 [] <| .op 1 [] <| .op 2 [] <| .op 3 [] <| .op 4 [] <| .op 5 [] <| .op 6 [] <| .op 7 [] <| .op 8 [] <| .op 9 [] <| .op 10 [] <| .op 11 [] <| .op 12 [] <| .op 13 [] <| .op 14 [] <| .op 15 [] <| .op 16 [] <| .op 17 [] <| .op 18 [] <| .op 19 [] <| .nil, [0, 1, 3, 3, 15, 31, 63, 127, 255, 511, 511, 2047, 4095, 8191, 511, 511, 49663, 131071, 262143, 524287], false⟩
  | _ => ⟨.nil, [], false⟩
def encU (z : Int) : List Value := [.int .u32 z]
theorem encU_len (z : Int) : (encU z).length = 1 := rfl
def evP (now : Int) : List Int → Nat → Int → Int → Int
  | [], _, best, _ => best
  | t :: ts, i, best, g => if best < 0 ∨ ageM now t > g then evP now ts (i + 1) i (ageM now t) else evP now ts (i + 1) best g
theorem evP_drop {now best g : Int} {xs : List Int} {i : Nat} {t : Int} (h : xs[i]? = some t) : evP now (xs.drop i) i best g = if best < 0 ∨ ageM now t > g then evP now (xs.drop (i + 1)) (i + 1) i (ageM now t) else evP now (xs.drop (i + 1)) (i + 1) best g := by
  obtain ⟨hi, rfl⟩ := List.getElem?_eq_some_iff.1 h
  rw [List.drop_eq_getElem_cons hi]
  rfl
theorem evP_range {now : Int} : ∀ (xs : List Int) (i : Nat) (best g : Int), evP now xs i best g = best ∨ ((i : Int) ≤ evP now xs i best g ∧ evP now xs i best g < i + xs.length) := by
  intro xs
  induction xs with
  | nil => intro i best g; exact .inl rfl
  | cons p ps ih =>
    intro i best g
    simp only [evP, List.length_cons]
    split
    · rcases ih (i + 1) i (ageM now p) with h | h
      · right; rw [h]; omega
      · right; omega
    · rcases ih (i + 1) best g with h | h
      · exact .inl h
      · right; omega
theorem evP_start {now : Int} {t : Int} {ts : List Int} {g : Int} : 0 ≤ evP now (t :: ts) 0 (-1) g ∧ evP now (t :: ts) 0 (-1) g < (t :: ts).length := by
  simp only [evP, List.length_cons]
  rw [if_pos (.inl (by omega))]
  rcases evP_range (now := now) ts (0 + 1) ((0 : Nat) : Int) (ageM now t) with h | h <;> omega
def mkP (i : Nat) (t : Int) : Place := ⟨true, 1, 2 * i + 2, i, false, t⟩
def mkL : List Int → Nat → List Place
  | [], _ => []
  | t :: ts, i => mkP i t :: mkL ts (i + 1)
theorem mkL_len : ∀ (st : List Int) (k : Nat), (mkL st k).length = st.length
  | [], _ => rfl
  | t :: ts, k => by simp [mkL, mkL_len ts (k + 1)]
theorem mkL_app : ∀ (a b : List Int) (k : Nat), mkL (a ++ b) k = mkL a k ++ mkL b (k + a.length)
  | [], b, k => by simp [mkL]
  | t :: ts, b, k => by simp only [List.cons_append, mkL, mkL_app ts b (k + 1), List.length_cons]; rw [show k + 1 + ts.length = k + (ts.length + 1) by omega]
theorem mkL_get : ∀ (st : List Int) (k j : Nat), (mkL st k)[j]? = st[j]?.map (mkP (k + j))
  | [], _, _ => by simp [mkL]
  | t :: ts, k, 0 => by simp [mkL]
  | t :: ts, k, j + 1 => by
    simp only [mkL, List.getElem?_cons_succ, mkL_get ts (k + 1) j]
    rw [show k + 1 + j = k + (j + 1) by omega]
theorem mkL_take {st : List Int} {i : Nat} {t : Int} (h : st[i]? = some t) : mkL (st.take (i + 1)) 0 = mkL (st.take i) 0 ++ [mkP i t] := by
  obtain ⟨hi, rfl⟩ := List.getElem?_eq_some_iff.1 h
  rw [List.take_succ_eq_append_getElem hi, mkL_app]
  simp [mkL, Nat.min_eq_left (Nat.le_of_lt hi)]
theorem mkL_used (st : List Int) : ∀ p ∈ mkL st 0, p.used = true ∧ p.vid = 1 := by
  intro p hp
  obtain ⟨j, hj⟩ := List.getElem?_of_mem hp
  rw [mkL_get] at hj
  cases hs : st[j]? with
  | none => rw [hs] at hj; cases hj
  | some t => rw [hs] at hj; cases hj; exact ⟨rfl, rfl⟩
theorem mkL_clean (st : List Int) : (mkL st 0).map cleanP = mkL st 0 := by
  have : ∀ p ∈ mkL st 0, cleanP p = p := fun p hp => cleanP_used (mkL_used st p hp).1
  rw [List.map_congr_left (g := fun p => p) this, List.map_id']
theorem findN_none {vid mac : Int} : ∀ (xs : List Place) (k : Nat), (∀ p ∈ xs, p.vid ≠ vid) → findN vid mac xs k = -1
  | [], _, _ => rfl
  | p :: ps, k, h => by
    have : hasKey vid mac p = false := by simp [hasKey, h p (by simp)]
    rw [findN, if_neg (by simp [this])]
    exact findN_none ps (k + 1) fun q hq => h q (by simp [hq])
theorem roomP_mkL {now : Int} : ∀ (st : List Int) (i : Nat) (best g : Int), roomP now (mkL st i) i best 4 g = (evP now st i best g, 4)
  | [], _, _, _ => rfl
  | t :: ts, i, best, g => by
    simp only [mkL, roomP, mkP, evP]
    rw [if_neg (by simp), if_neg (by simp)]
    split
    · exact roomP_mkL ts (i + 1) _ _
    · exact roomP_mkL ts (i + 1) _ _
theorem roomM_mkL {now t : Int} {ts : List Int} : roomM (mkL (t :: ts) 0) now = (evP now (t :: ts) 0 (-1) 0, 4) := by
  simp only [roomM, mkL, roomP, mkP, evP]
  rw [if_neg (by simp), if_neg (by simp), if_pos (.inl (by omega)), if_pos (.inl (by omega))]
  exact roomP_mkL ts 1 _ _
theorem evicts_none {vid mac port now : Int} (hm : mayM vid mac port = true) : learnM (mkL [] 0) vid mac port now = ([], 5) := by
  rw [learnM_new hm (by rfl)]; rfl
theorem evicts_some {mac now t : Int} {ts : List Int} (hm : mayM 9 mac 5 = true) : learnM (mkL (t :: ts) 0) 9 mac 5 now = ((mkL (t :: ts) 0).set (evP now (t :: ts) 0 (-1) 0).toNat ⟨true, 9, mac, 5, false, now⟩, 4) := by
  have hf : findN 9 mac ((mkL (t :: ts) 0).map cleanP) 0 = -1 := by
    rw [mkL_clean]
    exact findN_none _ _ fun p hp => by rw [(mkL_used _ p hp).2]; decide
  rw [learnM_new hm hf, mkL_clean, putM, roomM_mkL]
  rw [if_pos evP_start.1]
theorem rOldest_spec {A : Option Addr} {xs : List Int} {c : Nat} {now : Int} {h : Heap} (hr : Row encU 1 h A xs) (wf : ∀ t ∈ xs, 0 ≤ t ∧ t < 4294967296) (a0 : 0 ≤ now) (a1 : now < 4294967296) {n : Nat} (hl : xs.length = n) (hn : n ≤ 1000000) :
    HCalls Try.prog 25 #[.int .u32 now, .slice A n c] h (fun v h' => v = .int .i64 (evP now xs 0 (-1) 0) ∧ h' = h) := by
  subst hl
  refine xcalls env_rOldest Try.func25 rfl (by kernel_rfl) rfl (by kernel_rfl) ?_
  refine ⟨Nat × Int × Int, fun s => [(0, .int .u32 now), (1, .slice A xs.length c), (5, .int .i64 s.2.1), (6, .int .i64 s.1)],
    fun s h' => h' = h ∧ s.1 ≤ xs.length ∧ evP now (xs.drop s.1) s.1 s.2.1 s.2.2 = evP now xs 0 (-1) 0 ∧ (s.2.1 = -1 ∨ ∃ (b : Nat) (t : Int), s.2.1 = b ∧ xs[b]? = some t ∧ s.2.2 = ageM now t), fun s => xs.length - s.1, (0, -1, 0), ⟨rfl, rfl, rfl, rfl, trivial⟩, ⟨rfl, Nat.zero_le _, rfl, .inl rfl⟩, ?_⟩
  rintro ⟨i, best, g⟩ h3 ⟨rfl, hi, hf, hbest⟩
  simp only at hi hf hbest
  refine xif_of (fun hlt => ?_) (fun hge => ?_)
  · have hlt : i < xs.length := by simpa using hlt
    obtain ⟨t, ht⟩ : ∃ t, xs[i]? = some t := ⟨xs[i], by simp [hlt]⟩
    have htw := wf t (List.mem_of_getElem? ht)
    rw [evP_drop ht] at hf
    obtain ⟨a, rfl, hrd⟩ := hr i t ht
    have nxt : ∀ (best' g' : Int), evP now (xs.drop (i + 1)) (i + 1) best' g' = evP now xs 0 (-1) 0 → (best' = -1 ∨ ∃ (b : Nat) (t : Int), best' = b ∧ xs[b]? = some t ∧ g' = ageM now t) → ∃ x' : Nat × Int × Int,
      (some (Value.int .u32 now) = some (Value.int .u32 now) ∧ some (Value.slice (some a) xs.length c) = some (Value.slice (some a) xs.length c) ∧ some (Value.int .i64 best') = some (Value.int .i64 x'.2.1) ∧ some (Value.int .i64 (IntKind.i64.wrap ((i : Int) + 1))) = some (Value.int .i64 x'.1) ∧ True) ∧
      (h3 = h3 ∧ x'.1 ≤ xs.length ∧ evP now (xs.drop x'.1) x'.1 x'.2.1 x'.2.2 = evP now xs 0 (-1) 0 ∧ (x'.2.1 = -1 ∨ ∃ (b : Nat) (t : Int), x'.2.1 = b ∧ xs[b]? = some t ∧ x'.2.2 = ageM now t)) ∧ xs.length - x'.1 < xs.length - i :=
      fun best' g' e hb => ⟨(i + 1, best', g'), ⟨rfl, rfl, rfl, slot_inc (by omega), trivial⟩, ⟨rfl, by omega, e, hb⟩, by show xs.length - (i + 1) < xs.length - i; omega⟩
    refine xif_of (fun hb => ?_) (fun hb => ?_)
    · have hb : best < 0 := of_decide_eq_true hb
      rw [if_pos (.inl hb)] at hf
      exact nxt _ _ hf (.inr ⟨i, t, rfl, ht, rfl⟩)
    · have hb : ¬ best < 0 := of_decide_eq_false hb
      obtain ⟨b, tb, hbb, htb, hg⟩ : ∃ (b : Nat) (t : Int), best = b ∧ xs[b]? = some t ∧ g = ageM now t := by
        rcases hbest with h1 | h1
        · omega
        · exact h1
      subst hbb hg
      have hbl : b < xs.length := (List.getElem?_eq_some_iff.1 htb).1
      have hbw := wf tb (List.mem_of_getElem? htb)
      obtain ⟨a', ha', hrd'⟩ := hr b tb htb
      cases ha'
      have hst : cell h3 (a.add ((i : Int).toNat * 1)) = some (.int .u32 t) := by have := hrd.cellAt (k := (i : Int).toNat * 1) (v := .int .u32 t) 0 (by omega) rfl; exact this
      have hst' : cell h3 (a.add ((b : Int).toNat * 1)) = some (.int .u32 tb) := by have := hrd'.cellAt (k := (b : Int).toNat * 1) (v := .int .u32 tb) 0 (by omega) rfl; exact this
      refine ⟨a, rfl, (by show (0 : Int) ≤ i; omega), (by show (i : Int) < xs.length; omega), _, hst, a, rfl, (by show (0 : Int) ≤ b; omega), (by show (b : Int) < xs.length; omega), _, hst', ?_⟩
      refine (rAge_spec a0 a1 htw.1 htw.2 _).mono ?_
      rintro v h4 ⟨rfl, rfl⟩
      refine ⟨⟨hst', trivial⟩, ?_⟩
      refine (rAge_spec a0 a1 hbw.1 hbw.2 _).mono ?_
      rintro v h5 ⟨rfl, rfl⟩
      refine xif_of (fun hg => ?_) (fun hg => ?_)
      · rw [if_pos (.inr (of_decide_eq_true hg))] at hf
        exact nxt _ _ hf (.inr ⟨i, t, rfl, ht, rfl⟩)
      · have hg : ¬ ageM now t > ageM now tb := of_decide_eq_false hg
        rw [if_neg (by omega)] at hf
        exact nxt _ _ hf (.inr ⟨b, tb, rfl, htb, rfl⟩)
  · have : xs.length ≤ i := by simpa using hge
    rw [List.drop_eq_nil_of_le this] at hf
    exact ⟨congrArg (Value.int .i64) hf, rfl⟩
theorem row_ite {α : Type} {enc : α → List Value} {sz : Nat} {h : Heap} {a : Addr} {xs : List α} {p : Prop} {inst : Decidable p} {f : Addr → Addr} (hf : f a = a) (H : Row enc sz h (some a) xs) : Row enc sz h (@ite _ p inst (some a) (Option.map f (some a))) xs := by
  split
  · exact H
  · rw [Option.map_some, hf]; exact H
theorem lEvicts_spec {A : Option Addr} {xs : List Int} {c : Nat} {vid mac now : Int} {h : Heap} (hr : Row encU 1 h A xs) (twf : ∀ t ∈ xs, 0 ≤ t ∧ t < 4294967296) (wf : KeyWf vid mac) (a0 : 0 ≤ now) (a1 : now < 4294967296) {n : Nat} (hl : xs.length = n) (hn : n ≤ 140737488355328) (hc : n ≤ c) :
    HCalls Try.prog 4 #[.slice A n c, .agg #[.int .i64 vid, .int .u64 mac], .int .u32 now] h (fun v h' => v = .bool true ∧ Ext h h') := by
  subst hl
  obtain ⟨st, hst⟩ : ∃ st, xs.take 8 = st := ⟨_, rfl⟩
  obtain ⟨m, hm⟩ : ∃ m, st.length = m := ⟨_, rfl⟩
  have hm8 : m ≤ 8 := by rw [← hm, ← hst]; simp; omega
  have hmx : m ≤ xs.length := by rw [← hm, ← hst]; simp; omega
  have hmin : (if (8 : Int) < xs.length then (8 : Int) else xs.length) = m := by
    have : m = min 8 xs.length := by rw [← hm, ← hst]; simp
    split <;> omega
  have hget : ∀ i t, st[i]? = some t → xs[i]? = some t := fun i t hi => by
    rw [← hst, List.getElem?_take] at hi
    split at hi
    · exact hi
    · cases hi
  have swf : ∀ t ∈ st, 0 ≤ t ∧ t < 4294967296 := fun t ht => by rw [← hst] at ht; exact twf t (List.mem_of_mem_take ht)
  refine xcalls env_lEvicts Try.func4 rfl (by kernel_rfl) rfl (by kernel_rfl) ?_
  intro bk h1 n1
  have hbk : h1[bk]? = some (.cells [.int .i64 vid, .int .u64 mac].toArray 25 (0, 0)) := n1.this
  refine ⟨_, rfl, reads_all hbk, ?_⟩
  refine (rKeyFix_spec wf _).mono ?_
  rintro v h2 ⟨rfl, x2⟩
  refine ⟨rfl, rfl, canset_blk (x2.blk hbk) rfl, fun h3 s3 => ?_⟩
  have hb3 : h3[bk]? = some (.cells [.int .i64 (fixVid vid), .int .u64 (fixMac mac)].toArray 25 (0, 0)) := s3.put (x2.blk hbk)
  have x03 := (n1.ext.trans x2).stored s3 (n1.ge (Ext.refl _))
  refine ⟨rfl, rfl, canset_blk hb3 rfl, fun h4 s4 => ?_⟩
  have hb4 : h4[bk]? = some (.cells [.int .i64 9, .int .u64 (fixMac mac)].toArray 25 (0, 0)) := s4.put hb3
  have x04 := x03.stored s4 (n1.ge (Ext.refl _))
  refine ⟨Nat × Option Addr × Nat, fun s => [(0, .slice A xs.length c), (2, .int .u32 now), (4, .pointer (some ⟨bk, 0, none⟩)), (7, .int .i64 m), (8, .slice s.2.1 s.1 s.2.2), (9, .int .i64 s.1)],
    fun s h' => s.1 ≤ m ∧ OwnA encP 6 51 h4.size h' s.2.1 s.2.2 (mkL (st.take s.1) 0) ∧ Ext h4 h', fun s => m - s.1, (0, none, 0), ⟨rfl, rfl, rfl, congrArg (fun z => some (Value.int .i64 z)) hmin, rfl, rfl, trivial⟩, ⟨Nat.zero_le _, .inl ⟨rfl, rfl, rfl⟩, Ext.refl _⟩, ?_⟩
  rintro ⟨i, B, d⟩ h5 ⟨hi, own5, x5⟩
  simp only at hi own5
  refine xif_of (fun hlt => ?_) (fun hge => ?_)
  · have hlt : (i : Int) < m := of_decide_eq_true hlt
    have hlt : i < m := by omega
    obtain ⟨t, ht⟩ : ∃ t, st[i]? = some t := ⟨st[i]'(by omega), List.getElem?_eq_getElem (by omega)⟩
    have hlen : (mkL (st.take i) 0).length = i := by rw [mkL_len]; simp; omega
    obtain ⟨a, rfl, hrd⟩ := ((x04.trans x5).row hr) i t (hget i t ht)
    have hwr : IntKind.u64.wrap (IntKind.i64.wrap (IntKind.i64.wrap (2 * (i : Int)) + 2)) = 2 * (i : Int) + 2 := by
      rw [wrap_i64 (x := 2 * (i : Int)) (by omega) (by omega), wrap_i64 (by omega) (by omega), wrap_u64 (by omega) (by omega)]
    have hstc : cell h5 (a.add ((i : Int).toNat * 1)) = some (.int .u32 t) := hrd.cellAt (k := (i : Int).toNat * 1) (v := .int .u32 t) 0 (by omega) rfl
    refine ⟨a, rfl, (by show (0 : Int) ≤ i; omega), (by show (i : Int) < xs.length; omega), _, hstc, ?_⟩
    intro b6 h6 n6
    have n6' : New h5 h6 b6 (.cells (encP (mkP i t)).toArray 51 (0, 0)) := by
      have e : encP (mkP i t) = [.bool true, .int .i64 1, .int .u64 (IntKind.u64.wrap (IntKind.i64.wrap (IntKind.i64.wrap (2 * (i : Int)) + 2))), .int .i64 i, .bool false, .int .u32 t] := by rw [hwr]; rfl
      rw [e]; exact n6
    refine xappend_one (x := mkP i t) infoPlaceR zeroPlaceR rfl (by decide) encP_len encP_one own5 n6' hlen (by omega) x5.size fun A' c' h' o k => ?_
    rw [← mkL_take ht] at o
    exact ⟨(i + 1, A', c'), ⟨rfl, rfl, rfl, rfl, rfl, slot_inc (by omega), trivial⟩, ⟨by omega, o, k.ext x5 own5.ge⟩, by show m - (i + 1) < m - i; omega⟩
  · have hge : ¬ (i : Int) < m := of_decide_eq_false hge
    have hie : i = m := by omega
    subst hie
    rw [← hm, List.take_length] at own5
    have hlen : (mkL st 0).length = i := by rw [mkL_len, hm]
    have hb5 := x5.blk hb4
    have x05 := x04.trans x5
    have mk : mayM 9 (fixMac mac) 5 = true := by
      have h2 := fixMac_range mac
      have h3 : fixMac mac % 281474976710656 = fixMac mac := by omega
      have h4 : kindM (fixMac mac) = 0 := by
        unfold kindM
        rw [h3, if_neg (by omega), if_neg (by omega)]
        exact h2.2.2
      simp [mayM, keyOk, h2.1, h2.2.1, h4]
    have kw : KeyWf 9 (fixMac mac) := by have h2 := fixMac_range mac; exact ⟨by omega, by omega, by omega, by omega⟩
    refine ⟨[.int .i64 9, .int .u64 (fixMac mac)], rfl, reads_all hb5, ?_⟩
    refine (l10To_spec (own5.row encP_len) hlen (by omega)).mono ?_
    rintro v h6 ⟨C, e, rfl, own6, x6⟩
    refine ⟨⟨reads_all (x6.blk hb5), trivial⟩, ?_⟩
    refine (l8To_spec _ _ _).mono ?_
    rintro v h7 ⟨rfl, x7⟩
    refine (bLearn_spec ((own6.ext x7).row encP_len) hlen (by omega) kw).mono ?_
    rintro v h8 ⟨la, rfl, own8, x8⟩
    have x58 := x6.trans (x7.trans x8)
    cases hst' : st with
    | nil =>
      rw [hst'] at hm
      have hi0 : i = 0 := by rw [← hm]; rfl
      subst hi0
      rw [hst', evicts_none mk] at own8
      refine (told10_spec _).mono ?_
      rintro v h9 ⟨rfl, x9⟩
      have e5 : (learnM (mkL [] 0) 9 (fixMac mac) 5 now).2 = 5 := by rw [evicts_none mk]
      refine xif_of (fun _ => ?_) (fun q => ?_)
      · exact ⟨rfl, x05.trans (x58.trans x9)⟩
      · replace q : ((learnM (mkL [] 0) 9 (fixMac mac) 5 now).2 == 5) = false := q
        rw [e5] at q
        cases q
    | cons t ts =>
      have hpos : 0 < i := by rw [← hm, hst']; simp
      refine xif_of (fun q => ?_) (fun _ => ?_)
      · have q : (i : Int) = 0 := by simpa using q
        omega
      have est := evicts_some (now := now) (t := t) (ts := ts) mk
      have er := evP_start (now := now) (t := t) (ts := ts) (g := 0)
      rw [← hst'] at est er
      rw [hm] at er
      obtain ⟨w, hw⟩ : ∃ w : Nat, evP now st 0 (-1) 0 = w := ⟨(evP now st 0 (-1) 0).toNat, by omega⟩
      rw [hw, Int.toNat_natCast] at est
      have hwi : w < i := by omega
      rw [est] at own8
      have rows : Row encU 1 h8 A st := fun j t hj => ((x05.trans x58).row hr) j t (hget j t hj)
      obtain ⟨a, rfl, _⟩ := rows 0 t (by rw [hst']; rfl)
      refine ⟨fun _ => rfl, by omega, by omega, by omega, by omega, ?_⟩
      refine (rOldest_spec (row_ite (f := fun x => x.add (Int.toNat 0 * 1)) rfl rows) swf a0 a1 (by show st.length = (i : Int).toNat - Int.toNat 0; rw [hm]; omega) (by show (i : Int).toNat - Int.toNat 0 ≤ 1000000; omega)).mono ?_
      rintro v h9 ⟨rfl, rfl⟩
      have e4 : (learnM (mkL (t :: ts) 0) 9 (fixMac mac) 5 now).2 = 4 := by rw [evicts_some mk]
      have xl : ((mkL st 0).set w ⟨true, 9, fixMac mac, 5, false, now⟩).length = i := by rw [List.length_set, hlen]
      refine (l10From_spec (own8.row encP_len) xl (by omega)).mono ?_
      rintro v h10 ⟨D, f, rfl, own10, x10⟩
      refine xif_of (fun q => ?_) (fun _ => ?_)
      · replace q : ((learnM (mkL (t :: ts) 0) 9 (fixMac mac) 5 now).2 != 4) = true := q
        rw [e4] at q
        cases q
      refine xif_of (fun q => absurd q (by simp)) (fun _ => ?_)
      have x510 := x58.trans x10
      have rowl := (own5.ext x510).row encP_len
      have rowx := own10.row encP_len
      refine ⟨Nat, fun j => [(2, .int .u32 now), (4, .pointer (some ⟨bk, 0, none⟩)), (7, .int .i64 i), (8, .slice B i d), (12, .int .i64 w), (13, .slice D i f), (14, .int .i64 j)], fun j h' => h' = h10 ∧ j ≤ i, fun j => i - j, 0, ⟨rfl, rfl, rfl, rfl, congrArg (fun z => some (Value.int .i64 z)) hw, rfl, rfl, trivial⟩, ⟨rfl, Nat.zero_le _⟩, ?_⟩
      rintro j h11 ⟨rfl, hj⟩
      refine xif_of (fun hlt => ?_) (fun hge => ?_)
      · have hlt : (j : Int) < i := of_decide_eq_true hlt
        have hlt : j < i := by omega
        obtain ⟨p, hp⟩ : ∃ p, (mkL st 0)[j]? = some p := ⟨(mkL st 0)[j]'(by omega), List.getElem?_eq_getElem (by omega)⟩
        refine xif_of (fun hne => ?_) (fun he => ?_)
        · have hne : ¬ (j : Int) = w := by simpa using hne
          have hq : ((mkL st 0).set w ⟨true, 9, fixMac mac, 5, false, now⟩)[j]? = some p := by rw [List.getElem?_set_ne (by omega)]; exact hp
          obtain ⟨b, rfl, hrd⟩ := rowl j p hp
          obtain ⟨b', rfl, hrd'⟩ := rowx j p hq
          refine ⟨b', rfl, by omega, by omega, encP p, rfl, hrd', b, rfl, by omega, by omega, encP p, rfl, hrd, ?_⟩
          refine xeq_of (eqPlaceRG p) (eqPlaceR p p) ?_
          rw [Place.decEq']
          refine xif_of (fun hd => absurd hd (by simp)) (fun _ => ?_)
          exact ⟨j + 1, ⟨rfl, rfl, rfl, rfl, rfl, rfl, slot_inc (by omega), trivial⟩, ⟨rfl, by omega⟩, by show i - (j + 1) < i - j; omega⟩
        · exact ⟨j + 1, ⟨rfl, rfl, rfl, rfl, rfl, rfl, slot_inc (by omega), trivial⟩, ⟨rfl, by omega⟩, by show i - (j + 1) < i - j; omega⟩
      · refine (told10_spec _).mono ?_
        rintro v h12 ⟨rfl, x12⟩
        have hq : ((mkL st 0).set w ⟨true, 9, fixMac mac, 5, false, now⟩)[w]? = some ⟨true, 9, fixMac mac, 5, false, now⟩ := List.getElem?_set_self (by omega)
        obtain ⟨b', rfl, hrd'⟩ := rowx w _ hq
        have hrd' := x12.reads hrd'
        have hb12 := (x510.trans x12).blk hb5
        refine ⟨b', rfl, by omega, by omega, .bool true, hrd'.get 0 rfl, ?_⟩
        refine ⟨b', rfl, by omega, by omega, [.int .i64 9, .int .u64 (fixMac mac), .int .i64 5, .bool false, .int .u32 now], rfl, hrd'.sub 1 rfl, ?_⟩
        refine ⟨[.int .i64 9, .int .u64 (fixMac mac)], rfl, reads_all hb12, ?_⟩
        refine xeq_of (eqEntRG ⟨true, 9, fixMac mac, 5, false, now⟩) (eqEntR ⟨true, 9, fixMac mac, 5, false, now⟩ ⟨true, 9, fixMac mac, 5, false, now⟩) ?_
        refine ⟨congrArg Value.bool (by simp), x05.trans (x510.trans x12)⟩
end Go.Proofs.YtkppagdjakllpaaE
