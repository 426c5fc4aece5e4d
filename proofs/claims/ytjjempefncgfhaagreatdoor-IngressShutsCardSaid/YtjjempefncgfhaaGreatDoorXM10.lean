/- Plain words on addresses, keys, ticks, buckets: what the functions of layers 1 to 10 answer. Conditions: none. -/
import Derived.Laws.Bits64
import Derived.Laws.BitsLemmas
import GoSem.Core.View
set_option linter.unusedVariables false
namespace Go.Proofs.YtjjempefncgfhaaGreatDoorE
open Go

theorem wrap_i64 {x : Int} (h0 : -9223372036854775808 ≤ x) (h1 : x ≤ 9223372036854775807) : IntKind.i64.wrap x = x := by rw [IntKind.wrap_i64]; omega
theorem wrap_u64 {x : Int} (h0 : 0 ≤ x) (h1 : x < 18446744073709551616) : IntKind.u64.wrap x = x := by rw [IntKind.wrap_u64]; omega
theorem wrap_u32 {x : Int} (h0 : 0 ≤ x) (h1 : x < 4294967296) : IntKind.u32.wrap x = x := by rw [IntKind.wrap_u32]; omega
theorem wrap_u8 {x : Int} (h0 : 0 ≤ x) (h1 : x < 256) : IntKind.u8.wrap x = x := by rw [IntKind.wrap_u8]; omega
theorem slot_inc {i : Nat} (h : i < 4611686018427387904) : some (Value.int .i64 (IntKind.i64.wrap ((i : Int) + 1))) = some (Value.int .i64 ((i + 1 : Nat) : Int)) := by
  rw [wrap_i64 (by omega) (by omega)]; rfl

/-! ### Bits -/
theorem ofInt_toNat {m : Int} (h0 : 0 ≤ m) (h1 : m < 18446744073709551616) : (BitVec.ofInt 64 m).toNat = m.toNat := by
  rw [BitVec.toNat_ofInt]; omega
theorem and_mask {m : Int} (n : Nat) (hn : n ≤ 63) (h0 : 0 ≤ m) (h1 : m < 18446744073709551616) : IntKind.u64.wrap ((BitVec.ofInt 64 m &&& BitVec.ofInt 64 ((2 ^ n - 1 : Nat) : Int)).toNat : Int) = m % ((2 ^ n : Nat) : Int) := by
  have h2 : 2 ^ n ≤ 2 ^ 63 := Nat.pow_le_pow_right (by omega) hn
  have h3 : 0 < 2 ^ n := Nat.two_pow_pos n
  rw [BitVec.toNat_and, ofInt_toNat h0 h1, ofInt_toNat (by omega) (by omega), Int.toNat_natCast, Nat.and_two_pow_sub_one_eq_mod]
  have : ((m.toNat % 2 ^ n : Nat) : Int) = m % ((2 ^ n : Nat) : Int) := by
    rw [Int.natCast_emod]; congr 1; omega
  rw [this, wrap_u64 (Int.emod_nonneg _ (by omega)) (by have := Int.emod_lt_of_pos m (show (0 : Int) < ((2 ^ n : Nat) : Int) by omega); omega)]
theorem andNot_mask {m : Int} (n : Nat) (hn : n ≤ 63) (h0 : 0 ≤ m) (h1 : m < 18446744073709551616) : IntKind.u64.wrap ((BitVec.ofInt 64 m &&& ~~~BitVec.ofInt 64 ((2 ^ n - 1 : Nat) : Int)).toNat : Int) = m / ((2 ^ n : Nat) : Int) * ((2 ^ n : Nat) : Int) := by
  have h2 : 2 ^ n ≤ 2 ^ 63 := Nat.pow_le_pow_right (by omega) hn
  have h3 : 0 < 2 ^ n := Nat.two_pow_pos n
  have key : (BitVec.ofInt 64 m &&& ~~~BitVec.ofInt 64 ((2 ^ n - 1 : Nat) : Int)).toNat = m.toNat / 2 ^ n * 2 ^ n := by
    rw [BitVec.toNat_and, BitVec.toNat_not, ofInt_toNat h0 h1, ofInt_toNat (by omega) (by omega), Int.toNat_natCast]
    apply Nat.eq_of_testBit_eq
    intro i
    rw [Nat.testBit_and, show 2 ^ 64 - 1 - (2 ^ n - 1) = 2 ^ 64 - ((2 ^ n - 1) + 1) by omega, Nat.testBit_two_pow_sub_succ (by omega), Nat.testBit_two_pow_sub_one, ← Nat.shiftRight_eq_div_pow, ← Nat.shiftLeft_eq, Nat.testBit_shiftLeft, Nat.testBit_shiftRight]
    by_cases hi : i < n
    · have : ¬ (n ≤ i) := by omega
      simp [hi, this]
    · have h4 : n ≤ i := by omega
      by_cases h64 : i < 64
      · simp [hi, h4, h64]
      · have : m.toNat.testBit i = false := Nat.testBit_lt_two_pow (Nat.lt_of_lt_of_le (show m.toNat < 2 ^ 64 by omega) (Nat.pow_le_pow_right (by omega) (by omega)))
        simp [hi, h4, h64, this]
  rw [key]
  have : ((m.toNat / 2 ^ n * 2 ^ n : Nat) : Int) = m / ((2 ^ n : Nat) : Int) * ((2 ^ n : Nat) : Int) := by
    rw [Int.natCast_mul, Int.natCast_ediv]; congr 2; omega
  rw [this, wrap_u64 (Int.mul_nonneg (Int.ediv_nonneg h0 (by omega)) (by omega)) (by have := Int.ediv_mul_le m (show ((2 ^ n : Nat) : Int) ≠ 0 by omega); omega)]
theorem nat_and_bit (x n : Nat) : x &&& 2 ^ n = if x.testBit n = true then 2 ^ n else 0 := by
  apply Nat.eq_of_testBit_eq
  intro i
  rw [Nat.testBit_and, Nat.testBit_two_pow]
  by_cases h : n = i
  · subst h
    cases hx : x.testBit n <;> simp [Nat.testBit_two_pow]
  · cases hx : x.testBit n <;> simp [h, Nat.testBit_two_pow]
theorem and_bit {m : Int} (n : Nat) (hn : n ≤ 63) (h0 : 0 ≤ m) (h1 : m < 18446744073709551616) : (IntKind.u64.wrap ((BitVec.ofInt 64 m &&& BitVec.ofInt 64 ((2 ^ n : Nat) : Int)).toNat : Int) != 0) = decide (m / ((2 ^ n : Nat) : Int) % 2 = 1) := by
  have h2 : 2 ^ n ≤ 2 ^ 63 := Nat.pow_le_pow_right (by omega) hn
  have h3 : 0 < 2 ^ n := Nat.two_pow_pos n
  rw [BitVec.toNat_and, ofInt_toNat h0 h1, ofInt_toNat (by omega) (by omega), Int.toNat_natCast, nat_and_bit, Nat.testBit_eq_decide_div_mod_eq]
  have e : m / ((2 ^ n : Nat) : Int) % 2 = ((m.toNat / 2 ^ n % 2 : Nat) : Int) := by
    rw [Int.natCast_emod, Int.natCast_ediv]; congr 2; omega
  rw [e]
  rcases Nat.mod_two_eq_zero_or_one (m.toNat / 2 ^ n) with h | h <;> rw [h]
  · simp [IntKind.wrap_u64]
  · simp only [decide_true, if_true]
    rw [wrap_u64 (by omega) (by omega), bne_iff_ne.2 (show ((2 ^ n : Nat) : Int) ≠ 0 by omega)]
    rfl

/-! ### Addresses, keys, ticks -/
def kindM (m : Int) : Int :=
  if m % 281474976710656 = 281474976710655 then 2 else if m % 281474976710656 / 16 * 16 = 1652522221568 then 3 else m % 281474976710656 / 1099511627776 % 2
def keyOk (vid mac : Int) : Bool := decide (1 ≤ vid) && (decide (vid ≤ 4094) && (decide (0 < mac) && (decide (mac < 281474976710656) && (kindM mac == 0))))
def ageM (now t : Int) : Int := if (now - t) % 4294967296 ≥ 2147483648 then 0 else (now - t) % 4294967296
structure KeyWf (vid mac : Int) : Prop where
  vid0 : -9223372036854775808 ≤ vid
  vid1 : vid ≤ 9223372036854775807
  mac0 : 0 ≤ mac
  mac1 : mac < 18446744073709551616

/-! ### Buckets -/
structure Place where
  used : Bool
  vid : Int
  mac : Int
  port : Int
  static : Bool
  stamp : Int
  deriving DecidableEq
def Place.none : Place := ⟨false, 0, 0, 0, false, 0⟩
def encP (p : Place) : List Value := [.bool p.used, .int .i64 p.vid, .int .u64 p.mac, .int .i64 p.port, .bool p.static, .int .u32 p.stamp]
def encE (p : Place) : List Value := [.int .i64 p.vid, .int .u64 p.mac, .int .i64 p.port, .bool p.static, .int .u32 p.stamp]
structure Place.Wf (p : Place) : Prop where
  key : KeyWf p.vid p.mac
  port0 : -9223372036854775808 ≤ p.port
  port1 : p.port ≤ 9223372036854775807
  stamp0 : 0 ≤ p.stamp
  stamp1 : p.stamp < 4294967296
theorem encP_len (p : Place) : (encP p).length = 6 := rfl
theorem encE_len (p : Place) : (encE p).length = 5 := rfl
def hasKey (vid mac : Int) (p : Place) : Bool := p.used && (p.vid == vid && p.mac == mac)
def findN (vid mac : Int) : List Place → Nat → Int
  | [], _ => -1
  | p :: ps, i => if hasKey vid mac p = true then i else findN vid mac ps (i + 1)
theorem findN_drop {vid mac : Int} {xs : List Place} {i : Nat} {p : Place} (h : xs[i]? = some p) : findN vid mac (xs.drop i) i = if hasKey vid mac p = true then (i : Int) else findN vid mac (xs.drop (i + 1)) (i + 1) := by
  obtain ⟨hi, rfl⟩ := List.getElem?_eq_some_iff.1 h
  rw [List.drop_eq_getElem_cons hi]
  rfl
theorem findN_end {vid mac : Int} {xs : List Place} {i : Nat} (h : xs.length ≤ i) : findN vid mac (xs.drop i) i = -1 := by
  rw [List.drop_eq_nil_of_le h]; rfl
theorem findN_range {vid mac : Int} : ∀ (xs : List Place) (i : Nat), findN vid mac xs i = -1 ∨ ((i : Int) ≤ findN vid mac xs i ∧ findN vid mac xs i < i + xs.length) := by
  intro xs
  induction xs with
  | nil => intro i; exact .inl rfl
  | cons p ps ih =>
    intro i
    simp only [findN]
    split
    · right; simp; omega
    · rcases ih (i + 1) with h | h
      · exact .inl h
      · right; simp; omega
def cleanP (p : Place) : Place := if p.used = true then p else Place.none
def roomP (now : Int) : List Place → Nat → Int → Int → Int → Int × Int
  | [], _, best, did, _ => (best, did)
  | p :: ps, i, best, did, g =>
    if p.used = false then ((i : Int), 3)
    else if p.static = true then roomP now ps (i + 1) best did g
    else if best < 0 ∨ ageM now p.stamp > g then roomP now ps (i + 1) i 4 (ageM now p.stamp)
    else roomP now ps (i + 1) best did g
def roomM (xs : List Place) (now : Int) : Int × Int := roomP now xs 0 (-1) 5 0
theorem roomP_drop {now best did g : Int} {xs : List Place} {i : Nat} {p : Place} (h : xs[i]? = some p) : roomP now (xs.drop i) i best did g =
    if p.used = false then ((i : Int), 3)
    else if p.static = true then roomP now (xs.drop (i + 1)) (i + 1) best did g
    else if best < 0 ∨ ageM now p.stamp > g then roomP now (xs.drop (i + 1)) (i + 1) i 4 (ageM now p.stamp)
    else roomP now (xs.drop (i + 1)) (i + 1) best did g := by
  obtain ⟨hi, rfl⟩ := List.getElem?_eq_some_iff.1 h
  rw [List.drop_eq_getElem_cons hi]
  rfl
theorem roomP_range {now : Int} : ∀ (xs : List Place) (i : Nat) (best did g : Int), best < i → -1 ≤ best → -1 ≤ (roomP now xs i best did g).1 ∧ (roomP now xs i best did g).1 < i + xs.length := by
  intro xs
  induction xs with
  | nil => intro i best did g h1 h2; simp [roomP]; omega
  | cons p ps ih =>
    intro i best did g h1 h2
    simp only [roomP, List.length_cons]
    split
    · simp; omega
    · split
      · have := ih (i + 1) best did g (by omega) h2; omega
      · split
        · have := ih (i + 1) i 4 (ageM now p.stamp) (by omega) (by omega); omega
        · have := ih (i + 1) best did g (by omega) h2; omega
theorem roomM_range (xs : List Place) (now : Int) : -1 ≤ (roomM xs now).1 ∧ (roomM xs now).1 < xs.length := by
  have := roomP_range (now := now) xs 0 (-1) 5 0 (by omega) (by omega)
  simpa [roomM] using this
def putM (xs : List Place) (e : Place) (now : Int) : List Place × Int :=
  if 0 ≤ (roomM xs now).1 then (xs.set (roomM xs now).1.toNat { e with used := true }, (roomM xs now).2) else (xs, (roomM xs now).2)
def mayM (vid mac port : Int) : Bool := keyOk vid mac && (decide (0 ≤ port) && decide (port < 64))
def learnM (l : List Place) (vid mac port now : Int) : List Place × Int :=
  let xs := l.map cleanP
  if mayM vid mac port = false then (xs, 5) else
  let i := findN vid mac xs 0
  if i < 0 then putM xs ⟨true, vid, mac, port, false, now⟩ now else
  let w := xs.getD i.toNat Place.none
  if w.static = true then (xs, 0) else
  (xs.set i.toNat { w with port := port, stamp := now }, if w.port ≠ port then 2 else if w.stamp ≠ now then 1 else 0)
theorem learnM_no {xs : List Place} {vid mac port now : Int} (hm : mayM vid mac port = false) : learnM xs vid mac port now = (xs.map cleanP, 5) := by simp [learnM, hm]
theorem learnM_new {xs : List Place} {vid mac port now : Int} (hm : mayM vid mac port = true) (hf : findN vid mac (xs.map cleanP) 0 = -1) : learnM xs vid mac port now = putM (xs.map cleanP) ⟨true, vid, mac, port, false, now⟩ now := by simp [learnM, hm, hf]
theorem learnM_hit {xs : List Place} {vid mac port now : Int} (hm : mayM vid mac port = true) {i : Nat} (hi : findN vid mac (xs.map cleanP) 0 = i) {w : Place} (hw : (xs.map cleanP)[i]? = some w) :
    learnM xs vid mac port now = if w.static = true then (xs.map cleanP, 0) else ((xs.map cleanP).set i { w with port := port, stamp := now }, if w.port ≠ port then 2 else if w.stamp ≠ now then 1 else 0) := by
  have hgd : (xs.map cleanP).getD i Place.none = w := by rw [List.getD_eq_getElem?_getD, hw]; rfl
  simp only [learnM, hm, hi, Int.toNat_natCast, hgd]
  rw [if_neg (by simp), if_neg (by omega)]
def orderM (l : List Place) (vid mac port now : Int) : List Place × Int :=
  let xs := l.map cleanP
  if mayM vid mac port = false then (xs, 5) else
  let e : Place := ⟨true, vid, mac, port, true, 0⟩
  let i := findN vid mac xs 0
  if i < 0 then putM xs e now else
  if xs.getD i.toNat Place.none = e then (xs, 0) else
  (xs.set i.toNat e, 2)
theorem orderM_no {xs : List Place} {vid mac port now : Int} (hm : mayM vid mac port = false) : orderM xs vid mac port now = (xs.map cleanP, 5) := by simp [orderM, hm]
theorem orderM_new {xs : List Place} {vid mac port now : Int} (hm : mayM vid mac port = true) (hf : findN vid mac (xs.map cleanP) 0 = -1) : orderM xs vid mac port now = putM (xs.map cleanP) ⟨true, vid, mac, port, true, 0⟩ now := by simp [orderM, hm, hf]
theorem orderM_hit {xs : List Place} {vid mac port now : Int} (hm : mayM vid mac port = true) {i : Nat} (hi : findN vid mac (xs.map cleanP) 0 = i) {w : Place} (hw : (xs.map cleanP)[i]? = some w) :
    orderM xs vid mac port now = if w = ⟨true, vid, mac, port, true, 0⟩ then (xs.map cleanP, 0) else ((xs.map cleanP).set i ⟨true, vid, mac, port, true, 0⟩, 2) := by
  have hgd : (xs.map cleanP).getD i Place.none = w := by rw [List.getD_eq_getElem?_getD, hw]; rfl
  simp only [orderM, hm, hi, Int.toNat_natCast, hgd]
  rw [if_neg (by simp), if_neg (by omega)]
def dropM (l : List Place) (vid mac : Int) : List Place × Bool :=
  let xs := l.map cleanP
  let i := findN vid mac xs 0
  if i < 0 then (xs, false) else
  if (xs.getD i.toNat Place.none).static = false then (xs, false) else (xs.set i.toNat Place.none, true)
theorem dropM_no {xs : List Place} {vid mac : Int} (hf : findN vid mac (xs.map cleanP) 0 = -1) : dropM xs vid mac = (xs.map cleanP, false) := by simp [dropM, hf]
theorem dropM_hit {xs : List Place} {vid mac : Int} {i : Nat} (hi : findN vid mac (xs.map cleanP) 0 = i) {w : Place} (hw : (xs.map cleanP)[i]? = some w) :
    dropM xs vid mac = if w.static = false then (xs.map cleanP, false) else ((xs.map cleanP).set i Place.none, true) := by
  have hgd : (xs.map cleanP).getD i Place.none = w := by rw [List.getD_eq_getElem?_getD, hw]; rfl
  simp only [dropM, hi, Int.toNat_natCast, hgd]
  rw [if_neg (show ¬ ((i : Int) < 0) by omega)]
theorem findN_hit {vid mac : Int} : ∀ (xs : List Place) (k i : Nat), findN vid mac xs k = i → ∃ w, xs[i - k]? = some w ∧ hasKey vid mac w = true := by
  intro xs
  induction xs with
  | nil => intro k i h; simp [findN] at h
  | cons p ps ih =>
    intro k i h
    simp only [findN] at h
    split at h
    · rename_i hp
      have : i - k = 0 := by omega
      rw [this]; exact ⟨p, rfl, hp⟩
    · obtain ⟨w, hw, hk⟩ := ih (k + 1) i h
      have hr := findN_range (vid := vid) (mac := mac) ps (k + 1)
      have : i - k = (i - (k + 1)) + 1 := by omega
      rw [this]
      exact ⟨w, hw, hk⟩
def withoutM (gone : Place → Bool) (l : List Place) : List Place × Int :=
  ((l.map cleanP).map fun p => if (p.used && gone p) = true then Place.none else p, ((l.map cleanP).countP fun p => p.used && gone p : Nat))
def oldM (now limit : Int) (p : Place) : Bool := !p.static && decide (ageM now p.stamp > limit)
def hitM (port vid : Int) (p : Place) : Bool := !p.static && ((port == -1 || port == p.port) && (vid == -1 || vid == p.vid))
/-! ### What the reference makes of any numbers -/
def divN : Nat → Int → Int
  | 0, m => m
  | i + 1, m => divN i m / 256
def fixVid (vid : Int) : Int := 1 + vid % 18446744073709551616 % 4094
def fixMac0 (mac : Int) : Int := if divN 5 (mac % 281474976710656) % 256 % 2 = 1 then mac % 281474976710656 - 1099511627776 else mac % 281474976710656
def fixMac (mac : Int) : Int := if fixMac0 mac = 0 then 1 else fixMac0 mac
theorem fixVid_range (vid : Int) : 1 ≤ fixVid vid ∧ fixVid vid ≤ 4094 := by unfold fixVid; omega
theorem fixMac0_range (mac : Int) : 0 ≤ fixMac0 mac ∧ fixMac0 mac < 281474976710656 ∧ fixMac0 mac / 1099511627776 % 2 = 0 := by
  unfold fixMac0
  refine ⟨?_, ?_, ?_⟩ <;> split <;> rename_i c <;> simp only [divN] at c <;> omega
theorem fixMac_range (mac : Int) : 0 < fixMac mac ∧ fixMac mac < 281474976710656 ∧ fixMac mac / 1099511627776 % 2 = 0 := by
  have := fixMac0_range mac
  unfold fixMac
  refine ⟨?_, ?_, ?_⟩ <;> split <;> omega
theorem fix_ok (vid mac : Int) : keyOk (fixVid vid) (fixMac mac) = true := by
  have h1 := fixVid_range vid
  have h2 := fixMac_range mac
  have h3 : fixMac mac % 281474976710656 = fixMac mac := by omega
  have h4 : kindM (fixMac mac) = 0 := by
    unfold kindM
    rw [h3, if_neg (by omega), if_neg (by omega)]
    exact h2.2.2
  simp [keyOk, h1.1, h1.2, h2.1, h2.2.1, h4]
theorem fix_wf (vid mac : Int) : KeyWf (fixVid vid) (fixMac mac) := by
  have h1 := fixVid_range vid
  have h2 := fixMac_range mac
  exact ⟨by omega, by omega, by omega, by omega⟩
def fixE (p : Place) : Place := ⟨true, fixVid p.vid, fixMac p.mac, p.port % 18446744073709551616 % 64, p.static, if p.static = true then 0 else p.stamp⟩
def fixP (acc : List Place) (p : Place) : Place := if p.used = true then (if findN (fixE p).vid (fixE p).mac acc 0 < 0 then fixE p else Place.none) else Place.none
def fixGo : List Place → List Place → List Place
  | [], acc => acc
  | p :: ps, acc => fixGo ps (acc ++ [fixP acc p])
theorem fixGo_drop {l acc : List Place} {i : Nat} {p : Place} (h : l[i]? = some p) : fixGo (l.drop i) acc = fixGo (l.drop (i + 1)) (acc ++ [fixP acc p]) := by
  obtain ⟨hi, rfl⟩ := List.getElem?_eq_some_iff.1 h
  rw [List.drop_eq_getElem_cons hi]
  rfl
def fixM (l : List Place) : List Place := fixGo (l.take 8) []
theorem fixGo_len : ∀ (l acc : List Place), (fixGo l acc).length = acc.length + l.length
  | [], acc => by simp [fixGo]
  | p :: ps, acc => by rw [fixGo, fixGo_len]; simp; omega
theorem fixM_len (l : List Place) : (fixM l).length ≤ 8 := by
  unfold fixM
  rw [fixGo_len]
  simp
  omega
theorem fixE_wf {p : Place} (h : p.Wf) : (fixE p).Wf := by
  refine ⟨fix_wf _ _, ?_, ?_, ?_, ?_⟩ <;> simp only [fixE]
  · omega
  · omega
  · split; omega; exact h.stamp0
  · split; omega; exact h.stamp1
theorem none_wf : Place.none.Wf := ⟨⟨by decide, by decide, by decide, by decide⟩, by decide, by decide, by decide, by decide⟩
/-- What a place of a bucket that may be is. -/
structure Place.Ok (p : Place) : Prop where
  wf : p.Wf
  key : p.used = true → keyOk p.vid p.mac = true
  port : p.used = true → 0 ≤ p.port ∧ p.port < 64
  none : p.used = false → p = Place.none
theorem none_ok : Place.none.Ok := ⟨none_wf, (by intro h; cases h), (by intro h; cases h), fun _ => rfl⟩
theorem fixP_ok (acc : List Place) {p : Place} (h : p.Wf) : (fixP acc p).Ok := by
  unfold fixP
  split
  · split
    · refine ⟨fixE_wf h, fun _ => fix_ok _ _, fun _ => ?_, fun hh => ?_⟩
      · simp only [fixE]; omega
      · simp [fixE] at hh
    · exact none_ok
  · exact none_ok
theorem fixGo_ok : ∀ (l acc : List Place), (∀ p ∈ l, p.Wf) → (∀ p ∈ acc, p.Ok) → ∀ p ∈ fixGo l acc, p.Ok
  | [], acc, _, h => h
  | x :: xs, acc, hl, h => by
    refine fixGo_ok xs _ (fun p hp => hl p (by simp [hp])) fun p hp => ?_
    rcases List.mem_append.1 hp with hp | hp
    · exact h p hp
    · simp only [List.mem_singleton] at hp
      subst hp
      exact fixP_ok acc (hl x (by simp))
theorem fixM_ok {l : List Place} (h : ∀ p ∈ l, p.Wf) : ∀ p ∈ fixM l, p.Ok := fixGo_ok _ _ (fun p hp => h p (List.mem_of_mem_take hp)) (by simp)
theorem clean_ok {l : List Place} (h : ∀ p ∈ l, p.Ok) : l.map cleanP = l := by
  have : ∀ p ∈ l, cleanP p = p := fun p hp => by
    unfold cleanP
    cases hu : p.used with
    | true => rfl
    | false => exact ((h p hp).none hu).symm
  rw [List.map_congr_left (g := fun p => p) this, List.map_id']
theorem roomP_free {now : Int} : ∀ (xs : List Place) (k : Nat) (best did g : Int) (i : Nat) (p : Place), (∀ j q, j < i → xs[j]? = some q → q.used = true) → xs[i]? = some p → p.used = false → roomP now xs k best did g = (((k + i : Nat) : Int), 3) := by
  intro xs
  induction xs with
  | nil => intro k best did g i p _ h; simp at h
  | cons x xs ih =>
    intro k best did g i p hall hp hu
    cases i with
    | zero =>
      simp only [List.getElem?_cons_zero, Option.some.injEq] at hp
      subst hp
      simp [roomP, hu]
    | succ i =>
      have hx : x.used = true := hall 0 x (by omega) rfl
      have ih' := fun best did g => ih (k + 1) best did g i p (fun j q hj hq => hall (j + 1) q (by omega) (by simpa using hq)) (by simpa using hp) hu
      simp only [roomP, hx]
      have e : k + 1 + i = k + (i + 1) := by omega
      rw [e] at ih'
      rw [if_neg (by simp)]
      split
      · exact ih' _ _ _
      · split
        · exact ih' _ _ _
        · exact ih' _ _ _
end Go.Proofs.YtjjempefncgfhaaGreatDoorE
