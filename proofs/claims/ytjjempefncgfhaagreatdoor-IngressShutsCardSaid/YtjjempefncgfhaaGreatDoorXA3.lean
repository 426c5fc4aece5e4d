/- What the reference's functions of layers 8 to 10 answer. Conditions: the arguments are of their types. -/
import Derived.Test.YtjjempefncgfhaaGreatDoorXLib
import Derived.Test.YtjjempefncgfhaaGreatDoorXA1
set_option linter.unusedVariables false
set_option linter.unusedSimpArgs false
set_option maxRecDepth 100000
namespace Go.Proofs.YtjjempefncgfhaaGreatDoorE
open Go Go.Proofs
def env_rFind : Nat → Ann
  | 4 => ⟨.op 0 [] <| .op 1 [] <| .op 2 [] <| .op 3 [] <| .op 4 [] <| .op 5 [] <| .op 6 [] <| .op 7 [] <| .op 8 [] <| .op 9 [] <| .op 10 [] <| .op 11 [] <| .op 12 [] <| .op 13 [] <| .op 14 [] <| .nil, [0, 0, 3, 7, 15, 31, 63, 63, 255, 511, 1023, 2047, 63, 8191, 16383], false⟩
  | _ => ⟨.nil, [], false⟩
def env_rRoom : Nat → Ann
  | 10 => ⟨.op 0 [] <| .op 1 [] <| .op 2 [] <| .op 3 [] <| .op 4 [] <| .op 5 [] <| .op 6 [] <| .op 7 [] <| .op 8 [] <| .op 9 [] <| .op 10 [] <| .op 11 [] <| .op 12 [] <| .op 13 [] <| .op 14 [] <| .op 15 [] <| .op 16 [] <| .op 17 [] <| .op 19 [] <| .op 20 [] <| .op 21 [] <| .op 22 [] <| .op 23 [] <| .op 24 [] <| .op 25 [] <| .op 18 [25] <| .op 26 [] <| .op 27 [] <| .op 28 [] <| .op 29 [] <| .nil, [0, 0, 3, 7, 15, 31, 63, 127, 255, 511, 1023, 2047, 2047, 2047, 14335, 30719, 63487, 129023, 262143, 2047, 2047, 2047, 3147775, 7342079, 15730687, 32507903, 67108863, 134217727, 268435455, 536870911], false⟩
  | _ => ⟨.nil, [], false⟩
def env_rOrder : Nat → Ann
  | 8 => ⟨.op 0 [] <| .op 1 [] <| .op 2 [] <| .op 3 [] <| .op 4 [] <| .op 5 [] <| .op 6 [] <| .nil, [0, 0, 3, 7, 15, 0, 63], false⟩
  | _ => ⟨.nil, [], false⟩
def env_rFlush : Nat → Ann
  | 6 => ⟨.op 0 [] <| .op 1 [] <| .op 2 [] <| .op 3 [] <| .op 4 [] <| .op 5 [] <| .op 6 [] <| .op 7 [] <| .op 8 [] <| .op 9 [] <| .op 10 [] <| .op 11 [] <| .op 12 [] <| .op 13 [] <| .nil, [0, 0, 3, 7, 15, 31, 63, 63, 255, 511, 1023, 63, 4095, 8191], false⟩
  | _ => ⟨.nil, [], false⟩
def env_rSame : Nat → Ann
  | 6 => ⟨.op 0 [] <| .op 1 [] <| .op 2 [] <| .op 3 [] <| .op 4 [] <| .op 5 [] <| .op 6 [] <| .op 7 [] <| .op 8 [] <| .nil, [0, 0, 3, 7, 0, 0, 48, 112, 255], false⟩
  | _ => ⟨.nil, [], false⟩
theorem rKeyFix_spec {vid mac : Int} (wf : KeyWf vid mac) (h : Heap) : HCalls Tryz.prog 87 #[.agg #[.int .i64 vid, .int .u64 mac]] h (fun v h' => v = .agg #[.int .i64 (fixVid vid), .int .u64 (fixMac mac)] ∧ Ext h h') := by
  have m0 : 0 ≤ mac % 281474976710656 := by omega
  have m1 : mac % 281474976710656 < 18446744073709551616 := by omega
  have hv : IntKind.i64.wrap (1 + IntKind.i64.wrap ((IntKind.u64.wrap vid).tmod 4094)) = fixVid vid := by
    rw [IntKind.wrap_u64, Int.tmod_eq_emod_of_nonneg (by omega), wrap_i64 (x := vid % _ % _) (by omega) (by omega), wrap_i64 (by omega) (by omega)]; rfl
  refine xcalls env0 Tryz.func87 rfl (by kernel_rfl) rfl (by kernel_rfl) ?_
  intro b1 h1 n1 b2 h2 n2
  have hb1 := n2.ext.blk n1.this
  have hb2 := n2.this
  have hne : b1 ≠ b2 := by have := n2.lt n1.this; omega
  refine ⟨_, cell_blk hb1 rfl, by decide, ?_⟩
  refine ⟨rfl, rfl, canset_blk hb1 rfl, fun h3 s3 => ?_⟩
  have hc1 : h3[b1]? = some (.cells [.int .i64 (fixVid vid), .int .u64 mac].toArray 54 (0, 0)) := by rw [← hv]; exact s3.put hb1
  have x3 : Ext h h3 := (n1.ext.trans n2.ext).stored s3 (n1.ge (Ext.refl _))
  have hc2 := s3.blk hb2 hne.symm
  refine ⟨_, cell_blk hc1 rfl, ?_⟩
  refine (rLow_spec wf.mac0 _).mono ?_
  rintro v h4 ⟨rfl, e4⟩
  rw [← e4] at hc1 hc2 x3
  refine ⟨rfl, rfl, canset_blk hc1 rfl, fun h5 s5 => ?_⟩
  have hd1 : h5[b1]? = some (.cells [.int .i64 (fixVid vid), .int .u64 (mac % 281474976710656)].toArray 54 (0, 0)) := s5.put hc1
  have x5 := x3.stored s5 (n1.ge (Ext.refl _))
  have hd2 := s5.blk hc2 hne.symm
  refine ⟨_, cell_blk hd1 rfl, ?_⟩
  refine (rBytes_spec m0 m1 _).mono ?_
  rintro v h6 ⟨a, c, rfl, hr, x6⟩
  have he1 := x6.blk hd1
  have he2 := x6.blk hd2
  have last : ∀ (h7 : Heap) (m : Int), h7[b1]? = some (.cells [.int .i64 (fixVid vid), .int .u64 m].toArray 54 (0, 0)) → h7[b2]? = some (.cells [.int .i64 0, .int .u64 0].toArray 54 (0, 0)) → Ext h h7 →
      ∃ vs : List Value, vs.length = 2 ∧ Reads h7 ⟨b1, 0, none⟩ vs ∧ vs = [.int .i64 (fixVid vid), .int .u64 m] := fun h7 m k1 k2 kx => ⟨_, rfl, reads_all k1, rfl⟩
  have fin : ∀ (m : Int), m = fixMac0 mac → (if m = 0 then (1 : Int) else m) = fixMac mac := fun m hm => by rw [hm]; rfl
  refine ⟨a, rfl, by decide, by decide, .int .u8 (divN 5 (mac % 281474976710656) % 256), by have := hr.get 0 (v := .int .u8 (divN 5 (mac % 281474976710656) % 256)) rfl; exact this, by decide, ?_⟩
  have hodd : (divN 5 (mac % 281474976710656) % 256).tmod 2 = divN 5 (mac % 281474976710656) % 256 % 2 := Int.tmod_eq_emod_of_nonneg (by omega)
  refine xif_of (fun q1 => ?_) (fun q1 => ?_)
  · replace q1 : ((divN 5 (mac % 281474976710656) % 256).tmod 2 == 1) = true := q1
    rw [hodd] at q1
    have q1 : divN 5 (mac % 281474976710656) % 256 % 2 = 1 := by simpa using q1
    have hm : IntKind.u64.wrap (mac % 281474976710656 - 1099511627776) = fixMac0 mac := by
      rw [fixMac0, if_pos q1, wrap_u64 (by simp only [divN] at q1; omega) (by omega)]
    refine ⟨_, cell_blk he1 rfl, ?_⟩
    refine ⟨rfl, rfl, canset_blk he1 rfl, fun h7 s7 => ?_⟩
    have hf1 : h7[b1]? = some (.cells [.int .i64 (fixVid vid), .int .u64 (fixMac0 mac)].toArray 54 (0, 0)) := by rw [← hm]; exact s7.put he1
    have x7 := (x5.trans x6).stored s7 (n1.ge (Ext.refl _))
    have hf2 := s7.blk he2 hne.symm
    refine ⟨_, cell_blk hf1 rfl, ?_⟩
    refine xif_of (fun q2 => ?_) (fun q2 => ?_)
    · have q2 : fixMac0 mac = 0 := by simpa using q2
      refine ⟨rfl, rfl, canset_blk hf1 rfl, fun h8 s8 => ?_⟩
      have hg1 : h8[b1]? = some (.cells [.int .i64 (fixVid vid), .int .u64 1].toArray 54 (0, 0)) := s8.put hf1
      have hg2 := s8.blk hf2 hne.symm
      have x8 := x7.stored s8 (n1.ge (Ext.refl _))
      refine ⟨_, rfl, reads_all hg1, ?_⟩
      refine ⟨rfl, rfl, canset_blk hg2 rfl, fun h9 s9 => ?_⟩
      have hh2 : h9[b2]? = some (.cells [.int .i64 (fixVid vid), .int .u64 1].toArray 54 (0, 0)) := s9.put hg2
      refine ⟨_, rfl, reads_all hh2, ?_, x8.stored s9 (n2.ge n1.ext)⟩
      rw [fixMac, if_pos q2]; rfl
    · have q2 : ¬ fixMac0 mac = 0 := by simpa using q2
      refine ⟨_, rfl, reads_all hf1, ?_⟩
      refine ⟨rfl, rfl, canset_blk hf2 rfl, fun h9 s9 => ?_⟩
      have hh2 : h9[b2]? = some (.cells [.int .i64 (fixVid vid), .int .u64 (fixMac0 mac)].toArray 54 (0, 0)) := s9.put hf2
      refine ⟨_, rfl, reads_all hh2, ?_, x7.stored s9 (n2.ge n1.ext)⟩
      rw [fixMac, if_neg q2]; rfl
  · replace q1 : ((divN 5 (mac % 281474976710656) % 256).tmod 2 == 1) = false := q1
    rw [hodd] at q1
    have q1 : ¬ divN 5 (mac % 281474976710656) % 256 % 2 = 1 := by simpa using q1
    have hm : mac % 281474976710656 = fixMac0 mac := by rw [fixMac0, if_neg q1]
    rw [hm] at he1
    refine ⟨_, cell_blk he1 rfl, ?_⟩
    have x7 := x5.trans x6
    refine xif_of (fun q2 => ?_) (fun q2 => ?_)
    · have q2 : fixMac0 mac = 0 := by simpa using q2
      refine ⟨rfl, rfl, canset_blk he1 rfl, fun h8 s8 => ?_⟩
      have hg1 : h8[b1]? = some (.cells [.int .i64 (fixVid vid), .int .u64 1].toArray 54 (0, 0)) := s8.put he1
      have hg2 := s8.blk he2 hne.symm
      have x8 := x7.stored s8 (n1.ge (Ext.refl _))
      refine ⟨_, rfl, reads_all hg1, ?_⟩
      refine ⟨rfl, rfl, canset_blk hg2 rfl, fun h9 s9 => ?_⟩
      have hh2 : h9[b2]? = some (.cells [.int .i64 (fixVid vid), .int .u64 1].toArray 54 (0, 0)) := s9.put hg2
      refine ⟨_, rfl, reads_all hh2, ?_, x8.stored s9 (n2.ge n1.ext)⟩
      rw [fixMac, if_pos q2]; rfl
    · have q2 : ¬ fixMac0 mac = 0 := by simpa using q2
      refine ⟨_, rfl, reads_all he1, ?_⟩
      refine ⟨rfl, rfl, canset_blk he2 rfl, fun h9 s9 => ?_⟩
      have hh2 : h9[b2]? = some (.cells [.int .i64 (fixVid vid), .int .u64 (fixMac0 mac)].toArray 54 (0, 0)) := s9.put he2
      refine ⟨_, rfl, reads_all hh2, ?_, x7.stored s9 (n2.ge n1.ext)⟩
      rw [fixMac, if_neg q2]; rfl
theorem eqKeyR (a b c d : Int) : eqv Tryz.prog 60 54 (.agg #[.int .i64 a, .int .u64 b]) (.agg #[.int .i64 c, .int .u64 d]) = some (a == c && (b == d && true)) := by kernel_rfl
theorem eqKeyRG (a b : Int) : guardBad Tryz.prog 54 (.agg #[.int .i64 a, .int .u64 b]) = false := by kernel_rfl
theorem rFind_spec {A : Option Addr} {xs : List Place} {c : Nat} {vid mac : Int} {h : Heap} (hr : Row encP 6 h A xs) {n : Nat} (hl : xs.length = n) (hn : n ≤ 140737488355328) :
    HCalls Tryz.prog 176 #[.slice A n c, .agg #[.int .i64 vid, .int .u64 mac]] h (fun v h' => v = .int .i64 (findN vid mac xs 0) ∧ Ext h h') := by
  subst hl
  refine xcalls env_rFind Tryz.func176 rfl (by kernel_rfl) rfl (by kernel_rfl) ?_
  intro b3 h1 n1
  refine ⟨Nat, fun i => [(0, .slice A xs.length c), (3, .pointer (some ⟨b3, 0, none⟩)), (5, .int .i64 i)], fun i h' => i ≤ xs.length ∧ findN vid mac (xs.drop i) i = findN vid mac xs 0 ∧ Ext h1 h', fun i => xs.length - i, 0, ⟨rfl, rfl, rfl, trivial⟩, ⟨Nat.zero_le _, rfl, Ext.refl _⟩, ?_⟩
  rintro i h2 ⟨hi, hf, x2⟩
  refine xif_of (fun hlt => ?_) (fun hge => ?_)
  · have hlt : i < xs.length := by simpa using hlt
    obtain ⟨p, hp⟩ : ∃ p, xs[i]? = some p := ⟨xs[i], by simp [hlt]⟩
    obtain ⟨a, rfl, hrd⟩ := (x2.row (n1.ext.row hr)) i p hp
    refine ⟨a, rfl, by omega, by omega, .bool p.used, hrd.get 0 rfl, ?_⟩
    refine xif_of (fun hu => ?_) (fun hu => ?_)
    · refine ⟨a, rfl, by omega, by omega, [.int .i64 p.vid, .int .u64 p.mac], rfl, hrd.sub 1 rfl, [.int .i64 vid, .int .u64 mac], rfl, reads_all (x2.blk n1.this), ?_⟩
      refine xeq_of (eqKeyRG _ _) (eqKeyR _ _ _ _) ?_
      refine xif_of (fun he => ?_) (fun he => ?_)
      · refine ⟨?_, n1.ext.trans x2⟩
        rw [← hf, findN_drop hp, if_pos (by simpa [hasKey, hu] using he)]
        rfl
      · refine ⟨i + 1, ⟨rfl, rfl, slot_inc (by omega), trivial⟩, ⟨by omega, ?_, x2⟩, by show xs.length - (i + 1) < xs.length - i; omega⟩
        rw [← hf, findN_drop hp, if_neg (by simpa [hasKey, hu] using he)]
    · refine ⟨i + 1, ⟨rfl, rfl, slot_inc (by omega), trivial⟩, ⟨by omega, ?_, x2⟩, by show xs.length - (i + 1) < xs.length - i; omega⟩
      rw [← hf, findN_drop hp, if_neg (by simp [hasKey, hu])]
  · refine ⟨?_, n1.ext.trans x2⟩
    have : xs.length ≤ i := by simpa using hge
    rw [← hf, findN_end this]
    rfl
theorem infoPlaceR : (Tryz.prog.info? 242).map (fun i => (i.size, i.bytes)) = some (6, 40) := by kernel_rfl
theorem zeroPlaceR : xzero Tryz.prog 242 = some (encP Place.none) := by kernel_rfl
theorem encP_one (p : Place) : (encP p).all Value.oneCell' = true := rfl
theorem rCopy_spec {A : Option Addr} {xs : List Place} {c : Nat} {h : Heap} (hr : Row encP 6 h A xs) {n : Nat} (hl : xs.length = n) (hn : n ≤ 1000000) :
    HCalls Tryz.prog 215 #[.slice A n c] h (fun v h' => ∃ A' c', v = .slice A' n c' ∧ OwnA encP 6 242 h.size h' A' c' (xs.map cleanP) ∧ Ext h h') := by
  subst hl
  refine xcalls env0 Tryz.func215 rfl (by kernel_rfl) rfl (by kernel_rfl) ?_
  refine ⟨Nat × Option Addr × Nat, fun s => [(0, .slice A xs.length c), (3, .slice s.2.1 s.1 s.2.2), (4, .int .i64 s.1)],
    fun s h' => s.1 ≤ xs.length ∧ OwnA encP 6 242 h.size h' s.2.1 s.2.2 ((xs.take s.1).map cleanP) ∧ Ext h h', fun s => xs.length - s.1, (0, none, 0), ⟨rfl, rfl, rfl, trivial⟩, ⟨Nat.zero_le _, .inl ⟨rfl, rfl, rfl⟩, Ext.refl _⟩, ?_⟩
  rintro ⟨i, B, d⟩ h2 ⟨hi, own2, x2⟩
  simp only at hi own2
  refine xif_of (fun hlt => ?_) (fun hge => ?_)
  · have hlt : i < xs.length := by simpa using hlt
    obtain ⟨p, hp⟩ : ∃ p, xs[i]? = some p := ⟨xs[i], by simp [hlt]⟩
    have hpi : xs[i] = p := by rw [List.getElem?_eq_getElem hlt] at hp; exact Option.some.inj hp
    have hlen : ((xs.take i).map cleanP).length = i := by simp; omega
    have hnext : (xs.take i).map cleanP ++ [cleanP p] = (xs.take (i + 1)).map cleanP := by
      rw [List.take_succ_eq_append_getElem hlt, hpi]; simp
    obtain ⟨a, rfl, hrd⟩ := (x2.row hr) i p hp
    have step : ∀ (A' : Option Addr) (c' : Nat) (h' : Heap), OwnA encP 6 242 h.size h' A' c' ((xs.take i).map cleanP ++ [cleanP p]) → KeepA B h2 h' → ∃ x' : Nat × Option Addr × Nat, (some (Value.slice (some a) xs.length c) = some (Value.slice (some a) xs.length c) ∧ some (Value.slice A' (i + 1) c') = some (Value.slice x'.2.1 x'.1 x'.2.2) ∧ some (Value.int .i64 (IntKind.i64.wrap ((i : Int) + 1))) = some (Value.int .i64 x'.1) ∧ True) ∧
        (x'.1 ≤ xs.length ∧ OwnA encP 6 242 h.size h' x'.2.1 x'.2.2 ((xs.take x'.1).map cleanP) ∧ Ext h h') ∧ xs.length - x'.1 < xs.length - i :=
      fun A' c' h' o k => ⟨(i + 1, A', c'), ⟨rfl, rfl, slot_inc (by omega), trivial⟩, ⟨by omega, by rw [← hnext]; exact o, k.ext x2 own2.ge⟩, by show xs.length - (i + 1) < xs.length - i; omega⟩
    refine ⟨a, rfl, by omega, by omega, .bool p.used, hrd.get 0 rfl, ?_⟩
    refine xif_of (fun hu => ?_) (fun hu => ?_)
    · have hcl : cleanP p = p := by simp [cleanP, hu]
      rw [hcl] at step
      refine ⟨a, rfl, by omega, by omega, encP p, rfl, hrd, ?_⟩
      intro b3 h3 n3
      refine xappend_one infoPlaceR zeroPlaceR rfl (by decide) encP_len encP_one own2 n3 hlen (by omega) x2.size fun A' c' h' o k => ?_
      exact step A' c' h' o k
    · have hcl : cleanP p = Place.none := by simp [cleanP, hu]
      rw [hcl] at step
      intro b3 h3 n3
      refine xappend_one (x := Place.none) infoPlaceR zeroPlaceR rfl (by decide) encP_len encP_one own2 n3 hlen (by omega) x2.size fun A' c' h' o k => ?_
      exact step A' c' h' o k
  · have : i = xs.length := by have : xs.length ≤ i := by simpa using hge
                               omega
    subst this
    rw [List.take_length] at own2
    exact ⟨B, d, rfl, own2, x2⟩
theorem Reads.cellAt {h : Heap} {a : Addr} {o k : Nat} {vs : List Value} {v : Value} (H : Reads h (a.add o) vs) (j : Nat) (hk : k = o + j) (hv : nth vs j = some v) : cell h (a.add k) = some v := by
  rw [hk, ← add_add]; exact H.get j (by rw [nth_eq] at hv; exact hv)
theorem rRoom_spec {A : Option Addr} {xs : List Place} {c : Nat} {now : Int} {h : Heap} (hr : Row encP 6 h A xs) (wf : ∀ p ∈ xs, p.Wf) (a0 : 0 ≤ now) (a1 : now < 4294967296) {n : Nat} (hl : xs.length = n) (hn : n ≤ 1000000) :
    HCalls Tryz.prog 252 #[.slice A n c, .int .u32 now] h (fun v h' => v = .tuple #[.int .i64 (roomM xs now).1, .int .i64 (roomM xs now).2] ∧ Ext h h') := by
  subst hl
  refine xcalls env_rRoom Tryz.func252 rfl (by kernel_rfl) rfl (by kernel_rfl) ?_
  refine ⟨Nat, fun i => [(0, .slice A xs.length c), (1, .int .u32 now), (6, .int .i64 i)], fun i h' => h' = h ∧ i ≤ xs.length ∧ ∀ j q, j < i → xs[j]? = some q → q.used = true, fun i => xs.length - i, 0, ⟨rfl, rfl, rfl, trivial⟩, ⟨rfl, Nat.zero_le _, fun j q hj => absurd hj (by omega)⟩, ?_⟩
  rintro i h2 ⟨rfl, hi, hall⟩
  refine xif_of (fun hlt => ?_) (fun hge => ?_)
  · have hlt : i < xs.length := by simpa using hlt
    obtain ⟨p, hp⟩ : ∃ p, xs[i]? = some p := ⟨xs[i], by simp [hlt]⟩
    obtain ⟨a, rfl, hrd⟩ := hr i p hp
    refine ⟨a, rfl, by omega, by omega, .bool p.used, hrd.get 0 rfl, ?_⟩
    refine xif_of (fun hu => ?_) (fun hu => ?_)
    · have hu : p.used = false := by simpa using hu
      have := roomP_free (now := now) xs 0 (-1) 5 0 i p hall hp hu
      refine ⟨?_, Ext.refl _⟩
      rw [roomM, this, Nat.zero_add]; rfl
    · have hu : p.used = true := by simpa using hu
      refine ⟨i + 1, ⟨rfl, rfl, slot_inc (by omega), trivial⟩, ⟨rfl, by omega, ?_⟩, by show xs.length - (i + 1) < xs.length - i; omega⟩
      intro j q hj hq
      by_cases e : j = i
      · subst e; rw [hp] at hq; cases hq; exact hu
      · exact hall j q (by omega) hq
  · have hge' : xs.length ≤ i := by simpa using hge
    have hall' : ∀ (j : Nat) (q : Place), xs[j]? = some q → q.used = true := fun j q hq => hall j q (by have := (List.getElem?_eq_some_iff.1 hq).1; omega) hq
    clear hall hge hge' hi
    refine ⟨Nat × Int × Int × Int, fun s => [(0, .slice A xs.length c), (1, .int .u32 now), (7, .int .i64 s.2.1), (8, .int .i64 s.1)],
      fun s h' => h' = h2 ∧ s.1 ≤ xs.length ∧ roomP now (xs.drop s.1) s.1 s.2.1 s.2.2.1 s.2.2.2 = roomM xs now ∧ ((s.2.1 = -1 ∧ s.2.2.1 = 5) ∨ ∃ (b : Nat) (pb : Place), s.2.1 = b ∧ s.2.2.1 = 4 ∧ xs[b]? = some pb ∧ s.2.2.2 = ageM now pb.stamp), fun s => xs.length - s.1, (0, -1, 5, 0), ⟨rfl, rfl, rfl, rfl, trivial⟩, ⟨rfl, Nat.zero_le _, rfl, .inl ⟨rfl, rfl⟩⟩, ?_⟩
    rintro ⟨i, best, did, g⟩ h3 ⟨rfl, hi, hf, hbest⟩
    simp only at hi hf hbest
    refine xif_of (fun hlt => ?_) (fun hge => ?_)
    · have hlt : i < xs.length := by simpa using hlt
      obtain ⟨p, hp⟩ : ∃ p, xs[i]? = some p := ⟨xs[i], by simp [hlt]⟩
      have hpw : p.Wf := wf p (List.mem_of_getElem? hp)
      rw [roomP_drop hp, if_neg (by simp [hall' i p hp])] at hf
      obtain ⟨a, rfl, hrd⟩ := hr i p hp
      have nxt : ∀ (best' did' g' : Int), roomP now (xs.drop (i + 1)) (i + 1) best' did' g' = roomM xs now → ((best' = -1 ∧ did' = 5) ∨ ∃ (b : Nat) (pb : Place), best' = b ∧ did' = 4 ∧ xs[b]? = some pb ∧ g' = ageM now pb.stamp) → ∃ x' : Nat × Int × Int × Int,
        (some (Value.slice (some a) xs.length c) = some (Value.slice (some a) xs.length c) ∧ some (Value.int .u32 now) = some (Value.int .u32 now) ∧ some (Value.int .i64 best') = some (Value.int .i64 x'.2.1) ∧ some (Value.int .i64 (IntKind.i64.wrap ((i : Int) + 1))) = some (Value.int .i64 x'.1) ∧ True) ∧
        (h3 = h3 ∧ x'.1 ≤ xs.length ∧ roomP now (xs.drop x'.1) x'.1 x'.2.1 x'.2.2.1 x'.2.2.2 = roomM xs now ∧ ((x'.2.1 = -1 ∧ x'.2.2.1 = 5) ∨ ∃ (b : Nat) (pb : Place), x'.2.1 = b ∧ x'.2.2.1 = 4 ∧ xs[b]? = some pb ∧ x'.2.2.2 = ageM now pb.stamp)) ∧ xs.length - x'.1 < xs.length - i :=
        fun best' did' g' e hb => ⟨(i + 1, best', did', g'), ⟨rfl, rfl, rfl, slot_inc (by omega), trivial⟩, ⟨rfl, by omega, e, hb⟩, by show xs.length - (i + 1) < xs.length - i; omega⟩
      have hst0 : cell h3 (((a.add ((i : Int).toNat * 6)).add 1).add 3) = some (.bool p.static) := by simp only [add_add]; exact hrd.cellAt 4 (by omega) rfl
      refine ⟨a, rfl, by omega, by omega, .bool p.static, hst0, ?_⟩
      refine xif_of (fun hs => ?_) (fun hs => ?_)
      · have hs : p.static = false := by simpa using hs
        rw [if_neg (by simp [hs])] at hf
        refine xif_of (fun hb => ?_) (fun hb => ?_)
        · have hb : best < 0 := of_decide_eq_true hb
          rw [if_pos (.inl hb)] at hf
          exact nxt _ _ _ hf (.inr ⟨i, p, rfl, rfl, hp, rfl⟩)
        · have hb : ¬ best < 0 := of_decide_eq_false hb
          obtain ⟨b, pb, hbb, hd4, hpb, hg⟩ : ∃ (b : Nat) (pb : Place), best = b ∧ did = 4 ∧ xs[b]? = some pb ∧ g = ageM now pb.stamp := by
            rcases hbest with ⟨h1, _⟩ | h1
            · omega
            · exact h1
          subst hbb hd4 hg
          have hbl : b < xs.length := (List.getElem?_eq_some_iff.1 hpb).1
          have hpbw : pb.Wf := wf pb (List.mem_of_getElem? hpb)
          obtain ⟨a', ha', hrd'⟩ := hr b pb hpb
          cases ha'
          have hst : cell h3 (((a.add ((i : Int).toNat * 6)).add 1).add 4) = some (.int .u32 p.stamp) := by simp only [add_add]; exact hrd.cellAt 5 (by omega) rfl
          have hst' : cell h3 (((a.add ((b : Int).toNat * 6)).add 1).add 4) = some (.int .u32 pb.stamp) := by simp only [add_add]; exact hrd'.cellAt 5 (by omega) rfl
          refine ⟨a, rfl, by omega, by omega, _, hst, a, rfl, (by show (0 : Int) ≤ b; omega), (by show (b : Int) < xs.length; omega), _, hst', ?_⟩
          refine (rAge_spec a0 a1 hpw.stamp0 hpw.stamp1 _).mono ?_
          rintro v h4 ⟨rfl, rfl⟩
          refine ⟨⟨hst', trivial⟩, ?_⟩
          refine (rAge_spec a0 a1 hpbw.stamp0 hpbw.stamp1 _).mono ?_
          rintro v h5 ⟨rfl, rfl⟩
          refine xif_of (fun hg => ?_) (fun hg => ?_)
          · rw [if_pos (.inr (of_decide_eq_true hg))] at hf
            exact nxt _ _ _ hf (.inr ⟨i, p, rfl, rfl, hp, rfl⟩)
          · have hg : ¬ ageM now p.stamp > ageM now pb.stamp := of_decide_eq_false hg
            rw [if_neg (by omega)] at hf
            exact nxt _ _ _ hf (.inr ⟨b, pb, rfl, rfl, hpb, rfl⟩)
      · have hs : p.static = true := by simpa using hs
        rw [if_pos hs] at hf
        exact nxt _ _ _ hf hbest
    · have : xs.length ≤ i := by simpa using hge
      rw [List.drop_eq_nil_of_le this] at hf
      rw [← hf]
      refine xif_of (fun hc => ?_) (fun hc => ?_)
      · have hc : best < 0 := of_decide_eq_true hc
        rcases hbest with ⟨rfl, rfl⟩ | ⟨b, pb, hb, hd, _, _⟩
        · exact ⟨rfl, Ext.refl _⟩
        · omega
      · have hc : ¬ best < 0 := of_decide_eq_false hc
        rcases hbest with ⟨hb, hd⟩ | ⟨b, pb, hb, hd, _, _⟩
        · omega
        · subst hd
          exact ⟨rfl, Ext.refl _⟩
theorem rPut_spec {A : Option Addr} {xs : List Place} {c base : Nat} {e : Place} {now : Int} {h : Heap} (own : OwnA encP 6 242 base h A c xs) (wf : ∀ p ∈ xs, p.Wf) (a0 : 0 ≤ now) (a1 : now < 4294967296) {n : Nat} (hl : xs.length = n) (hn : n ≤ 1000000) :
    HCalls Tryz.prog 216 #[.slice A n c, .agg (encE e).toArray, .int .u32 now] h (fun v h' => v = .tuple #[.slice A n c, .int .i64 (putM xs e now).2] ∧ OwnA encP 6 242 base h' A c (putM xs e now).1 ∧ KeepA A h h') := by
  subst hl
  refine xcalls env0 Tryz.func216 rfl (by kernel_rfl) rfl (by kernel_rfl) ?_
  intro b4 h1 n1
  have own1 := own.ext n1.ext
  refine (rRoom_spec (own1.row encP_len) wf a0 a1 rfl (by omega)).mono ?_
  rintro v h2 ⟨rfl, x2⟩
  have own2 := own1.ext x2
  have rng := roomM_range xs now
  refine xif_of (fun hge => ?_) (fun hlt => ?_)
  · have hge : (roomM xs now).1 ≥ 0 := of_decide_eq_true hge
    obtain ⟨i, hi⟩ : ∃ i : Nat, (roomM xs now).1 = i := ⟨(roomM xs now).1.toNat, by omega⟩
    have hil : i < xs.length := by omega
    obtain ⟨b, rfl, hg, hcs⟩ := own2.canset encP_len (i := i) (j := 0) (n := 6) hil (by omega)
    refine ⟨encE e, rfl, reads_all (x2.blk n1.this), ?_⟩
    refine ⟨_, rfl, by omega, by omega, rfl, rfl, ?_, fun h3 s3 => ?_⟩
    · rw [add_lit, Nat.zero_add, show (roomM xs now).1.toNat = i by omega]; exact hcs
    rw [add_lit, Nat.zero_add, show (roomM xs now).1.toNat = i by omega] at s3
    have own3 := own2.put encP_len (j := 0) (x' := { e with used := true }) rfl s3 (List.getElem?_eq_getElem hil) (Nat.le_refl 6) rfl
    refine ⟨?_, ?_, ((n1.ext.trans x2).keepA _).trans s3.keepA⟩
    · rw [putM, if_pos hge]; rfl
    · rw [putM, if_pos hge, hi, Int.toNat_natCast]; exact own3
  · have hlt : ¬ (roomM xs now).1 ≥ 0 := of_decide_eq_false hlt
    refine ⟨?_, ?_, (n1.ext.trans x2).keepA _⟩
    · rw [putM, if_neg hlt]; rfl
    · rw [putM, if_neg hlt]; exact own2
theorem clean_wfR {xs : List Place} (h : ∀ p ∈ xs, p.Wf) : ∀ p ∈ xs.map cleanP, p.Wf := by
  intro p hp
  obtain ⟨q, hq, rfl⟩ := List.mem_map.1 hp
  unfold cleanP
  split
  · exact h q hq
  · exact none_wf
theorem rLearn_spec {A : Option Addr} {xs : List Place} {c : Nat} {vid mac port now : Int} {h : Heap} (hr : Row encP 6 h A xs) (pwf : ∀ p ∈ xs, p.Wf) (a0 : 0 ≤ now) (a1 : now < 4294967296) {n : Nat} (hl : xs.length = n) (hn : n ≤ 1000000) (wf : KeyWf vid mac) :
    HCalls Tryz.prog 175 #[.slice A n c, .agg #[.int .i64 vid, .int .u64 mac], .int .i64 port, .int .u32 now] h (fun v h' => ∃ A' c', v = .tuple #[.slice A' n c', .int .i64 (learnM xs vid mac port now).2] ∧ OwnA encP 6 242 h.size h' A' c' (learnM xs vid mac port now).1 ∧ Ext h h') := by
  subst hl
  refine xcalls env0 Tryz.func175 rfl (by kernel_rfl) rfl (by kernel_rfl) ?_
  intro b5 h1 n1
  refine (rCopy_spec (n1.ext.row hr) rfl hn).mono ?_
  rintro v h2 ⟨B, d, rfl, own2', x2⟩
  have own2 := own2'.mono n1.ext.size
  have cwf := clean_wfR pwf
  have hlen : (xs.map cleanP).length = xs.length := by simp
  have e12 := n1.ext.trans x2
  have rk : ∀ {h' : Heap}, Ext h2 h' → Reads h' ⟨b5, 0, none⟩ [.int .i64 vid, .int .u64 mac] := fun x => reads_all ((x2.trans x).blk n1.this)
  have bad : ∀ (h3 : Heap), Ext h2 h3 → mayM vid mac port = false → ∃ A' c', Value.tuple #[.slice B xs.length d, .int .i64 5] = .tuple #[.slice A' xs.length c', .int .i64 (learnM xs vid mac port now).2] ∧ OwnA encP 6 242 h.size h3 A' c' (learnM xs vid mac port now).1 ∧ Ext h h3 := fun h3 x3 hm =>
    ⟨B, d, by rw [learnM_no hm], by rw [learnM_no hm]; exact own2.ext x3, e12.trans x3⟩
  refine xif_of (fun q1 => ?_) (fun q1 => ?_)
  · have q1 : port < 0 := of_decide_eq_true q1
    exact bad h2 (Ext.refl _) (by simp [mayM, show ¬ 0 ≤ port by omega])
  have q1 : ¬ port < 0 := of_decide_eq_false q1
  refine xif_of (fun q2 => ?_) (fun q2 => ?_)
  · have q2 : port > 63 := of_decide_eq_true q2
    exact bad h2 (Ext.refl _) (by simp [mayM, show ¬ port < 64 by omega])
  have q2 : ¬ port > 63 := of_decide_eq_false q2
  refine ⟨_, rfl, rk (Ext.refl _), ?_⟩
  refine (rRight_spec wf _).mono ?_
  rintro v h3 ⟨rfl, x3⟩
  refine xif_of (fun q3 => ?_) (fun q3 => ?_)
  · exact bad h3 x3 (by have q3 : keyOk vid mac = false := by simpa using q3
                        simp [mayM, q3])
  have hm : mayM vid mac port = true := by
    have q3 : keyOk vid mac = true := by simpa using q3
    simp [mayM, q3, show 0 ≤ port by omega, show port < 64 by omega]
  have own3 := own2.ext x3
  refine ⟨_, rfl, rk x3, ?_⟩
  refine (rFind_spec (own3.row encP_len) hlen (by omega)).mono ?_
  rintro v h4 ⟨rfl, x4⟩
  have own4 := own3.ext x4
  have x34 := x3.trans x4
  rcases findN_range (vid := vid) (mac := mac) (xs.map cleanP) 0 with hf | ⟨hf0, hf1⟩
  · refine xif_of (fun _ => ?_) (fun hc => absurd (of_decide_eq_false hc) (by omega))
    refine ⟨_, rfl, rk x34, ?_⟩
    refine (rPut_spec (e := ⟨true, vid, mac, port, false, now⟩) own4 cwf a0 a1 hlen (by omega)).mono ?_
    rintro v h5 ⟨rfl, own5, k5⟩
    exact ⟨B, d, by rw [learnM_new hm hf]; rfl, by rw [learnM_new hm hf]; exact own5, k5.ext (e12.trans x34) own4.ge⟩
  · refine xif_of (fun hc => absurd (of_decide_eq_true hc) (by omega)) (fun _ => ?_)
    obtain ⟨i, hi⟩ : ∃ i : Nat, findN vid mac (xs.map cleanP) 0 = i := ⟨(findN vid mac (xs.map cleanP) 0).toNat, by omega⟩
    have hil : i < (xs.map cleanP).length := by omega
    obtain ⟨w, hw⟩ : ∃ w, (xs.map cleanP)[i]? = some w := ⟨_, List.getElem?_eq_getElem hil⟩
    have lm := learnM_hit (now := now) hm hi hw
    rw [hi]
    obtain ⟨b, hB, hg, hcs⟩ := own4.canset encP_len (i := i) (j := 3) (n := 1) hil (by omega)
    subst hB
    have hrd : Reads h4 (⟨b, 0 + i * 6, none⟩) (encP w) := by
      obtain ⟨a, ha, hrd⟩ := own4.row encP_len i w hw
      cases ha
      rw [add_lit] at hrd; exact hrd
    have g : ∀ {h' : Heap} {y : Place} (j : Nat) {v : Value}, Reads h' (⟨b, 0 + i * 6, none⟩) (encP y) → nth (encP y) j = some v → cell h' ⟨b, 0 + i * 6 + j, none⟩ = some v := fun j v hr hj => by
      have := hr.get j (by rw [nth_eq] at hj; exact hj)
      rw [add_lit] at this; exact this
    refine ⟨_, rfl, by omega, by omega, ?_⟩
    simp only [Int.toNat_natCast, add_lit]
    refine ⟨.bool w.static, g 4 hrd rfl, ?_⟩
    refine xif_of (fun hs => ?_) (fun hs => ?_)
    · rw [if_pos hs] at lm
      exact ⟨_, d, by rw [lm]; rfl, by rw [lm]; exact own4, e12.trans x34⟩
    have hs : w.static = false := hs
    rw [if_neg (by simp [hs])] at lm
    refine ⟨.int .i64 w.port, g 3 hrd rfl, ?_⟩
    have fin : ∀ (h5 : Heap), OwnA encP 6 242 h.size h5 (some ⟨b, 0, none⟩) d (learnM xs vid mac port now).1 → Ext h h5 → ∀ r, (learnM xs vid mac port now).2 = r → ∃ A' c', Value.tuple #[.slice (some ⟨b, 0, none⟩) xs.length d, .int .i64 r] = .tuple #[.slice A' xs.length c', .int .i64 (learnM xs vid mac port now).2] ∧ OwnA encP 6 242 h.size h5 A' c' (learnM xs vid mac port now).1 ∧ Ext h h5 :=
      fun h5 o x r hr => ⟨_, d, by rw [hr], o, x⟩
    have e5 : ((⟨b, 0 + i * 6, none⟩ : Addr).add 1).add 4 = ⟨b, i * 6 + 5, none⟩ := by rw [add_lit, add_lit, Nat.zero_add]
    have e3 : ((⟨b, 0 + i * 6, none⟩ : Addr).add 1).add 2 = ⟨b, i * 6 + 3, none⟩ := by rw [add_lit, add_lit, Nat.zero_add]
    obtain ⟨b', hB', _, hcs5⟩ := own4.canset encP_len (i := i) (j := 5) (n := 1) hil (by omega)
    cases hB'
    refine xif_of (fun q5 => ?_) (fun q5 => ?_)
    · have q5 : w.port = port := by simpa using q5
      refine ⟨.int .u32 w.stamp, g 5 hrd rfl, ?_⟩
      refine xif_of (fun q6 => ?_) (fun q6 => ?_)
      · have q6 : w.stamp = now := by simpa using q6
        refine fin h4 ?_ (e12.trans x34) 0 ?_
        · rw [lm]; 
          have : ({ w with port := port, stamp := now } : Place) = w := by subst q5 q6; rfl
          rw [this, set_same hw]; exact own4
        · rw [lm]; simp [q5, q6]
      · have q6 : ¬ w.stamp = now := by simpa using q6
        refine ⟨rfl, rfl, e5 ▸ hcs5, fun h5 s5 => ?_⟩
        replace s5 : Stored h4 ⟨b, i * 6 + 5, none⟩ [.int .u32 now] h5 := e5 ▸ s5
        have own5 : OwnA encP 6 242 h.size h5 (some ⟨b, 0, none⟩) d ((xs.map cleanP).set i { w with stamp := now }) := own4.put encP_len (j := 5) rfl s5 hw (Nat.le_refl 6) rfl
        have x5 : Ext h h5 := s5.keepA.ext (e12.trans x34) own4.ge
        have hil5 : i < ((xs.map cleanP).set i { w with stamp := now }).length := by rw [List.length_set]; exact hil
        have hw5 : ((xs.map cleanP).set i { w with stamp := now })[i]? = some { w with stamp := now } := by rw [List.getElem?_set_self hil]
        have hrd5 : Reads h5 (⟨b, 0 + i * 6, none⟩) (encP { w with stamp := now }) := by
          obtain ⟨a, ha, hrd⟩ := own5.row encP_len i _ hw5
          cases ha
          rw [add_lit] at hrd; exact hrd
        refine ⟨.int .i64 w.port, g 3 hrd5 rfl, ?_⟩
        refine xif_of (fun q7 => ?_) (fun q7 => ?_)
        · refine fin h5 ?_ x5 1 ?_
          · rw [lm]; subst q5; exact own5
          · rw [lm]; simp [q5, q6]
        · exact absurd q5 (by simpa using q7)
    · have q5 : ¬ w.port = port := by simpa using q5
      refine ⟨rfl, rfl, e5 ▸ hcs5, fun h5 s5 => ?_⟩
      replace s5 : Stored h4 ⟨b, i * 6 + 5, none⟩ [.int .u32 now] h5 := e5 ▸ s5
      have own5 : OwnA encP 6 242 h.size h5 (some ⟨b, 0, none⟩) d ((xs.map cleanP).set i { w with stamp := now }) := own4.put encP_len (j := 5) rfl s5 hw (Nat.le_refl 6) rfl
      have x5 : Ext h h5 := s5.keepA.ext (e12.trans x34) own4.ge
      have hil5 : i < ((xs.map cleanP).set i { w with stamp := now }).length := by rw [List.length_set]; exact hil
      have hw5 : ((xs.map cleanP).set i { w with stamp := now })[i]? = some { w with stamp := now } := by rw [List.getElem?_set_self hil]
      have hrd5 : Reads h5 (⟨b, 0 + i * 6, none⟩) (encP { w with stamp := now }) := by
        obtain ⟨a, ha, hrd⟩ := own5.row encP_len i _ hw5
        cases ha
        rw [add_lit] at hrd; exact hrd
      refine ⟨.int .i64 w.port, g 3 hrd5 rfl, ?_⟩
      refine xif_of (fun q7 => ?_) (fun q7 => ?_)
      · exact absurd (by simpa using q7) q5
      obtain ⟨b', hB', _, hcs3⟩ := own5.canset encP_len (i := i) (j := 3) (n := 1) hil5 (by omega)
      cases hB'
      refine ⟨rfl, rfl, e3 ▸ hcs3, fun h6 s6 => ?_⟩
      replace s6 : Stored h5 ⟨b, i * 6 + 3, none⟩ [.int .i64 port] h6 := e3 ▸ s6
      have own6 : OwnA encP 6 242 h.size h6 (some ⟨b, 0, none⟩) d (((xs.map cleanP).set i { w with stamp := now }).set i { w with port := port, stamp := now }) := own5.put encP_len (j := 3) rfl s6 hw5 (by show 3 + 1 ≤ 6; omega) rfl
      rw [List.set_set] at own6
      refine fin h6 ?_ (s6.keepA.ext x5 own5.ge) 2 ?_
      · rw [lm]; exact own6
      · rw [lm]; simp [q5]
theorem eqEntR (a b : Place) : eqv Tryz.prog 60 240 (.agg (encE a).toArray) (.agg (encE b).toArray) = some (((a.vid == b.vid) && ((a.mac == b.mac) && true)) && ((a.port == b.port) && ((a.static == b.static) && ((a.stamp == b.stamp) && true)))) := by kernel_rfl
theorem eqEntRG (a : Place) : guardBad Tryz.prog 240 (.agg (encE a).toArray) = false := by kernel_rfl
theorem rOrder_spec {A : Option Addr} {xs : List Place} {c : Nat} {vid mac port now : Int} {h : Heap} (hr : Row encP 6 h A xs) (pwf : ∀ p ∈ xs, p.Wf) (a0 : 0 ≤ now) (a1 : now < 4294967296) {n : Nat} (hl : xs.length = n) (hn : n ≤ 1000000) (wf : KeyWf vid mac) :
    HCalls Tryz.prog 177 #[.slice A n c, .agg #[.int .i64 vid, .int .u64 mac], .int .i64 port, .int .u32 now] h (fun v h' => ∃ A' c', v = .tuple #[.slice A' n c', .int .i64 (orderM xs vid mac port now).2] ∧ OwnA encP 6 242 h.size h' A' c' (orderM xs vid mac port now).1 ∧ Ext h h') := by
  subst hl
  refine xcalls env_rOrder Tryz.func177 rfl (by kernel_rfl) rfl (by kernel_rfl) ?_
  intro b5 h1 n1
  refine (rCopy_spec (n1.ext.row hr) rfl hn).mono ?_
  rintro v h2 ⟨B, d, rfl, own2', x2⟩
  have own2 := own2'.mono n1.ext.size
  have cwf := clean_wfR pwf
  have hlen : (xs.map cleanP).length = xs.length := by simp
  have e12 := n1.ext.trans x2
  have rk : ∀ {h' : Heap}, Ext h2 h' → Reads h' ⟨b5, 0, none⟩ [.int .i64 vid, .int .u64 mac] := fun x => reads_all ((x2.trans x).blk n1.this)
  have bad : ∀ (h3 : Heap), Ext h2 h3 → mayM vid mac port = false → ∃ A' c', Value.tuple #[.slice B xs.length d, .int .i64 5] = .tuple #[.slice A' xs.length c', .int .i64 (orderM xs vid mac port now).2] ∧ OwnA encP 6 242 h.size h3 A' c' (orderM xs vid mac port now).1 ∧ Ext h h3 := fun h3 x3 hm =>
    ⟨B, d, by rw [orderM_no hm], by rw [orderM_no hm]; exact own2.ext x3, e12.trans x3⟩
  refine xif_of (fun q1 => ?_) (fun q1 => ?_)
  · have q1 : port < 0 := of_decide_eq_true q1
    exact bad h2 (Ext.refl _) (by simp [mayM, show ¬ 0 ≤ port by omega])
  have q1 : ¬ port < 0 := of_decide_eq_false q1
  refine xif_of (fun q2 => ?_) (fun q2 => ?_)
  · have q2 : port > 63 := of_decide_eq_true q2
    exact bad h2 (Ext.refl _) (by simp [mayM, show ¬ port < 64 by omega])
  have q2 : ¬ port > 63 := of_decide_eq_false q2
  refine ⟨_, rfl, rk (Ext.refl _), ?_⟩
  refine (rRight_spec wf _).mono ?_
  rintro v h3 ⟨rfl, x3⟩
  refine xif_of (fun q3 => ?_) (fun q3 => ?_)
  · exact bad h3 x3 (by have q3 : keyOk vid mac = false := by simpa using q3
                        simp [mayM, q3])
  have hm : mayM vid mac port = true := by
    have q3 : keyOk vid mac = true := by simpa using q3
    simp [mayM, q3, show 0 ≤ port by omega, show port < 64 by omega]
  have own3 := own2.ext x3
  refine ⟨_, rfl, rk x3, ?_⟩
  intro be he0 ne
  refine ⟨rfl, rfl, canset_blk ne.this rfl, fun he1 se => ?_⟩
  have hbe : he1[be]? = some (.cells (encE ⟨true, vid, mac, port, true, 0⟩).toArray 240 (0, 0)) := se.put (ws := [_, _, _, _, _]) ne.this
  have xe : Ext h3 he1 := ne.ext.stored se (by rw [ne.at_]; exact Nat.le_refl _)
  have owne := own3.ext xe
  refine ⟨_, rfl, rk (x3.trans xe), ?_⟩
  refine (rFind_spec (owne.row encP_len) hlen (by omega)).mono ?_
  rintro v h4 ⟨rfl, x4⟩
  have own4 := owne.ext x4
  have x34 := (x3.trans xe).trans x4
  have hbe4 := x4.blk hbe
  rcases findN_range (vid := vid) (mac := mac) (xs.map cleanP) 0 with hf | ⟨hf0, hf1⟩
  · refine xif_of (fun _ => ?_) (fun hc => absurd (of_decide_eq_false hc) (by omega))
    refine ⟨encE ⟨true, vid, mac, port, true, 0⟩, rfl, reads_all hbe4, ?_⟩
    refine (rPut_spec (e := ⟨true, vid, mac, port, true, 0⟩) own4 cwf a0 a1 hlen (by omega)).mono ?_
    rintro v h5 ⟨rfl, own5, k5⟩
    exact ⟨B, d, by rw [orderM_new hm hf]; rfl, by rw [orderM_new hm hf]; exact own5, k5.ext (e12.trans x34) own4.ge⟩
  · refine xif_of (fun hc => absurd (of_decide_eq_true hc) (by omega)) (fun _ => ?_)
    obtain ⟨i, hi⟩ : ∃ i : Nat, findN vid mac (xs.map cleanP) 0 = i := ⟨(findN vid mac (xs.map cleanP) 0).toNat, by omega⟩
    have hil : i < (xs.map cleanP).length := by omega
    obtain ⟨w, hw⟩ : ∃ w, (xs.map cleanP)[i]? = some w := ⟨_, List.getElem?_eq_getElem hil⟩
    have lm := orderM_hit (port := port) (now := now) hm hi hw
    obtain ⟨w', hw', hk⟩ := findN_hit _ _ _ hi
    rw [Nat.sub_zero, hw] at hw'
    cases hw'
    rw [hi]
    obtain ⟨b, hB, hg, hcs⟩ := own4.canset encP_len (i := i) (j := 1) (n := 5) hil (by omega)
    subst hB
    obtain ⟨a, ha, hrd⟩ := own4.row encP_len i w hw
    cases ha
    refine ⟨_, rfl, by omega, by omega, encE w, rfl, ?_, ?_⟩
    · rw [Int.toNat_natCast]; exact hrd.sub 1 rfl
    refine ⟨encE ⟨true, vid, mac, port, true, 0⟩, rfl, reads_all hbe4, ?_⟩
    refine xeq_of (eqEntRG w) (eqEntR w ⟨true, vid, mac, port, true, 0⟩) ?_
    have heq : (((w.vid == vid) && ((w.mac == mac) && true)) && ((w.port == port) && ((w.static == true) && ((w.stamp == 0) && true)))) = decide (w = ⟨true, vid, mac, port, true, 0⟩) := by
      obtain ⟨u, a, b, c, d, e⟩ := w
      simp only [hasKey, Bool.and_eq_true] at hk
      obtain rfl : u = true := hk.1
      rw [Bool.eq_iff_iff]
      simp [and_assoc]
    refine xif_of (fun hs => ?_) (fun hs => ?_)
    · have hs : decide (w = (⟨true, vid, mac, port, true, 0⟩ : Place)) = true := heq ▸ hs
      rw [if_pos (of_decide_eq_true hs)] at lm
      exact ⟨_, d, by rw [lm]; rfl, by rw [lm]; exact own4, e12.trans x34⟩
    have hs : decide (w = (⟨true, vid, mac, port, true, 0⟩ : Place)) = false := heq ▸ hs
    rw [if_neg (of_decide_eq_false hs)] at lm
    refine ⟨encE ⟨true, vid, mac, port, true, 0⟩, rfl, reads_all hbe4, ?_⟩
    refine ⟨_, rfl, by omega, by omega, rfl, rfl, ?_, fun h7 s7 => ?_⟩
    · simp only [add_lit, Nat.zero_add, Int.toNat_natCast]; exact hcs
    simp only [add_lit, Nat.zero_add, Int.toNat_natCast] at s7
    have hu : w.used = true := by simp only [hasKey, Bool.and_eq_true] at hk; exact hk.1
    have own7 := own4.put encP_len (j := 1) (x' := ⟨true, vid, mac, port, true, 0⟩) rfl s7 hw (Nat.le_of_ble_eq_true rfl) (by rw [encP, encP, hu]; rfl)
    exact ⟨_, d, by rw [lm]; rfl, by rw [lm]; exact own7, (e12.trans x34).stored s7 hg⟩
theorem rDrop_spec {A : Option Addr} {xs : List Place} {c : Nat} {vid mac : Int} {h : Heap} (hr : Row encP 6 h A xs) {n : Nat} (hl : xs.length = n) (hn : n ≤ 1000000) :
    HCalls Tryz.prog 178 #[.slice A n c, .agg #[.int .i64 vid, .int .u64 mac]] h (fun v h' => ∃ A' c', v = .tuple #[.slice A' n c', .bool (dropM xs vid mac).2] ∧ OwnA encP 6 242 h.size h' A' c' (dropM xs vid mac).1 ∧ Ext h h') := by
  subst hl
  refine xcalls env0 Tryz.func178 rfl (by kernel_rfl) rfl (by kernel_rfl) ?_
  intro b5 h1 n1
  refine (rCopy_spec (n1.ext.row hr) rfl hn).mono ?_
  rintro v h2 ⟨B, d, rfl, own2', x2⟩
  have own2 := own2'.mono n1.ext.size
  have hlen : (xs.map cleanP).length = xs.length := by simp
  have e12 := n1.ext.trans x2
  refine ⟨_, rfl, reads_all (x2.blk n1.this), ?_⟩
  refine (rFind_spec (own2.row encP_len) hlen (by omega)).mono ?_
  rintro v h4 ⟨rfl, x4⟩
  have own4 := own2.ext x4
  rcases findN_range (vid := vid) (mac := mac) (xs.map cleanP) 0 with hf | ⟨hf0, hf1⟩
  · refine xif_of (fun _ => ?_) (fun hc => absurd (of_decide_eq_false hc) (by omega))
    exact ⟨B, d, by rw [dropM_no hf]; rfl, by rw [dropM_no hf]; exact own4, e12.trans x4⟩
  · refine xif_of (fun hc => absurd (of_decide_eq_true hc) (by omega)) (fun _ => ?_)
    obtain ⟨i, hi⟩ : ∃ i : Nat, findN vid mac (xs.map cleanP) 0 = i := ⟨(findN vid mac (xs.map cleanP) 0).toNat, by omega⟩
    have hil : i < (xs.map cleanP).length := by omega
    obtain ⟨w, hw⟩ : ∃ w, (xs.map cleanP)[i]? = some w := ⟨_, List.getElem?_eq_getElem hil⟩
    have lm := dropM_hit hi hw
    rw [hi]
    obtain ⟨b, hB, hg, hcs⟩ := own4.canset encP_len (i := i) (j := 0) (n := 6) hil (by omega)
    subst hB
    obtain ⟨a, ha, hrd⟩ := own4.row encP_len i w hw
    cases ha
    refine ⟨_, rfl, by omega, by omega, .bool w.static, ?_, ?_⟩
    · have := hrd.get 4 (v := .bool w.static) rfl
      simp only [add_lit, Nat.zero_add, Int.toNat_natCast] at this ⊢
      exact this
    refine xif_of (fun hs => ?_) (fun hs => ?_)
    · rw [if_pos (by simpa using hs)] at lm
      exact ⟨_, d, by rw [lm]; rfl, by rw [lm]; exact own4, e12.trans x4⟩
    rw [if_neg (by simpa using hs)] at lm
    refine ⟨_, rfl, by omega, by omega, rfl, rfl, ?_, fun h7 s7 => ?_⟩
    · simp only [add_lit, Nat.zero_add, Int.toNat_natCast]; exact hcs
    simp only [add_lit, Nat.zero_add, Int.toNat_natCast] at s7
    have own7 := own4.put encP_len (j := 0) (x' := Place.none) rfl s7 hw (Nat.le_of_ble_eq_true rfl) rfl
    exact ⟨_, d, by rw [lm]; rfl, by rw [lm]; exact own7, (e12.trans x4).stored s7 hg⟩
theorem rHit_spec (port vid : Int) (p : Place) (h : Heap) : HCalls Tryz.prog 218 #[.agg (encE p).toArray, .agg #[.int .i64 port, .int .i64 vid]] h (fun v h' => v = .bool (hitM port vid p) ∧ Ext h h') := by
  refine xcalls env0 Tryz.func218 rfl (by kernel_rfl) rfl (by kernel_rfl) ?_
  intro b1 h1 n1 b2 h2 n2
  have hb2 : h2[b1]? = some (.cells (encE p).toArray 240 (0, 0)) := n2.ext.blk n1.this
  have hb1 := n2.this
  have x := n1.ext.trans n2.ext
  refine ⟨_, cell_blk hb2 rfl, ?_⟩
  refine xif_of (fun q1 => ?_) (fun q1 => ?_)
  · refine ⟨_, cell_blk hb1 rfl, ?_⟩
    refine xif_of (fun q2 => ?_) (fun q2 => ?_)
    · refine ⟨_, cell_blk hb1 rfl, ?_⟩
      refine xif_of (fun q3 => ?_) (fun q3 => ?_)
      · exact ⟨congrArg Value.bool (by simp [hitM, q1, q2, q3]), x⟩
      · refine ⟨_, cell_blk hb1 rfl, _, cell_blk hb2 rfl, congrArg Value.bool ?_, x⟩
        simp [hitM, q1, q2, q3]
    · refine ⟨_, cell_blk hb1 rfl, _, cell_blk hb2 rfl, ?_⟩
      refine xif_of (fun q4 => ?_) (fun q4 => ?_)
      · refine ⟨_, cell_blk hb1 rfl, ?_⟩
        refine xif_of (fun q3 => ?_) (fun q3 => ?_)
        · exact ⟨congrArg Value.bool (by simp [hitM, q1, q2, q3, q4]), x⟩
        · refine ⟨_, cell_blk hb1 rfl, _, cell_blk hb2 rfl, congrArg Value.bool ?_, x⟩
          simp [hitM, q1, q2, q3, q4]
      · exact ⟨congrArg Value.bool (by simp [hitM, q1, q2, q4]), x⟩
  · exact ⟨congrArg Value.bool (by simp [hitM, q1]), x⟩
theorem Place.decEq' (p q : Place) : ((p.used == q.used) && ((((p.vid == q.vid) && ((p.mac == q.mac) && true)) && ((p.port == q.port) && ((p.static == q.static) && ((p.stamp == q.stamp) && true)))) && true)) = decide (p = q) := by
  obtain ⟨a, b, c, d, e, f⟩ := p
  obtain ⟨a', b', c', d', e', f'⟩ := q
  rw [Bool.eq_iff_iff]
  simp [and_assoc]
theorem eqPlaceR (p q : Place) : eqv Tryz.prog 60 242 (.agg (encP p).toArray) (.agg (encP q).toArray) = some ((p.used == q.used) && ((((p.vid == q.vid) && ((p.mac == q.mac) && true)) && ((p.port == q.port) && ((p.static == q.static) && ((p.stamp == q.stamp) && true)))) && true)) := by kernel_rfl
theorem eqPlaceRG (p : Place) : guardBad Tryz.prog 242 (.agg (encP p).toArray) = false := by kernel_rfl
theorem rSame_spec {A B : Option Addr} {xs ys : List Place} {c d : Nat} {h : Heap} (hr : Row encP 6 h A xs) (hs : Row encP 6 h B ys) {n m : Nat} (hl : xs.length = n) (hm : ys.length = m) (hn : n ≤ 1000000) :
    HCalls Tryz.prog 61 #[.slice A n c, .slice B m d] h (fun v h' => v = .bool (decide (xs = ys)) ∧ h' = h) := by
  subst hl hm
  refine xcalls env_rSame Tryz.func61 rfl (by kernel_rfl) rfl (by kernel_rfl) ?_
  refine xif_of (fun q => ?_) (fun q => ?_)
  · refine ⟨congrArg Value.bool ?_, rfl⟩
    have q : ¬ (xs.length : Int) = ys.length := by simpa using q
    exact (decide_eq_false fun e => q (by rw [e])).symm
  have hlen : (xs.length : Int) = ys.length := by simpa using q
  replace hlen : xs.length = ys.length := by omega
  refine ⟨Nat, fun i => [(0, .slice A xs.length c), (1, .slice B ys.length d), (5, .int .i64 i)], fun i h' => h' = h ∧ i ≤ xs.length ∧ (∀ j, j < i → xs[j]? = ys[j]?), fun i => xs.length - i, 0, ⟨rfl, rfl, rfl, trivial⟩, ⟨rfl, Nat.zero_le _, fun j hj => absurd hj (by omega)⟩, ?_⟩
  rintro i h2 ⟨rfl, hi, hall⟩
  refine xif_of (fun hlt => ?_) (fun hge => ?_)
  · have hlt : i < xs.length := by simpa using hlt
    obtain ⟨p, hp⟩ : ∃ p, xs[i]? = some p := ⟨xs[i], by simp [hlt]⟩
    obtain ⟨q, hq⟩ : ∃ q, ys[i]? = some q := ⟨ys[i], by simp [← hlen, hlt]⟩
    obtain ⟨a, rfl, hrd⟩ := hr i p hp
    obtain ⟨b, rfl, hsd⟩ := hs i q hq
    refine ⟨a, rfl, by omega, by omega, encP p, rfl, hrd, b, rfl, by omega, by omega, encP q, rfl, hsd, ?_⟩
    refine xeq_of (eqPlaceRG p) (eqPlaceR p q) ?_
    rw [Place.decEq']
    refine xif_of (fun hd => ?_) (fun hd => ?_)
    · refine ⟨congrArg Value.bool ?_, rfl⟩
      have hd : ¬ p = q := by simpa using hd
      exact (decide_eq_false fun e => hd (by subst e; rw [hp] at hq; exact Option.some.inj hq)).symm
    · have hd : p = q := by simpa using hd
      refine ⟨i + 1, ⟨rfl, rfl, slot_inc (by omega), trivial⟩, ⟨rfl, by omega, fun j hj => ?_⟩, by show xs.length - (i + 1) < xs.length - i; omega⟩
      by_cases e : j = i
      · subst e; rw [hp, hq, hd]
      · exact hall j (by omega)
  · refine ⟨congrArg Value.bool ?_, rfl⟩
    have hge : xs.length ≤ i := by simpa using hge
    refine (decide_eq_true ?_).symm
    refine List.ext_getElem? fun j => ?_
    by_cases hj : j < i
    · exact hall j hj
    · rw [List.getElem?_eq_none (by omega), List.getElem?_eq_none (by omega)]
theorem wo_step {cl : List Place} (f : Place → Place) (q : Place → Bool) {i : Nat} {p : Place} (hp : cl[i]? = some p) :
    ((cl.take i).map f ++ cl.drop i)[i]? = some p ∧ cl.drop i = p :: cl.drop (i + 1) ∧ ((cl.take i).map f ++ cl.drop i).set i (f p) = (cl.take (i + 1)).map f ++ cl.drop (i + 1) ∧
      (cl.take (i + 1)).countP q = (cl.take i).countP q + (if q p = true then 1 else 0) ∧ (cl.take i).countP q ≤ i := by
  obtain ⟨hlt, hpi⟩ := List.getElem?_eq_some_iff.1 hp
  have hdrop : cl.drop i = p :: cl.drop (i + 1) := by rw [List.drop_eq_getElem_cons hlt, hpi]
  refine ⟨?_, hdrop, ?_, ?_, Nat.le_trans List.countP_le_length (List.length_take_le _ _)⟩
  · rw [List.getElem?_append_right (by simp; omega)]
    simp [Nat.min_eq_left (Nat.le_of_lt hlt), hp]
  · rw [List.set_append_right _ _ (by simp; omega), List.take_succ_eq_append_getElem hlt, hpi, hdrop]
    simp [Nat.min_eq_left (Nat.le_of_lt hlt)]
  · rw [List.take_succ_eq_append_getElem hlt, hpi, List.countP_append]
    simp [List.countP_cons]
theorem rBAge_spec {A : Option Addr} {xs : List Place} {c : Nat} {now limit : Int} {h : Heap} (hr : Row encP 6 h A xs) {n : Nat} (hl : xs.length = n) (hn : n ≤ 1000000) (pwf : ∀ p ∈ xs, p.Wf) (a0 : 0 ≤ now) (a1 : now < 4294967296) :
    HCalls Tryz.prog 179 #[.slice A n c, .int .u32 now, .int .u32 limit] h (fun v h' => ∃ A' c', v = .tuple #[.slice A' n c', .int .i64 (withoutM (oldM now limit) xs).2] ∧ OwnA encP 6 242 h.size h' A' c' (withoutM (oldM now limit) xs).1 ∧ Ext h h') := by
  subst hl
  refine xcalls env0 Tryz.func179 rfl (by kernel_rfl) rfl (by kernel_rfl) ?_
  refine (rCopy_spec hr rfl hn).mono ?_
  rintro v h1 ⟨B, d, rfl, own1, x1⟩
  obtain ⟨cl, hcl⟩ : ∃ cl, xs.map cleanP = cl := ⟨_, rfl⟩
  have hlen : cl.length = xs.length := by rw [← hcl]; simp
  have hw : withoutM (oldM now limit) xs = (cl.map fun p => if (p.used && oldM now limit p) = true then Place.none else p, ((cl.countP fun p => p.used && oldM now limit p : Nat) : Int)) := by rw [withoutM, hcl]
  rw [hcl] at own1
  rw [hw]
  obtain ⟨f, hf⟩ : ∃ f : Place → Place, (fun p => if (p.used && oldM now limit p) = true then Place.none else p) = f := ⟨_, rfl⟩
  obtain ⟨q, hq⟩ : ∃ q : Place → Bool, (fun p => p.used && oldM now limit p) = q := ⟨_, rfl⟩
  rw [hf, hq]
  have hfq : ∀ p, f p = if q p = true then Place.none else p := fun p => by rw [← hf, ← hq]
  refine ⟨Nat, fun i => [(0, .slice B xs.length d), (1, .int .u32 now), (2, .int .u32 limit), (8, .int .i64 ((cl.take i).countP q : Nat)), (9, .int .i64 i)],
    fun i h' => i ≤ xs.length ∧ OwnA encP 6 242 h.size h' B d ((cl.take i).map f ++ cl.drop i) ∧ Ext h h', fun i => xs.length - i, 0, ⟨rfl, rfl, rfl, rfl, rfl, trivial⟩, ⟨Nat.zero_le _, own1, x1⟩, ?_⟩
  rintro i h2 ⟨hi, own2, x2⟩
  refine xif_of (fun hlt => ?_) (fun hge => ?_)
  · have hlt : i < cl.length := by rw [hlen]; simpa using hlt
    obtain ⟨p, hp⟩ : ∃ p, cl[i]? = some p := ⟨cl[i], by simp [hlt]⟩
    obtain ⟨hat, hdrop, hnext, hcnt, hcle⟩ := wo_step f q hp
    have hilen : i < ((cl.take i).map f ++ cl.drop i).length := (List.getElem?_eq_some_iff.1 hat).1
    obtain ⟨b, hB, hbg, hcs⟩ := own2.canset encP_len (i := i) (j := 0) (n := 6) hilen (by omega)
    subst hB
    obtain ⟨a, ha, hrd⟩ := own2.row encP_len i p hat
    cases ha
    have keep : q p = false → OwnA encP 6 242 h.size h2 (some ⟨b, 0, none⟩) d ((cl.take (i + 1)).map f ++ cl.drop (i + 1)) ∧ (cl.take (i + 1)).countP q = (cl.take i).countP q := fun hqp => by
      have hfp : f p = p := by rw [hfq, hqp]; rfl
      rw [hfp, set_same hat] at hnext
      rw [hnext] at own2
      exact ⟨own2, by rw [hcnt, hqp]; rfl⟩
    have gone : ∀ (h5 h7 : Heap), Ext h2 h5 → q p = true → Stored h5 ⟨b, i * 6 + 0, none⟩ (encP Place.none) h7 → OwnA encP 6 242 h.size h7 (some ⟨b, 0, none⟩) d ((cl.take (i + 1)).map f ++ cl.drop (i + 1)) ∧ Ext h h7 ∧ (cl.take (i + 1)).countP q = (cl.take i).countP q + 1 := fun h5 h7 x5 hqp s => by
      have hfp : f p = Place.none := by rw [hfq, hqp]; rfl
      have own7 := (own2.ext x5).put encP_len (j := 0) (x' := f p) rfl s hat (Nat.le_of_ble_eq_true rfl) (by rw [hfp]; rfl)
      rw [hnext] at own7
      exact ⟨own7, s.keepA.ext (x2.trans x5) own2.ge, by rw [hcnt, hqp]; rfl⟩
    have hpw : p.Wf := clean_wfR pwf p (by rw [hcl]; exact List.mem_of_getElem? hp)
    have hus : ∀ {h' : Heap}, Reads h' (⟨b, 0 + i * 6, none⟩ : Addr) (encP p) → cell h' (((⟨b, 0, none⟩ : Addr).add ((i : Int).toNat * 6)).add 0) = some (.bool p.used) := fun hr => by simpa only [add_lit, Int.toNat_natCast] using hr.get 0 (v := .bool p.used) rfl
    have hst : ∀ {h' : Heap}, Reads h' (⟨b, 0 + i * 6, none⟩ : Addr) (encP p) → cell h' ((((⟨b, 0, none⟩ : Addr).add ((i : Int).toNat * 6)).add 1).add 3) = some (.bool p.static) := fun hr => by simpa only [add_lit, Int.toNat_natCast] using hr.get 4 (v := .bool p.static) rfl
    have hsm : ∀ {h' : Heap}, Reads h' (⟨b, 0 + i * 6, none⟩ : Addr) (encP p) → cell h' ((((⟨b, 0, none⟩ : Addr).add ((i : Int).toNat * 6)).add 1).add 4) = some (.int .u32 p.stamp) := fun hr => by simpa only [add_lit, Int.toNat_natCast] using hr.get 5 (v := .int .u32 p.stamp) rfl
    rw [add_lit] at hrd
    refine ⟨_, rfl, by omega, by omega, .bool p.used, hus hrd, ?_⟩
    refine xif_of (fun hu => ?_) (fun hu => ?_)
    · refine ⟨_, rfl, by omega, by omega, .bool p.static, hst hrd, ?_⟩
      refine xif_of (fun hs => ?_) (fun hs => ?_)
      · refine ⟨_, rfl, by omega, by omega, .int .u32 p.stamp, hsm hrd, ?_⟩
        refine (rOld_spec a0 a1 hpw.stamp0 hpw.stamp1 _).mono ?_
        rintro v h5 ⟨rfl, rfl⟩
        refine xif_of (fun hg => ?_) (fun hg => ?_)
        · have hqp : q p = true := (by have e : oldM now limit p = true := (by rw [oldM, hs, hg]; rfl); rw [← hq]; show (p.used && oldM now limit p) = true; rw [hu, e]; rfl)
          refine ⟨_, rfl, by omega, by omega, rfl, rfl, ?_, fun h7 s7 => ?_⟩
          · simp only [add_lit, Nat.zero_add, Int.toNat_natCast]; exact hcs
          simp only [add_lit, Nat.zero_add, Int.toNat_natCast] at s7
          obtain ⟨g1, g2, g3⟩ := gone _ h7 (Ext.refl _) hqp s7
          exact ⟨i + 1, ⟨rfl, rfl, rfl, by rw [g3]; exact slot_inc (by omega), slot_inc (by omega), trivial⟩, ⟨by omega, g1, g2⟩, by show xs.length - (i + 1) < xs.length - i; omega⟩
        · have hqp : q p = false := (by have e : oldM now limit p = false := (by rw [oldM, hg]; simp); rw [← hq]; show (p.used && oldM now limit p) = false; rw [e, Bool.and_false])
          exact ⟨i + 1, ⟨rfl, rfl, rfl, by rw [(keep hqp).2]; rfl, slot_inc (by omega), trivial⟩, ⟨by omega, (keep hqp).1, x2⟩, by show xs.length - (i + 1) < xs.length - i; omega⟩
      · have hqp : q p = false := (by have e : oldM now limit p = false := (by rw [oldM, hs]; rfl); rw [← hq]; show (p.used && oldM now limit p) = false; rw [e, Bool.and_false])
        exact ⟨i + 1, ⟨rfl, rfl, rfl, by rw [(keep hqp).2]; rfl, slot_inc (by omega), trivial⟩, ⟨by omega, (keep hqp).1, x2⟩, by show xs.length - (i + 1) < xs.length - i; omega⟩
    · have hqp : q p = false := by rw [← hq]; simp [hu]
      exact ⟨i + 1, ⟨rfl, rfl, rfl, by rw [(keep hqp).2]; rfl, slot_inc (by omega), trivial⟩, ⟨by omega, (keep hqp).1, x2⟩, by show xs.length - (i + 1) < xs.length - i; omega⟩

  · have : xs.length ≤ i := by simpa using hge
    have : i = cl.length := by omega
    subst this
    rw [List.take_length, List.drop_length, List.append_nil] at own2
    refine ⟨B, d, ?_, own2, x2⟩
    rw [List.take_length]; rfl
theorem rFlush_spec {A : Option Addr} {xs : List Place} {c : Nat} {port vid : Int} {h : Heap} (hr : Row encP 6 h A xs) {n : Nat} (hl : xs.length = n) (hn : n ≤ 1000000) :
    HCalls Tryz.prog 180 #[.slice A n c, .agg #[.int .i64 port, .int .i64 vid]] h (fun v h' => ∃ A' c', v = .tuple #[.slice A' n c', .int .i64 (withoutM (hitM port vid) xs).2] ∧ OwnA encP 6 242 h.size h' A' c' (withoutM (hitM port vid) xs).1 ∧ Ext h h') := by
  subst hl
  refine xcalls env_rFlush Tryz.func180 rfl (by kernel_rfl) rfl (by kernel_rfl) ?_
  intro b3 h0 n0
  refine (rCopy_spec (n0.ext.row hr) rfl hn).mono ?_
  rintro v h1 ⟨B, d, rfl, own1', x1'⟩
  have own1 := own1'.mono n0.ext.size
  have x1 := n0.ext.trans x1'
  have hb3 := x1'.blk n0.this
  have hB1 := own1'.ge
  have hsz := n0.size
  obtain ⟨cl, hcl⟩ : ∃ cl, xs.map cleanP = cl := ⟨_, rfl⟩
  have hlen : cl.length = xs.length := by rw [← hcl]; simp
  have hw : withoutM (hitM port vid) xs = (cl.map fun p => if (p.used && hitM port vid p) = true then Place.none else p, ((cl.countP fun p => p.used && hitM port vid p : Nat) : Int)) := by rw [withoutM, hcl]
  rw [hcl] at own1
  rw [hw]
  obtain ⟨f, hf⟩ : ∃ f : Place → Place, (fun p => if (p.used && hitM port vid p) = true then Place.none else p) = f := ⟨_, rfl⟩
  obtain ⟨q, hq⟩ : ∃ q : Place → Bool, (fun p => p.used && hitM port vid p) = q := ⟨_, rfl⟩
  rw [hf, hq]
  have hfq : ∀ p, f p = if q p = true then Place.none else p := fun p => by rw [← hf, ← hq]
  refine ⟨Nat, fun i => [(0, .slice B xs.length d), (3, .pointer (some ⟨b3, 0, none⟩)), (6, .int .i64 ((cl.take i).countP q : Nat)), (7, .int .i64 i)],
    fun i h' => i ≤ xs.length ∧ OwnA encP 6 242 h.size h' B d ((cl.take i).map f ++ cl.drop i) ∧ Ext h h' ∧ h'[b3]? = some (.cells [.int .i64 port, .int .i64 vid].toArray 235 (0, 0)), fun i => xs.length - i, 0, ⟨rfl, rfl, rfl, rfl, trivial⟩, ⟨Nat.zero_le _, own1, x1, hb3⟩, ?_⟩
  rintro i h2 ⟨hi, own2, x2, hb3'⟩
  refine xif_of (fun hlt => ?_) (fun hge => ?_)
  · have hlt : i < cl.length := by rw [hlen]; simpa using hlt
    obtain ⟨p, hp⟩ : ∃ p, cl[i]? = some p := ⟨cl[i], by simp [hlt]⟩
    obtain ⟨hat, hdrop, hnext, hcnt, hcle⟩ := wo_step f q hp
    have hilen : i < ((cl.take i).map f ++ cl.drop i).length := (List.getElem?_eq_some_iff.1 hat).1
    obtain ⟨b, hB, hbg, hcs⟩ := own2.canset encP_len (i := i) (j := 0) (n := 6) hilen (by omega)
    subst hB
    obtain ⟨a, ha, hrd⟩ := own2.row encP_len i p hat
    cases ha
    have keep : q p = false → OwnA encP 6 242 h.size h2 (some ⟨b, 0, none⟩) d ((cl.take (i + 1)).map f ++ cl.drop (i + 1)) ∧ (cl.take (i + 1)).countP q = (cl.take i).countP q := fun hqp => by
      have hfp : f p = p := by rw [hfq, hqp]; rfl
      rw [hfp, set_same hat] at hnext
      rw [hnext] at own2
      exact ⟨own2, by rw [hcnt, hqp]; rfl⟩
    have gone : ∀ (h5 h7 : Heap), Ext h2 h5 → q p = true → Stored h5 ⟨b, i * 6 + 0, none⟩ (encP Place.none) h7 → OwnA encP 6 242 h.size h7 (some ⟨b, 0, none⟩) d ((cl.take (i + 1)).map f ++ cl.drop (i + 1)) ∧ Ext h h7 ∧ (cl.take (i + 1)).countP q = (cl.take i).countP q + 1 := fun h5 h7 x5 hqp s => by
      have hfp : f p = Place.none := by rw [hfq, hqp]; rfl
      have own7 := (own2.ext x5).put encP_len (j := 0) (x' := f p) rfl s hat (Nat.le_of_ble_eq_true rfl) (by rw [hfp]; rfl)
      rw [hnext] at own7
      exact ⟨own7, s.keepA.ext (x2.trans x5) own2.ge, by rw [hcnt, hqp]; rfl⟩
    rw [add_lit] at hrd
    have hus : ∀ {h' : Heap}, Reads h' (⟨b, 0 + i * 6, none⟩ : Addr) (encP p) → cell h' (((⟨b, 0, none⟩ : Addr).add ((i : Int).toNat * 6)).add 0) = some (.bool p.used) := fun hr => by simpa only [add_lit, Int.toNat_natCast] using hr.get 0 (v := .bool p.used) rfl
    have hsub : ∀ {h' : Heap}, Reads h' (⟨b, 0 + i * 6, none⟩ : Addr) (encP p) → Reads h' (((⟨b, 0, none⟩ : Addr).add ((i : Int).toNat * 6)).add 1) (encE p) := fun hr => by rw [Int.toNat_natCast, add_lit]; exact hr.sub 1 rfl
    refine ⟨_, rfl, by omega, by omega, .bool p.used, hus hrd, ?_⟩
    refine xif_of (fun hu => ?_) (fun hu => ?_)
    · refine ⟨_, rfl, by omega, by omega, encE p, rfl, hsub hrd, [.int .i64 port, .int .i64 vid], rfl, reads_all hb3', ?_⟩
      refine (rHit_spec port vid p _).mono ?_
      rintro v h5 ⟨rfl, x5⟩
      refine xif_of (fun hg => ?_) (fun hg => ?_)
      · have hqp : q p = true := by rw [← hq]; simp [hu, hg]
        have hcs5 := (own2.ext x5).canset encP_len (i := i) (j := 0) (n := 6) hilen (by omega)
        obtain ⟨b', hb', _, hcs5⟩ := hcs5
        cases hb'
        refine ⟨_, rfl, by omega, by omega, rfl, rfl, ?_, fun h7 s7 => ?_⟩
        · simp only [add_lit, Nat.zero_add, Int.toNat_natCast]; exact hcs5
        simp only [add_lit, Nat.zero_add, Int.toNat_natCast] at s7
        obtain ⟨g1, g2, g3⟩ := gone _ h7 x5 hqp s7
        have hne : b3 ≠ b := by have h1 := hB1 b rfl; have h2 := n0.at_; omega
        exact ⟨i + 1, ⟨rfl, rfl, by rw [g3]; exact slot_inc (by omega), slot_inc (by omega), trivial⟩, ⟨by omega, g1, g2, s7.blk (x5.blk hb3') hne⟩, by show xs.length - (i + 1) < xs.length - i; omega⟩
      · have hqp : q p = false := by rw [← hq]; simp [hg]
        exact ⟨i + 1, ⟨rfl, rfl, by rw [(keep hqp).2]; rfl, slot_inc (by omega), trivial⟩, ⟨by omega, (keep hqp).1.ext x5, x2.trans x5, x5.blk hb3'⟩, by show xs.length - (i + 1) < xs.length - i; omega⟩
    · have hqp : q p = false := by rw [← hq]; simp [hu]
      exact ⟨i + 1, ⟨rfl, rfl, by rw [(keep hqp).2]; rfl, slot_inc (by omega), trivial⟩, ⟨by omega, (keep hqp).1, x2, hb3'⟩, by show xs.length - (i + 1) < xs.length - i; omega⟩
  · have : xs.length ≤ i := by simpa using hge
    have : i = cl.length := by omega
    subst this
    rw [List.take_length, List.drop_length, List.append_nil] at own2
    refine ⟨B, d, ?_, own2, x2⟩
    rw [List.take_length]; rfl
end Go.Proofs.YtjjempefncgfhaaGreatDoorE
