/- What the laws' helpers of layers 8 to 10 answer. Conditions: the arguments are of their types. -/
import Derived.Test.YtjjempefncgfhaaGreatDoorXA2
import Derived.Test.YtjjempefncgfhaaGreatDoorXA3
set_option linter.unusedVariables false
set_option linter.unusedSimpArgs false
set_option maxRecDepth 100000
namespace Go.Proofs.YtjjempefncgfhaaGreatDoorE
open Go Go.Proofs
def env_l9From : Nat → Ann
  | 1 => ⟨.op 0 [] <| .op 1 [] <| .op 3 [] <| .op 4 [] <| .op 5 [] <| .op 6 [] <| .op 7 [] <| .op 8 [] <| .op 2 [4, 6, 8] <| .op 9 [] <| .op 10 [] <| .nil, [0, 1, 3, 0, 8, 0, 32, 0, 128, 511, 1023], false⟩
  | _ => ⟨.nil, [], false⟩
def env_l10From : Nat → Ann
  | 5 => ⟨.op 0 [] <| .op 1 [] <| .op 2 [] <| .op 3 [] <| .op 4 [] <| .op 5 [] <| .op 6 [] <| .op 7 [] <| .op 8 [] <| .op 9 [] <| .op 10 [] <| .op 11 [5] <| .op 12 [] <| .op 13 [] <| .op 14 [] <| .op 15 [] <| .nil, [0, 0, 0, 6, 14, 30, 0, 0, 192, 448, 960, 1984, 4094, 8190, 16383, 32767], false⟩
  | _ => ⟨.nil, [], false⟩
theorem l8To_spec (vid mac : Int) (h : Heap) : HCalls Tryz.prog 85 #[.agg #[.int .i64 vid, .int .u64 mac]] h (fun v h' => v = .agg #[.int .i64 vid, .int .u64 mac] ∧ Ext h h') := by
  refine xcalls env0 Tryz.func85 rfl (by kernel_rfl) rfl (by kernel_rfl) ?_
  intro b1 h1 n1 b2 h2 n2
  have hb1 := n2.ext.blk n1.this
  refine ⟨_, cell_blk hb1 rfl, _, cell_blk hb1 rfl, ?_⟩
  refine ⟨rfl, rfl, canset_blk n2.this rfl, fun h3 s3 => ?_⟩
  have hb3 : h3[b2]? = some (.cells [.int .i64 vid, .int .u64 mac].toArray 104 (0, 0)) := s3.put n2.this
  exact ⟨_, rfl, reads_all hb3, rfl, (n1.ext.trans n2.ext).stored s3 (n2.ge n1.ext)⟩
theorem l8From_spec (vid mac : Int) (h : Heap) : HCalls Tryz.prog 117 #[.agg #[.int .i64 vid, .int .u64 mac]] h (fun v h' => v = .agg #[.int .i64 vid, .int .u64 mac] ∧ Ext h h') := by
  refine xcalls env0 Tryz.func117 rfl (by kernel_rfl) rfl (by kernel_rfl) ?_
  intro b1 h1 n1 b2 h2 n2
  have hb1 := n2.ext.blk n1.this
  refine ⟨_, cell_blk hb1 rfl, _, cell_blk hb1 rfl, ?_⟩
  refine ⟨rfl, rfl, canset_blk n2.this rfl, fun h3 s3 => ?_⟩
  have hb3 : h3[b2]? = some (.cells [.int .i64 vid, .int .u64 mac].toArray 54 (0, 0)) := s3.put n2.this
  exact ⟨_, rfl, reads_all hb3, rfl, (n1.ext.trans n2.ext).stored s3 (n2.ge n1.ext)⟩
theorem l9From_spec (p : Place) (h : Heap) : HCalls Tryz.prog 118 #[.agg (encE p).toArray] h (fun v h' => v = .agg (encE p).toArray ∧ Ext h h') := by
  refine xcalls env_l9From Tryz.func118 rfl (by kernel_rfl) rfl (by kernel_rfl) ?_
  intro b1 h1 n1 b2 h2 n2
  have hb1 : h2[b1]? = some (.cells (encE p).toArray 244 (0, 0)) := n2.ext.blk n1.this
  refine ⟨[.int .i64 p.vid, .int .u64 p.mac], rfl, reads_at hb1 rfl, ?_⟩
  refine ⟨_, cell_blk hb1 rfl, _, cell_blk hb1 rfl, _, cell_blk hb1 rfl, ?_⟩
  refine (l8From_spec _ _ _).mono ?_
  rintro v h3 ⟨rfl, x3⟩
  have hc1 := x3.blk hb1
  have hc2 := x3.blk n2.this
  refine ⟨⟨cell_blk hc1 rfl, cell_blk hc1 rfl, cell_blk hc1 rfl, trivial⟩, rfl, rfl, canset_blk hc2 rfl, fun h4 s4 => ?_⟩
  have hd2 : h4[b2]? = some (.cells (encE p).toArray 240 (0, 0)) := s4.put (ws := [_, _, _, _, _]) hc2
  exact ⟨_, rfl, reads_all hd2, rfl, ((n1.ext.trans n2.ext).trans x3).stored s4 (n2.ge n1.ext)⟩
theorem infoPlace : (Tryz.prog.info? 246).map (fun i => (i.size, i.bytes)) = some (6, 40) := by kernel_rfl
theorem zeroPlace : xzero Tryz.prog 246 = some (encP Place.none) := by kernel_rfl
theorem take_next {α : Type} {l : List α} {i : Nat} {p : α} (hp : l[i]? = some p) : l.take i ++ [p] = l.take (i + 1) := by
  obtain ⟨hi, rfl⟩ := List.getElem?_eq_some_iff.1 hp
  rw [List.take_succ_eq_append_getElem hi]
theorem l10From_spec {A : Option Addr} {xs : List Place} {c : Nat} {h : Heap} (hr : Row encP 6 h A xs) {n : Nat} (hl : xs.length = n) (hn : n ≤ 1000000) :
    HCalls Tryz.prog 62 #[.slice A n c] h (fun v h' => ∃ A' c', v = .slice A' n c' ∧ OwnA encP 6 242 h.size h' A' c' xs ∧ Ext h h') := by
  subst hl
  refine xcalls env_l10From Tryz.func62 rfl (by kernel_rfl) rfl (by kernel_rfl) ?_
  refine ⟨Nat × Option Addr × Nat, fun s => [(0, .slice A xs.length c), (3, .slice s.2.1 s.1 s.2.2), (4, .int .i64 s.1)],
    fun s h' => s.1 ≤ xs.length ∧ OwnA encP 6 242 h.size h' s.2.1 s.2.2 (xs.take s.1) ∧ Ext h h', fun s => xs.length - s.1, (0, none, 0), ⟨rfl, rfl, rfl, trivial⟩, ⟨Nat.zero_le _, .inl ⟨rfl, rfl, rfl⟩, Ext.refl _⟩, ?_⟩
  rintro ⟨i, B, d⟩ h2 ⟨hi, own2, x2⟩
  simp only at hi own2
  refine xif_of (fun hlt => ?_) (fun hge => ?_)
  · have hlt : i < xs.length := by simpa using hlt
    obtain ⟨p, hp⟩ : ∃ p, xs[i]? = some p := ⟨xs[i], by simp [hlt]⟩
    have hlen : (xs.take i).length = i := by simp; omega
    obtain ⟨a, rfl, hrd⟩ := (x2.row hr) i p hp
    refine ⟨a, rfl, by omega, by omega, .bool p.used, hrd.get 0 rfl, ?_⟩
    refine ⟨a, rfl, by omega, by omega, encE p, rfl, hrd.sub 1 rfl, ?_⟩
    refine (l9From_spec p _).mono ?_
    rintro v h3 ⟨rfl, x3⟩
    refine ⟨⟨(x3.reads hrd).get 0 rfl, trivial⟩, ?_⟩
    intro b4 h4 n4
    refine xappend_one (x := p) infoPlaceR zeroPlaceR rfl (by decide) encP_len encP_one (own2.ext x3) n4 hlen (by omega) (x2.trans x3).size fun A' c' h' o k => ?_
    rw [take_next hp] at o
    exact ⟨(i + 1, A', c'), ⟨rfl, rfl, slot_inc (by omega), trivial⟩, ⟨by omega, o, k.ext (x2.trans x3) own2.ge⟩, by show xs.length - (i + 1) < xs.length - i; omega⟩
  · have : i = xs.length := by have : xs.length ≤ i := by simpa using hge
                               omega
    subst this
    rw [List.take_length] at own2
    exact ⟨B, d, rfl, own2, x2⟩
theorem told10_1 : learnM [Place.none] 1 2 1 5 = ([⟨true, 1, 2, 1, false, 5⟩], 3) := by decide
theorem told10_2 : learnM [⟨true, 1, 2, 1, false, 5⟩] 1 2 2 6 = ([⟨true, 1, 2, 2, false, 6⟩], 2) := by decide
theorem told10_3 : learnM [⟨true, 1, 2, 2, false, 6⟩] 1 4 2 9 = ([⟨true, 1, 4, 2, false, 9⟩], 4) := by decide
end Go.Proofs.YtjjempefncgfhaaGreatDoorE
/- What the laws of layer 10 answer: yes. Conditions: the arguments are of their types. -/
set_option linter.unusedVariables false
set_option linter.unusedSimpArgs false
set_option maxRecDepth 100000
namespace Go.Proofs.YtjjempefncgfhaaGreatDoorE
open Go Go.Proofs
theorem putM_len (xs : List Place) (e : Place) (now : Int) : (putM xs e now).1.length = xs.length := by
  unfold putM
  split <;> simp
theorem learnM_len (xs : List Place) (vid mac port now : Int) : (learnM xs vid mac port now).1.length = xs.length := by
  unfold learnM
  simp only
  split
  · simp
  · split
    · simp [putM_len]
    · split <;> simp
theorem orderM_len (xs : List Place) (vid mac port now : Int) : (orderM xs vid mac port now).1.length = xs.length := by
  unfold orderM
  simp only
  split
  · simp
  · split
    · simp [putM_len]
    · split <;> simp
theorem dropM_len (xs : List Place) (vid mac : Int) : (dropM xs vid mac).1.length = xs.length := by
  unfold dropM
  simp only
  split
  · simp
  · split <;> simp
theorem withoutM_len (gone : Place → Bool) (xs : List Place) : (withoutM gone xs).1.length = xs.length := by
  simp [withoutM]
theorem roomP_spot {now : Int} : ∀ (xs : List Place) (k : Nat) (best did g : Int), (roomP now xs k best did g).1 = best ∨ ∃ m p, (roomP now xs k best did g).1 = ((k + m : Nat) : Int) ∧ xs[m]? = some p ∧ (p.used = false ∨ p.static = false) := by
  intro xs
  induction xs with
  | nil => intro k best did g; exact .inl rfl
  | cons p ps ih =>
    intro k best did g
    simp only [roomP]
    split
    · rename_i hu
      exact .inr ⟨0, p, by simp, rfl, .inl hu⟩
    · split
      · rcases ih (k + 1) best did g with h | ⟨m, q, h1, h2, h3⟩
        · exact .inl h
        · exact .inr ⟨m + 1, q, by rw [h1]; congr 1; omega, by simpa using h2, h3⟩
      · rename_i hu hs
        split
        · rcases ih (k + 1) k 4 (ageM now p.stamp) with h | ⟨m, q, h1, h2, h3⟩
          · exact .inr ⟨0, p, by rw [h]; simp, rfl, .inr (by simpa using hs)⟩
          · exact .inr ⟨m + 1, q, by rw [h1]; congr 1; omega, by simpa using h2, h3⟩
        · rcases ih (k + 1) best did g with h | ⟨m, q, h1, h2, h3⟩
          · exact .inl h
          · exact .inr ⟨m + 1, q, by rw [h1]; congr 1; omega, by simpa using h2, h3⟩
theorem putM_keeps {xs : List Place} {e : Place} {now : Int} {i : Nat} {p : Place} (hp : xs[i]? = some p) (hu : p.used = true) (hs : p.static = true) : (putM xs e now).1[i]? = some p := by
  unfold putM
  split
  · rename_i hge
    rcases roomP_spot (now := now) xs 0 (-1) 5 0 with h | ⟨m, q, h1, h2, h3⟩
    · rw [roomM, h] at hge; omega
    · simp only
      rw [roomM, h1, Int.toNat_natCast, Nat.zero_add, List.getElem?_set_ne]
      · exact hp
      · intro hm
        subst hm
        rw [hp] at h2
        cases h2
        rcases h3 with h3 | h3
        · rw [hu] at h3; cases h3
        · rw [hs] at h3; cases h3
  · exact hp
theorem cleanP_used {p : Place} (hu : p.used = true) : cleanP p = p := by simp [cleanP, hu]
theorem learnM_keeps {xs : List Place} {vid mac port now : Int} {i : Nat} {p : Place} (hp : xs[i]? = some p) (hu : p.used = true) (hs : p.static = true) : (learnM xs vid mac port now).1[i]? = some p := by
  have hc : (xs.map cleanP)[i]? = some p := by rw [List.getElem?_map, hp]; simp [cleanP_used hu]
  cases hm : mayM vid mac port with
  | false => rw [learnM_no hm]; exact hc
  | true =>
    rcases findN_range (vid := vid) (mac := mac) (xs.map cleanP) 0 with hf | ⟨hf0, hf1⟩
    · rw [learnM_new hm hf]; exact putM_keeps hc hu hs
    · obtain ⟨j, hj⟩ : ∃ j : Nat, findN vid mac (xs.map cleanP) 0 = j := ⟨(findN vid mac (xs.map cleanP) 0).toNat, by omega⟩
      have hjl : j < (xs.map cleanP).length := by omega
      obtain ⟨w, hw⟩ : ∃ w, (xs.map cleanP)[j]? = some w := ⟨_, List.getElem?_eq_getElem hjl⟩
      rw [learnM_hit hm hj hw]
      split
      · exact hc
      · rename_i hws
        simp only
        rw [List.getElem?_set_ne]
        · exact hc
        · intro e
          subst e
          rw [hw] at hc
          cases hc
          exact hws hs
theorem withoutM_keeps {gone : Place → Bool} {xs : List Place} {i : Nat} {p : Place} (hp : xs[i]? = some p) (hu : p.used = true) (hg : gone p = false) : (withoutM gone xs).1[i]? = some p := by
  simp [withoutM, hp, cleanP_used hu, hg]
end Go.Proofs.YtjjempefncgfhaaGreatDoorE
