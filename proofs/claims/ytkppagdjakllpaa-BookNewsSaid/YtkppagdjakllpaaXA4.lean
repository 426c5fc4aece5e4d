/- What the laws' helpers of layers 8 to 10 answer. Conditions: the arguments are of their types. -/
import Derived.Test.YtkppagdjakllpaaXA2
import Derived.Test.YtkppagdjakllpaaXA3
set_option linter.unusedVariables false
set_option linter.unusedSimpArgs false
set_option maxRecDepth 100000
namespace Go.Proofs.YtkppagdjakllpaaE
open Go Go.Proofs
def env_l9To : Nat → Ann
  | 1 => ⟨.op 0 [] <| .op 1 [] <| .op 3 [] <| .op 4 [] <| .op 5 [] <| .op 6 [] <| .op 7 [] <| .op 8 [] <| .op 2 [4, 6, 8] <| .op 9 [] <| .op 10 [] <| .nil, [0, 1, 3, 0, 8, 0, 32, 0, 128, 511, 1023], false⟩
  | _ => ⟨.nil, [], false⟩
def env_l9From : Nat → Ann
  | 1 => ⟨.op 0 [] <| .op 1 [] <| .op 3 [] <| .op 4 [] <| .op 5 [] <| .op 6 [] <| .op 7 [] <| .op 8 [] <| .op 2 [4, 6, 8] <| .op 9 [] <| .op 10 [] <| .nil, [0, 1, 3, 0, 8, 0, 32, 0, 128, 511, 1023], false⟩
  | _ => ⟨.nil, [], false⟩
def env_l10To : Nat → Ann
  | 5 => ⟨.op 0 [] <| .op 1 [] <| .op 2 [] <| .op 3 [] <| .op 4 [] <| .op 5 [] <| .op 6 [] <| .op 7 [] <| .op 8 [] <| .op 9 [] <| .op 10 [] <| .op 11 [5] <| .op 12 [] <| .op 13 [] <| .op 14 [] <| .op 15 [] <| .nil, [0, 0, 0, 6, 14, 30, 0, 0, 192, 448, 960, 1984, 4094, 8190, 16383, 32767], false⟩
  | _ => ⟨.nil, [], false⟩
def env_l10From : Nat → Ann
  | 5 => ⟨.op 0 [] <| .op 1 [] <| .op 2 [] <| .op 3 [] <| .op 4 [] <| .op 5 [] <| .op 6 [] <| .op 7 [] <| .op 8 [] <| .op 9 [] <| .op 10 [] <| .op 11 [5] <| .op 12 [] <| .op 13 [] <| .op 14 [] <| .op 15 [] <| .nil, [0, 0, 0, 6, 14, 30, 0, 0, 192, 448, 960, 1984, 4094, 8190, 16383, 32767], false⟩
  | _ => ⟨.nil, [], false⟩
def env_told10 : Nat → Ann
  | 2 => ⟨.op 1 [] <| .op 0 [1] <| .op 2 [] <| .op 3 [] <| .op 4 [] <| .op 5 [] <| .op 6 [] <| .op 7 [] <| .nil, [0, 0, 3, 7, 15, 15, 31, 127], false⟩
  | 5 => ⟨.op 0 [] <| .op 1 [] <| .op 2 [] <| .op 3 [] <| .op 4 [] <| .op 5 [] <| .op 6 [] <| .op 7 [] <| .op 8 [] <| .op 9 [] <| .op 10 [] <| .op 11 [] <| .op 12 [] <| .op 13 [] <| .op 14 [] <| .op 15 [] <| .op 16 [] <| .op 17 [] <| .op 18 [] <| .op 19 [] <| .op 20 [] <| .op 21 [] <| .op 22 [] <| .op 23 [] <| .op 24 [] <| .op 25 [] <| .op 26 [] <| .op 27 [] <| .op 28 [] <| .op 29 [] <| .op 30 [] <| .nil, [0, 1, 3, 7, 15, 31, 63, 127, 255, 511, 1023, 2047, 4095, 8191, 16383, 32767, 65535, 131071, 262143, 524287, 65535, 1114111, 4194303, 8388607, 16777215, 33554431, 33554431, 134217727, 268435455, 536870911, 1073741823], false⟩
  | _ => ⟨.nil, [], false⟩
theorem l8To_spec (vid mac : Int) (h : Heap) : HCalls Try.prog 17 #[.agg #[.int .i64 vid, .int .u64 mac]] h (fun v h' => v = .agg #[.int .i64 vid, .int .u64 mac] ∧ Ext h h') := by
  refine xcalls env0 Try.func17 rfl (by kernel_rfl) rfl (by kernel_rfl) ?_
  intro b1 h1 n1 b2 h2 n2
  have hb1 := n2.ext.blk n1.this
  refine ⟨_, cell_blk hb1 rfl, _, cell_blk hb1 rfl, ?_⟩
  refine ⟨rfl, rfl, canset_blk n2.this rfl, fun h3 s3 => ?_⟩
  have hb3 : h3[b2]? = some (.cells [.int .i64 vid, .int .u64 mac].toArray 36 (0, 0)) := s3.put n2.this
  exact ⟨_, rfl, reads_all hb3, rfl, (n1.ext.trans n2.ext).stored s3 (n2.ge n1.ext)⟩
theorem l8From_spec (vid mac : Int) (h : Heap) : HCalls Try.prog 34 #[.agg #[.int .i64 vid, .int .u64 mac]] h (fun v h' => v = .agg #[.int .i64 vid, .int .u64 mac] ∧ Ext h h') := by
  refine xcalls env0 Try.func34 rfl (by kernel_rfl) rfl (by kernel_rfl) ?_
  intro b1 h1 n1 b2 h2 n2
  have hb1 := n2.ext.blk n1.this
  refine ⟨_, cell_blk hb1 rfl, _, cell_blk hb1 rfl, ?_⟩
  refine ⟨rfl, rfl, canset_blk n2.this rfl, fun h3 s3 => ?_⟩
  have hb3 : h3[b2]? = some (.cells [.int .i64 vid, .int .u64 mac].toArray 25 (0, 0)) := s3.put n2.this
  exact ⟨_, rfl, reads_all hb3, rfl, (n1.ext.trans n2.ext).stored s3 (n2.ge n1.ext)⟩
theorem l9To_spec (p : Place) (h : Heap) : HCalls Try.prog 56 #[.agg (encE p).toArray] h (fun v h' => v = .agg (encE p).toArray ∧ Ext h h') := by
  refine xcalls env_l9To Try.func56 rfl (by kernel_rfl) rfl (by kernel_rfl) ?_
  intro b1 h1 n1 b2 h2 n2
  have hb1 : h2[b1]? = some (.cells (encE p).toArray 49 (0, 0)) := n2.ext.blk n1.this
  refine ⟨[.int .i64 p.vid, .int .u64 p.mac], rfl, reads_at hb1 rfl, ?_⟩
  refine ⟨_, cell_blk hb1 rfl, _, cell_blk hb1 rfl, _, cell_blk hb1 rfl, ?_⟩
  refine (l8To_spec _ _ _).mono ?_
  rintro v h3 ⟨rfl, x3⟩
  have hc1 := x3.blk hb1
  have hc2 := x3.blk n2.this
  refine ⟨⟨cell_blk hc1 rfl, cell_blk hc1 rfl, cell_blk hc1 rfl, trivial⟩, rfl, rfl, canset_blk hc2 rfl, fun h4 s4 => ?_⟩
  have hd2 : h4[b2]? = some (.cells (encE p).toArray 73 (0, 0)) := s4.put (ws := [_, _, _, _, _]) hc2
  exact ⟨_, rfl, reads_all hd2, rfl, ((n1.ext.trans n2.ext).trans x3).stored s4 (n2.ge n1.ext)⟩
theorem l9From_spec (p : Place) (h : Heap) : HCalls Try.prog 63 #[.agg (encE p).toArray] h (fun v h' => v = .agg (encE p).toArray ∧ Ext h h') := by
  refine xcalls env_l9From Try.func63 rfl (by kernel_rfl) rfl (by kernel_rfl) ?_
  intro b1 h1 n1 b2 h2 n2
  have hb1 : h2[b1]? = some (.cells (encE p).toArray 73 (0, 0)) := n2.ext.blk n1.this
  refine ⟨[.int .i64 p.vid, .int .u64 p.mac], rfl, reads_at hb1 rfl, ?_⟩
  refine ⟨_, cell_blk hb1 rfl, _, cell_blk hb1 rfl, _, cell_blk hb1 rfl, ?_⟩
  refine (l8From_spec _ _ _).mono ?_
  rintro v h3 ⟨rfl, x3⟩
  have hc1 := x3.blk hb1
  have hc2 := x3.blk n2.this
  refine ⟨⟨cell_blk hc1 rfl, cell_blk hc1 rfl, cell_blk hc1 rfl, trivial⟩, rfl, rfl, canset_blk hc2 rfl, fun h4 s4 => ?_⟩
  have hd2 : h4[b2]? = some (.cells (encE p).toArray 49 (0, 0)) := s4.put (ws := [_, _, _, _, _]) hc2
  exact ⟨_, rfl, reads_all hd2, rfl, ((n1.ext.trans n2.ext).trans x3).stored s4 (n2.ge n1.ext)⟩
theorem infoPlace : (Try.prog.info? 75).map (fun i => (i.size, i.bytes)) = some (6, 40) := by kernel_rfl
theorem zeroPlace : xzero Try.prog 75 = some (encP Place.none) := by kernel_rfl
theorem take_next {α : Type} {l : List α} {i : Nat} {p : α} (hp : l[i]? = some p) : l.take i ++ [p] = l.take (i + 1) := by
  obtain ⟨hi, rfl⟩ := List.getElem?_eq_some_iff.1 hp
  rw [List.take_succ_eq_append_getElem hi]
theorem l10To_spec {A : Option Addr} {xs : List Place} {c : Nat} {h : Heap} (hr : Row encP 6 h A xs) {n : Nat} (hl : xs.length = n) (hn : n ≤ 1000000) :
    HCalls Try.prog 15 #[.slice A n c] h (fun v h' => ∃ A' c', v = .slice A' n c' ∧ OwnA encP 6 75 h.size h' A' c' xs ∧ Ext h h') := by
  subst hl
  refine xcalls env_l10To Try.func15 rfl (by kernel_rfl) rfl (by kernel_rfl) ?_
  refine ⟨Nat × Option Addr × Nat, fun s => [(0, .slice A xs.length c), (3, .slice s.2.1 s.1 s.2.2), (4, .int .i64 s.1)],
    fun s h' => s.1 ≤ xs.length ∧ OwnA encP 6 75 h.size h' s.2.1 s.2.2 (xs.take s.1) ∧ Ext h h', fun s => xs.length - s.1, (0, none, 0), ⟨rfl, rfl, rfl, trivial⟩, ⟨Nat.zero_le _, .inl ⟨rfl, rfl, rfl⟩, Ext.refl _⟩, ?_⟩
  rintro ⟨i, B, d⟩ h2 ⟨hi, own2, x2⟩
  simp only at hi own2
  refine xif_of (fun hlt => ?_) (fun hge => ?_)
  · have hlt : i < xs.length := by simpa using hlt
    obtain ⟨p, hp⟩ : ∃ p, xs[i]? = some p := ⟨xs[i], by simp [hlt]⟩
    have hlen : (xs.take i).length = i := by simp; omega
    obtain ⟨a, rfl, hrd⟩ := (x2.row hr) i p hp
    refine ⟨a, rfl, by omega, by omega, .bool p.used, hrd.get 0 rfl, ?_⟩
    refine ⟨a, rfl, by omega, by omega, encE p, rfl, hrd.sub 1 rfl, ?_⟩
    refine (l9To_spec p _).mono ?_
    rintro v h3 ⟨rfl, x3⟩
    refine ⟨⟨(x3.reads hrd).get 0 rfl, trivial⟩, ?_⟩
    intro b4 h4 n4
    refine xappend_one (x := p) infoPlace zeroPlace rfl (by decide) encP_len encP_one (own2.ext x3) n4 hlen (by omega) (x2.trans x3).size fun A' c' h' o k => ?_
    rw [take_next hp] at o
    exact ⟨(i + 1, A', c'), ⟨rfl, rfl, slot_inc (by omega), trivial⟩, ⟨by omega, o, k.ext (x2.trans x3) own2.ge⟩, by show xs.length - (i + 1) < xs.length - i; omega⟩
  · have : i = xs.length := by have : xs.length ≤ i := by simpa using hge
                               omega
    subst this
    rw [List.take_length] at own2
    exact ⟨B, d, rfl, own2, x2⟩
theorem l10From_spec {A : Option Addr} {xs : List Place} {c : Nat} {h : Heap} (hr : Row encP 6 h A xs) {n : Nat} (hl : xs.length = n) (hn : n ≤ 1000000) :
    HCalls Try.prog 21 #[.slice A n c] h (fun v h' => ∃ A' c', v = .slice A' n c' ∧ OwnA encP 6 51 h.size h' A' c' xs ∧ Ext h h') := by
  subst hl
  refine xcalls env_l10From Try.func21 rfl (by kernel_rfl) rfl (by kernel_rfl) ?_
  refine ⟨Nat × Option Addr × Nat, fun s => [(0, .slice A xs.length c), (3, .slice s.2.1 s.1 s.2.2), (4, .int .i64 s.1)],
    fun s h' => s.1 ≤ xs.length ∧ OwnA encP 6 51 h.size h' s.2.1 s.2.2 (xs.take s.1) ∧ Ext h h', fun s => xs.length - s.1, (0, none, 0), ⟨rfl, rfl, rfl, trivial⟩, ⟨Nat.zero_le _, .inl ⟨rfl, rfl, rfl⟩, Ext.refl _⟩, ?_⟩
  rintro ⟨i, B, d⟩ h2 ⟨hi, own2, x2⟩
  simp only at hi own2
  refine xif_of (fun hlt => ?_) (fun hge => ?_)
  · have hlt : i < xs.length := by simpa using hlt
    obtain ⟨p, hp⟩ : ∃ p, xs[i]? = some p := ⟨xs[i], by simp [hlt]⟩
    have hlen : (xs.take i).length = i := by simp; omega
    obtain ⟨a, rfl, hrd⟩ := (x2.row hr) i p hp
    refine ⟨a, rfl, by omega, by omega, .bool p.used, hrd.get 0 rfl, ?_⟩
    refine ⟨a, rfl, by omega, by omega, encE p, rfl, hrd.sub 1 rfl, ?_⟩
    refine (l9From_spec p _).mono ?_
    rintro v h3 ⟨rfl, x3⟩
    refine ⟨⟨(x3.reads hrd).get 0 rfl, trivial⟩, ?_⟩
    intro b4 h4 n4
    refine xappend_one (x := p) infoPlaceR zeroPlaceR rfl (by decide) encP_len encP_one (own2.ext x3) n4 hlen (by omega) (x2.trans x3).size fun A' c' h' o k => ?_
    rw [take_next hp] at o
    exact ⟨(i + 1, A', c'), ⟨rfl, rfl, slot_inc (by omega), trivial⟩, ⟨by omega, o, k.ext (x2.trans x3) own2.ge⟩, by show xs.length - (i + 1) < xs.length - i; omega⟩
  · have : i = xs.length := by have : xs.length ≤ i := by simpa using hge
                               omega
    subst this
    rw [List.take_length] at own2
    exact ⟨B, d, rfl, own2, x2⟩
theorem told10_1 : learnM [Place.none] 1 2 1 5 = ([⟨true, 1, 2, 1, false, 5⟩], 3) := by decide
theorem told10_2 : learnM [⟨true, 1, 2, 1, false, 5⟩] 1 2 2 6 = ([⟨true, 1, 2, 2, false, 6⟩], 2) := by decide
theorem told10_3 : learnM [⟨true, 1, 2, 2, false, 6⟩] 1 4 2 9 = ([⟨true, 1, 4, 2, false, 9⟩], 4) := by decide
theorem told10_spec (h : Heap) : HCalls Try.prog 19 #[] h (fun v h' => v = .bool true ∧ Ext h h') := by
  refine xcalls env_told10 Try.func19 rfl (by kernel_rfl) rfl (by kernel_rfl) ?_
  refine (l8To_spec 1 2 _).mono ?_
  rintro v h1 ⟨rfl, x1⟩
  refine (l8To_spec 1 4 _).mono ?_
  rintro v h2 ⟨rfl, x2⟩
  intro b1 h3 n3 b2 h4 n4
  have hb1 := n4.ext.blk n3.this
  have hne : b1 ≠ b2 := by have := n4.lt n3.this; omega
  refine ⟨rfl, rfl, canset_blk hb1 rfl, fun h5 s5 => ?_⟩
  have hc1 : h5[b1]? = some (.cells [.int .i64 1, .int .u64 2].toArray 36 (0, 0)) := s5.put hb1
  have hc2 := s5.blk n4.this hne.symm
  refine ⟨rfl, rfl, canset_blk hc2 rfl, fun h6 s6 => ?_⟩
  have hd2 : h6[b2]? = some (.cells [.int .i64 1, .int .u64 4].toArray 36 (0, 0)) := s6.put hc2
  have hd1 := s6.blk hc1 hne
  have x6 : Ext h h6 := (((x1.trans x2).trans (n3.ext.trans n4.ext)).stored s5 (n3.ge (x1.trans x2))).stored s6 (n4.ge ((x1.trans x2).trans n3.ext))
  have wf2 : KeyWf 1 2 := ⟨by decide, by decide, by decide, by decide⟩
  have wf4 : KeyWf 1 4 := ⟨by decide, by decide, by decide, by decide⟩
  refine ⟨[.int .i64 1, .int .u64 2], rfl, reads_all hd1, by decide, by decide, by decide, by decide, fun b h7 n7 => ?_⟩
  have own7 : OwnA encP 6 75 h6.size h7 (some ⟨b, 0, none⟩) 1 [Place.none] := OwnA.made (z := Place.none) 1 n7 rfl (Nat.le_refl _)
  refine ⟨⟨reads_all (n7.ext.blk hd1), trivial⟩, ?_⟩
  refine (bLearn_spec (own7.row encP_len) (n := 1) rfl (by decide) wf2).mono ?_
  rintro v h8 ⟨l1, rfl, own8, x8⟩
  rw [told10_1] at own8
  have x68 := n7.ext.trans x8
  refine ⟨[.int .i64 1, .int .u64 2], rfl, reads_all (x68.blk hd1), ?_⟩
  refine (bLearn_spec (own8.row encP_len) (n := 1) rfl (by decide) wf2).mono ?_
  rintro v h9 ⟨l2, rfl, own9, x9⟩
  rw [told10_2] at own9
  have x69 := x68.trans x9
  refine ⟨[.int .i64 1, .int .u64 4], rfl, reads_all (x69.blk hd2), ?_⟩
  refine (bLearn_spec (own9.row encP_len) (n := 1) rfl (by decide) wf4).mono ?_
  rintro v h10 ⟨l3, rfl, own10, x10⟩
  rw [told10_3] at own10
  have x610 := x69.trans x10
  obtain ⟨a, ha, hrd⟩ := own10.row encP_len 0 _ rfl
  cases ha
  refine ⟨_, rfl, by decide, by decide, [.int .i64 1, .int .u64 4, .int .i64 2, .bool false, .int .u32 9], rfl, hrd.sub 1 rfl, ?_⟩
  refine ⟨[.int .i64 1, .int .u64 4], rfl, reads_all (x610.blk hd2), ?_⟩
  refine xeq_of (eqEntryG ⟨true, 1, 4, 2, false, 9⟩) (eqEntry ⟨true, 1, 4, 2, false, 9⟩ ⟨true, 1, 4, 2, false, 9⟩) ?_
  refine ⟨[.int .i64 1, .int .u64 2], rfl, reads_all (x610.blk hd1), ?_⟩
  refine (bFind_spec (own10.row encP_len) (n := 1) rfl (by decide)).mono ?_
  rintro v h11 ⟨rfl, x11⟩
  exact ⟨rfl, x6.trans (x610.trans x11)⟩
end Go.Proofs.YtkppagdjakllpaaE
