/- What the laws' helpers of layers 8 to 10 answer. Conditions: the arguments are of their types. -/
import Derived.Test.YtgiofdiifkahoaaGreatXA2
import Derived.Test.YtgiofdiifkahoaaGreatXA3
set_option linter.unusedVariables false
set_option linter.unusedSimpArgs false
set_option maxRecDepth 100000
namespace Go.Proofs.YtgiofdiifkahoaaGreatE
open Go Go.Proofs
def env_l9From : Nat → Ann
  | 1 => ⟨.op 0 [] <| .op 1 [] <| .op 3 [] <| .op 4 [] <| .op 5 [] <| .op 6 [] <| .op 7 [] <| .op 8 [] <| .op 2 [4, 6, 8] <| .op 9 [] <| .op 10 [] <| .nil, [0, 1, 3, 0, 8, 0, 32, 0, 128, 511, 1023], false⟩
  | _ => ⟨.nil, [], false⟩
def env_l10From : Nat → Ann
  | 5 => ⟨.op 0 [] <| .op 1 [] <| .op 2 [] <| .op 3 [] <| .op 4 [] <| .op 5 [] <| .op 6 [] <| .op 7 [] <| .op 8 [] <| .op 9 [] <| .op 10 [] <| .op 11 [5] <| .op 12 [] <| .op 13 [] <| .op 14 [] <| .op 15 [] <| .nil, [0, 0, 0, 6, 14, 30, 0, 0, 192, 448, 960, 1984, 4094, 8190, 16383, 32767], false⟩
  | _ => ⟨.nil, [], false⟩
theorem l8To_spec (vid mac : Int) (h : Heap) : HCalls Tryz.prog 53 #[.agg #[.int .i64 vid, .int .u64 mac]] h (fun v h' => v = .agg #[.int .i64 vid, .int .u64 mac] ∧ Ext h h') := by
  refine xcalls env0 Tryz.func53 rfl (by kernel_rfl) rfl (by kernel_rfl) ?_
  intro b1 h1 n1 b2 h2 n2
  have hb1 := n2.ext.blk n1.this
  refine ⟨_, cell_blk hb1 rfl, _, cell_blk hb1 rfl, ?_⟩
  refine ⟨rfl, rfl, canset_blk n2.this rfl, fun h3 s3 => ?_⟩
  have hb3 : h3[b2]? = some (.cells [.int .i64 vid, .int .u64 mac].toArray 48 (0, 0)) := s3.put n2.this
  exact ⟨_, rfl, reads_all hb3, rfl, (n1.ext.trans n2.ext).stored s3 (n2.ge n1.ext)⟩
theorem l8From_spec (vid mac : Int) (h : Heap) : HCalls Tryz.prog 115 #[.agg #[.int .i64 vid, .int .u64 mac]] h (fun v h' => v = .agg #[.int .i64 vid, .int .u64 mac] ∧ Ext h h') := by
  refine xcalls env0 Tryz.func115 rfl (by kernel_rfl) rfl (by kernel_rfl) ?_
  intro b1 h1 n1 b2 h2 n2
  have hb1 := n2.ext.blk n1.this
  refine ⟨_, cell_blk hb1 rfl, _, cell_blk hb1 rfl, ?_⟩
  refine ⟨rfl, rfl, canset_blk n2.this rfl, fun h3 s3 => ?_⟩
  have hb3 : h3[b2]? = some (.cells [.int .i64 vid, .int .u64 mac].toArray 54 (0, 0)) := s3.put n2.this
  exact ⟨_, rfl, reads_all hb3, rfl, (n1.ext.trans n2.ext).stored s3 (n2.ge n1.ext)⟩
theorem l9From_spec (p : Place) (h : Heap) : HCalls Tryz.prog 70 #[.agg (encE p).toArray] h (fun v h' => v = .agg (encE p).toArray ∧ Ext h h') := by
  refine xcalls env_l9From Tryz.func70 rfl (by kernel_rfl) rfl (by kernel_rfl) ?_
  intro b1 h1 n1 b2 h2 n2
  have hb1 : h2[b1]? = some (.cells (encE p).toArray 165 (0, 0)) := n2.ext.blk n1.this
  refine ⟨[.int .i64 p.vid, .int .u64 p.mac], rfl, reads_at hb1 rfl, ?_⟩
  refine ⟨_, cell_blk hb1 rfl, _, cell_blk hb1 rfl, _, cell_blk hb1 rfl, ?_⟩
  refine (l8From_spec _ _ _).mono ?_
  rintro v h3 ⟨rfl, x3⟩
  have hc1 := x3.blk hb1
  have hc2 := x3.blk n2.this
  refine ⟨⟨cell_blk hc1 rfl, cell_blk hc1 rfl, cell_blk hc1 rfl, trivial⟩, rfl, rfl, canset_blk hc2 rfl, fun h4 s4 => ?_⟩
  have hd2 : h4[b2]? = some (.cells (encE p).toArray 162 (0, 0)) := s4.put (ws := [_, _, _, _, _]) hc2
  exact ⟨_, rfl, reads_all hd2, rfl, ((n1.ext.trans n2.ext).trans x3).stored s4 (n2.ge n1.ext)⟩
theorem infoPlace : (Tryz.prog.info? 203).map (fun i => (i.size, i.bytes)) = some (6, 40) := by kernel_rfl
theorem zeroPlace : xzero Tryz.prog 203 = some (encP Place.none) := by kernel_rfl
theorem take_next {α : Type} {l : List α} {i : Nat} {p : α} (hp : l[i]? = some p) : l.take i ++ [p] = l.take (i + 1) := by
  obtain ⟨hi, rfl⟩ := List.getElem?_eq_some_iff.1 hp
  rw [List.take_succ_eq_append_getElem hi]
theorem l10From_spec {A : Option Addr} {xs : List Place} {c : Nat} {h : Heap} (hr : Row encP 6 h A xs) {n : Nat} (hl : xs.length = n) (hn : n ≤ 1000000) :
    HCalls Tryz.prog 67 #[.slice A n c] h (fun v h' => ∃ A' c', v = .slice A' n c' ∧ OwnA encP 6 197 h.size h' A' c' xs ∧ Ext h h') := by
  subst hl
  refine xcalls env_l10From Tryz.func67 rfl (by kernel_rfl) rfl (by kernel_rfl) ?_
  refine ⟨Nat × Option Addr × Nat, fun s => [(0, .slice A xs.length c), (3, .slice s.2.1 s.1 s.2.2), (4, .int .i64 s.1)],
    fun s h' => s.1 ≤ xs.length ∧ OwnA encP 6 197 h.size h' s.2.1 s.2.2 (xs.take s.1) ∧ Ext h h', fun s => xs.length - s.1, (0, none, 0), ⟨rfl, rfl, rfl, trivial⟩, ⟨Nat.zero_le _, .inl ⟨rfl, rfl, rfl⟩, Ext.refl _⟩, ?_⟩
  rintro ⟨i, B, d⟩ h2 ⟨hi, own2, x2⟩
  simp only at hi own2
  refine xif_of (fun hlt => ?_) (fun hge => ?_)
  · have hlt : i < xs.length := by simpa using hlt
    obtain ⟨p, hp⟩ : ∃ p, xs[i]? = some p := ⟨xs[i], by simp [hlt]⟩
    have hlen : (xs.take i).length = i := by simp; omega
    obtain ⟨a, rfl, hrd⟩ := (x2.row hr) i p hp
    refine ⟨a, rfl, by omega, by omega, .bool p.used, hrd.get 0 rfl, ?_⟩
    refine ⟨a, rfl, by omega, by omega, encE p, rfl, hrd.sub 1 rfl, ?_⟩
    refine (l9From_spec p _).mono ?_
    rintro v h3 ⟨rfl, x3⟩
    refine ⟨⟨(x3.reads hrd).get 0 rfl, trivial⟩, ?_⟩
    intro b4 h4 n4
    refine xappend_one (x := p) infoPlaceR zeroPlaceR rfl (by decide) encP_len encP_one (own2.ext x3) n4 hlen (by omega) (x2.trans x3).size fun A' c' h' o k => ?_
    rw [take_next hp] at o
    exact ⟨(i + 1, A', c'), ⟨rfl, rfl, slot_inc (by omega), trivial⟩, ⟨by omega, o, k.ext (x2.trans x3) own2.ge⟩, by show xs.length - (i + 1) < xs.length - i; omega⟩
  · have : i = xs.length := by have : xs.length ≤ i := by simpa using hge
                               omega
    subst this
    rw [List.take_length] at own2
    exact ⟨B, d, rfl, own2, x2⟩
theorem told10_1 : learnM [Place.none] 1 2 1 5 = ([⟨true, 1, 2, 1, false, 5⟩], 3) := by decide
theorem told10_2 : learnM [⟨true, 1, 2, 1, false, 5⟩] 1 2 2 6 = ([⟨true, 1, 2, 2, false, 6⟩], 2) := by decide
theorem told10_3 : learnM [⟨true, 1, 2, 2, false, 6⟩] 1 4 2 9 = ([⟨true, 1, 4, 2, false, 9⟩], 4) := by decide
end Go.Proofs.YtgiofdiifkahoaaGreatE
