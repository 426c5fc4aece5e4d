/- Who puts numbers: that one more was put is told. Conditions: they go to one port, from all ports in turn, and there is room. -/
import Derived.Test.YthoikbogkhpciaaGreatXFB
set_option linter.unusedVariables false
set_option linter.unusedSimpArgs false
set_option maxRecDepth 100000
namespace Go.Proofs.YthoikbogkhpciaaGreatE
open Go Go.Proofs
def env_pStep2 : Nat → Ann
  | 2 => ⟨.op 0 [] <| .op 1 [] <| .op 2 [] <| .op 3 [] <| .op 4 [] <| .op 5 [] <| .op 6 [] <| .op 7 [] <| .op 8 [] <| .op 9 [] <| .op 10 [] <| .op 11 [] <| .op 12 [] <| .op 13 [] <| .op 14 [] <| .op 15 [] <| .op 16 [] <| .nil, [0, 1, 3, 7, 0, 16, 48, 112, 240, 511, 1023, 2047, 4095, 8191, 16383, 32767, 65535], false⟩
  | 4 => ⟨.op 0 [] <| .op 1 [] <| .op 2 [] <| .op 3 [] <| .op 4 [] <| .op 5 [] <| .op 6 [] <| .op 7 [] <| .op 8 [] <| .op 9 [] <| .op 10 [3, 7, 9] <| .op 11 [] <| .nil, [0, 1, 3, 7, 0, 16, 48, 112, 255, 511, 0, 2047], false⟩
  | 5 => ⟨.op 0 [] <| .op 1 [] <| .op 2 [] <| .op 3 [] <| .op 4 [] <| .op 5 [] <| .op 6 [] <| .op 7 [] <| .op 8 [] <| .op 9 [] <| .op 10 [] <| .op 11 [] <| .op 12 [] <| .op 13 [] <| .op 14 [] <| .op 15 [] <| .nil, [0, 1, 3, 0, 8, 31, 63, 0, 128, 384, 0, 1024, 3968, 8064, 127, 32767], false⟩
  | 6 => ⟨.op 0 [] <| .op 1 [] <| .op 2 [] <| .op 3 [] <| .op 4 [] <| .op 5 [] <| .op 6 [] <| .op 7 [] <| .op 8 [] <| .op 9 [] <| .op 10 [] <| .op 11 [] <| .op 12 [] <| .op 13 [] <| .nil, [0, 0, 2, 6, 14, 0, 32, 96, 224, 480, 1022, 2047, 4095, 8191], false⟩
  | 8 => ⟨.op 0 [] <| .op 1 [] <| .op 2 [] <| .op 3 [] <| .op 4 [] <| .op 5 [] <| .op 6 [] <| .op 8 [] <| .op 9 [] <| .op 10 [] <| .op 11 [] <| .op 12 [] <| .op 7 [11] <| .op 13 [] <| .op 14 [] <| .op 15 [] <| .op 16 [] <| .nil, [0, 0, 2, 6, 14, 0, 0, 126, 0, 256, 768, 1792, 3840, 8190, 16383, 32767, 65535], false⟩
  | 9 => ⟨.op 0 [] <| .op 1 [] <| .op 2 [] <| .op 3 [] <| .op 4 [] <| .op 5 [] <| .op 6 [] <| .op 7 [] <| .op 8 [] <| .op 11 [] <| .op 12 [] <| .op 13 [] <| .op 14 [] <| .op 15 [] <| .op 16 [] <| .op 17 [] <| .op 9 [4, 16] <| .op 10 [4, 16] <| .op 18 [] <| .op 19 [4] <| .op 20 [] <| .op 21 [] <| .op 22 [] <| .op 23 [] <| .nil, [0, 0, 2, 6, 14, 0, 32, 96, 224, 480, 992, 0, 0, 0, 8192, 24576, 57344, 129024, 262112, 524256, 1048574, 2097151, 4194303, 8388607], false⟩
  | 10 => ⟨.nil, [], true⟩
  | 11 => ⟨.op 0 [] <| .op 1 [] <| .op 2 [] <| .op 3 [] <| .op 4 [] <| .op 5 [] <| .op 6 [] <| .op 7 [] <| .op 8 [] <| .op 9 [] <| .op 10 [] <| .op 11 [] <| .nil, [0, 1, 3, 7, 0, 16, 48, 112, 240, 496, 1023, 2047], false⟩
  | 12 => ⟨.op 0 [] <| .op 1 [] <| .op 2 [] <| .op 3 [] <| .op 4 [] <| .op 5 [] <| .op 7 [] <| .op 8 [] <| .op 9 [] <| .op 10 [] <| .op 6 [10] <| .op 11 [] <| .op 12 [] <| .op 13 [] <| .op 14 [] <| .op 15 [] <| .op 16 [] <| .op 17 [] <| .op 18 [] <| .nil, [0, 0, 0, 4, 12, 28, 60, 0, 128, 384, 896, 2044, 4092, 8189, 16381, 32765, 65535, 131071, 262143], true⟩
  | _ => ⟨.nil, [], false⟩
section
variable {h h' : Heap} {B : Nat} {F : Fb} {xb q v N n T : Nat} {lk : List Int}
set_option maxHeartbeats 1000000 in
theorem pStep_tell (H : PP h B F xb q v N n 2 T lk) (hT : T < 900000) : HCalls Tryz.prog 12 #[.pointer (some ⟨xb, 0, none⟩), .int .i64 F.P] h (fun r h' => r = .bool true ∧ PP h' B F xb q v N (n + 1) 0 (T + 1) lk ∧ ChgT B TyP h h') := by
  obtain ⟨x, M, hlk, ht, hnN, hlt, ab, S, A, gab, hcell⟩ := H
  have raw := S.raw
  have e3 := S.xc
  have Q := S.mq
  have hP := Q.P0
  have hm := Nat.mod_lt n hP
  have hn30 := S.n30
  have hS : n / F.P < F.S := (Nat.div_lt_iff_lt_mul hP).2 (Nat.lt_of_lt_of_le hlt S.fit)
  have hs1 := Q.fab.s1
  have hs2 := Q.fab.s2
  obtain ⟨l, ol, hll⟩ := S.logs
  obtain ⟨E, hE⟩ : ∃ E, l[n]? = some E := ⟨l[n]'(by omega), List.getElem?_eq_getElem (by omega)⟩
  obtain ⟨lb, hlA, glb, _⟩ := ol.canset encHe_len (i := n) (j := 2) (n := 1) (by omega) (by omega)
  have e5 := S.xg
  obtain ⟨f, lA, ln, lc, at_, act, gA, gn, gc, id⟩ := x
  simp only at e3 hlA e5
  subst e3 hlA e5
  have tell := rTell_spec A (Q.rings _ hm) Q.mem rfl (by show bs F.b0 F.P F.S q (n % F.P) < M.cells.length; have := Q.cells.place hP Q.hq (k := 0) (by omega) hm; omega) (by show cN F.P (n % F.P) n < 1000000; rw [cN_at]; omega) (by show cN F.P (n % F.P) n % F.S < 1000000; rw [cN_at, Nat.mod_eq_of_lt hS]; omega) (by show 0 < F.S; omega) (by show F.S < 1000000; omega) (by have := Q.big; omega) (by omega)
  refine xcalls env_pStep2 Tryz.func12 rfl (by kernel_rfl) rfl (by kernel_rfl) ?_
  refine ⟨Unit, fun _ => [(0, .pointer (some ⟨xb, 0, none⟩))], fun _ h' => h' = h, ?_, ?_⟩
  · repeat (first | refine ⟨_, cell_blk (raw) rfl, ?_⟩)
    exact ⟨(), ⟨rfl, trivial⟩, rfl⟩
  rintro _ h1 rfl
  repeat (first | refine ⟨_, cell_blk (raw) rfl, ?_⟩)
  refine (rStep_put (K := fun A' R' h2 => A' = ⟨F.rb (n % F.P) q, 3, 179, tik v n, true, ((M.t + 1 : Nat) : Int), false⟩ ∧ R' = ⟨bs F.b0 F.P F.S q (n % F.P), F.S, cN F.P (n % F.P) n + 1, (cN F.P (n % F.P) n % F.S + 1) % F.S, (n % F.P == n % F.P), cN F.P (n % F.P) 0, cN F.P (n % F.P) 0 % F.S, noB (n % F.P)⟩ ∧
      MemAt h2 F.mb F.cb F.lb { M with cells := M.cells.set (bs F.b0 F.P F.S q (n % F.P)) ((cN F.P (n % F.P) n + 1 : Nat) : Int), t := M.t + 1 } ∧ Chg ((ab, 182) :: (F.rb (n % F.P) q, 151) :: ML F.mb F.cb F.lb) h1 h2) (mb := F.mb) A rfl (tell.mono ?_)).mono ?_
  · rintro r h2 ⟨rfl, a2, r2, m2, c2⟩
    exact ⟨rfl, _, _, rfl, rfl, a2, r2, rfl, rfl, m2, c2⟩
  rintro r h3 ⟨rfl, A', R', h2, ⟨rfl, rfl, m2, c2⟩, a3, r3, c3⟩
  have c13 := c2.trans (c3.mono (l' := (ab, 182) :: (F.rb (n % F.P) q, 151) :: ML F.mb F.cb F.lb) (by intro p hp; simp at hp; rcases hp with rfl | rfl <;> simp))
  have m3 := m2.chg c3 (by simp) (by simp) (by simp)
  have Q3 : MemQ h3 B F q v { M with cells := M.cells.set (bs F.b0 F.P F.S q (n % F.P)) ((cN F.P (n % F.P) n + 1 : Nat) : Int), t := M.t + 1 } (n + 1) 0 noB noB := by
    refine Q.updP c13 (by simp [ML, TyP]) m3 (Q.cells.tell hP Q.hq (by have := S.fit; omega) hcell) (fun j hj => ?_) (Nat.zero_le _) (List.length_set ..)
    by_cases e' : j = n % F.P
    · subst e'
      rw [cN_succ hm, if_pos rfl]
      have e2 : (cN F.P (n % F.P) n + 1) % F.S = (cN F.P (n % F.P) n % F.S + 1) % F.S := by rw [Nat.mod_add_mod]
      rw [e2]
      exact r3
    · have hne : F.rb j q ≠ F.rb (n % F.P) q := fun g => e' (Q.inj j _ hj hm g)
      have := c13.blk (Q.rings j hj) (by simp [hne, ML])
      rw [cN_succ hj, if_neg e', Nat.add_zero]
      rw [show (j == n % F.P) = false from beq_eq_false_iff_ne.2 e'] at this
      exact this
  have raw3 := c13.blk raw (by simp [ML])
  have ol3 := ol.chg c13 (fun b _ => by simp [ML])
  have hw : IntKind.i64.wrap (((n + 1 : Nat) : Int) - 1) = (n : Int) := by rw [wrap_i64 (by omega) (by omega)]; omega
  refine ⟨Unit, fun _ => [(0, .pointer (some ⟨xb, 0, none⟩)), (8, .pointer (some ⟨lb, n * 19, none⟩))], fun _ h' => h' = h3, ?_, ?_⟩
  · repeat (first | refine ⟨_, cell_blk (raw3) rfl, ?_⟩)
    refine ⟨⟨lb, 0, none⟩, rfl, ?_, ?_, ?_⟩
    · rw [hw]; omega
    · rw [hw]; show (n : Int) < ((n + 1 : Nat) : Int); omega
    refine ⟨(), ⟨rfl, ?_, trivial⟩, rfl⟩
    show some (Value.pointer (some ((⟨lb, 0, none⟩ : Addr).add ((IntKind.i64.wrap (((n + 1 : Nat) : Int) - 1)).toNat * 19)))) = _
    rw [hw, add_lit, Int.toNat_natCast, Nat.zero_add]
  rintro _ h4 rfl
  have ad : ∀ j, (⟨lb, n * 19, none⟩ : Addr).add j = ⟨lb, n * 19 + j, none⟩ := fun j => add_lit _ _ _
  repeat (first | refine ⟨_, cell_blk (raw3) rfl, ?_⟩)
  refine (rMark_spec a3).mono ?_
  rintro r h5 ⟨rfl, rfl⟩
  try (refine ⟨by ((repeat (first | refine ⟨cell_blk (raw3) rfl, ?_⟩)); exact trivial), ?_⟩)
  have hf := S.xf
  simp only at hf
  subst hf
  refine (cMem_spec Q3.fab).mono ?_
  rintro r h5 ⟨rfl, rfl⟩
  refine (mTime_spec Q3.mem).mono ?_
  rintro r h5 ⟨rfl, rfl⟩
  obtain ⟨q3, hb3⟩ := ol3.block
  obtain ⟨lb3, hlb3, _, cs3⟩ := ol3.canset encHe_len (i := n) (j := 2) (n := 1) (by omega) (by omega)
  cases hlb3
  refine ⟨rfl, rfl, ?_, fun h6 s6 => ?_⟩
  · show CanSet _ ((⟨lb, n * 19, none⟩ : Addr).add 2) 1
    rw [ad]; exact cs3
  have s6' : Stored _ ((⟨lb, n * 19, none⟩ : Addr).add 2) [.int .i64 ((M.t + 1 : Nat) : Int)] h6 := s6
  rw [ad] at s6'
  have o6 := ol3.put (x' := { E with mark := ((M.t + 1 : Nat) : Int) }) encHe_len rfl s6' hE (by show 2 + 1 ≤ 19; decide) rfl
  have c6 : Chg [(lb, 75)] _ h6 := s6'.chg hb3 (.head _)
  have hE6 : (l.set n { E with mark := ((M.t + 1 : Nat) : Int) })[n]? = some { E with mark := ((M.t + 1 : Nat) : Int) } := List.getElem?_set_self (by omega)
  obtain ⟨lb6, hlb6, _, cs6⟩ := o6.canset encHe_len (i := n) (j := 3) (n := 1) (by rw [List.length_set]; omega) (by omega)
  cases hlb6
  obtain ⟨q6, hb6⟩ := o6.block
  refine ⟨rfl, rfl, ?_, fun h7 s7 => ?_⟩
  · show CanSet _ ((⟨lb, n * 19, none⟩ : Addr).add 3) 1
    rw [ad]; exact cs6
  have s7' : Stored _ ((⟨lb, n * 19, none⟩ : Addr).add 3) [.int .i64 ((M.t + 1 : Nat) : Int)] h7 := s7
  rw [ad] at s7'
  have o7 := o6.put (x' := { E with mark := ((M.t + 1 : Nat) : Int), fin := ((M.t + 1 : Nat) : Int) }) encHe_len rfl s7' hE6 (by show 3 + 1 ≤ 19; decide) rfl
  rw [List.set_set] at o7
  have c7 : Chg [(lb, 75)] _ h7 := s7'.chg hb6 (.head _)
  have hE7 : (l.set n { E with mark := ((M.t + 1 : Nat) : Int), fin := ((M.t + 1 : Nat) : Int) })[n]? = some { E with mark := ((M.t + 1 : Nat) : Int), fin := ((M.t + 1 : Nat) : Int) } := List.getElem?_set_self (by omega)
  obtain ⟨lb7, hlb7, _, cs7⟩ := o7.canset encHe_len (i := n) (j := 18) (n := 1) (by rw [List.length_set]; omega) (by omega)
  cases hlb7
  obtain ⟨q7, hb7⟩ := o7.block
  have c67 := c6.trans c7
  have raw7 := c67.blk raw3 (by simp)
  have a7 := c67.blk a3 (by simp)
  repeat (first | refine ⟨_, cell_blk (raw7) rfl, ?_⟩)
  refine (rOk_spec a7).mono ?_
  rintro r h8 ⟨rfl, rfl⟩
  refine ⟨rfl, rfl, ?_, fun h9 s9 => ?_⟩
  · show CanSet _ ((⟨lb, n * 19, none⟩ : Addr).add 18) 1
    rw [ad]; exact cs7
  have s9' : Stored _ ((⟨lb, n * 19, none⟩ : Addr).add 18) [.int .i64 1] h9 := s9
  rw [ad] at s9'
  have o9 := o7.put (x' := { E with mark := ((M.t + 1 : Nat) : Int), fin := ((M.t + 1 : Nat) : Int), ans := 1 }) encHe_len rfl s9' hE7 (by show 18 + 1 ≤ 19; decide) rfl
  have c9 : Chg [(lb, 75)] _ h9 := s9'.chg hb7 (.head _)
  have c39 := c67.trans c9
  have raw9 := c39.blk raw3 (by simp)
  refine ⟨rfl, rfl, canset_blk raw9 rfl, fun h10 s10 => ?_⟩
  have raw10 : PtRaw h10 xb ⟨F.fb, lA, ln, lc, at_, none, some ⟨lb, 0, none⟩, n + 1, gc, id⟩ := s10.put raw9
  have c10 : Chg [(xb, 41)] h9 h10 := s10.chg raw9 (.head _)
  have cc : Chg [(lb, 75), (xb, 41)] _ h10 := (c39.mono (by simp)).trans (c10.mono (by simp))
  have Q10 := Q3.chgP cc (by simp [TyP]) (by simp) (by simp) (by simp) (by simp)
  obtain ⟨pl, opl, hpl, hok⟩ := S.puts
  have g13 := c13.size
  refine ⟨rfl, ⟨_, { M with cells := M.cells.set (bs F.b0 F.P F.S q (n % F.P)) ((cN F.P (n % F.P) n + 1 : Nat) : Int), t := M.t + 1 }, hlk, by show M.t + 1 = T + 1; omega, by omega, ⟨raw10, rfl, S.xa, S.xn, rfl, rfl, ⟨pl, (opl.chg c13 (fun b _ => by simp [ML])).chg cc (fun b _ => by simp), hpl, hok⟩, ⟨_, o9.chg c10 (fun b _ => by simp), by rw [List.set_set, List.length_set]; exact hll⟩, Q10, S.b1, Nat.le_trans S.hB (Nat.le_trans g13 cc.size), S.n30, S.fit, S.vs⟩⟩, (c13.chgT S.hB fun p hp => ?_).trans (cc.chgT (Nat.le_trans S.hB g13) fun p hp => ?_)⟩
  · simp [ML] at hp
    rcases hp with rfl | rfl | rfl | rfl | rfl
    · exact ⟨gab, by simp [TyP]⟩
    · exact ⟨Q.b4 _ hm, by simp [TyP]⟩
    · exact ⟨Q.b1, by simp [TyP]⟩
    · exact ⟨Q.b2, by simp [TyP]⟩
    · exact ⟨Q.b3, by simp [TyP]⟩
  · simp at hp
    rcases hp with rfl | rfl
    · exact ⟨glb, by simp [TyP]⟩
    · exact ⟨S.b1, by simp [TyP]⟩
end
end Go.Proofs.YthoikbogkhpciaaGreatE
