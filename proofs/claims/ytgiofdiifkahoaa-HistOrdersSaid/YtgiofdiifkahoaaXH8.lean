/- What the law HistOrders answers: yes. Conditions: the arguments are of their types. -/
import Derived.Test.YtgiofdiifkahoaaXH7
set_option linter.unusedVariables false
set_option linter.unusedSimpArgs false
set_option maxRecDepth 100000
namespace Go.Proofs.YtgiofdiifkahoaaE
open Go Go.Proofs
def env_lHOrders : Nat → Ann
  | 12 => ⟨.op 0 [] <| .op 1 [] <| .op 2 [] <| .op 3 [] <| .op 4 [] <| .op 5 [] <| .op 6 [] <| .op 7 [] <| .op 8 [] <| .op 9 [] <| .op 10 [] <| .op 11 [] <| .op 12 [] <| .op 13 [] <| .op 14 [] <| .op 15 [] <| .op 16 [] <| .op 17 [] <| .op 18 [] <| .op 19 [] <| .op 20 [] <| .op 21 [] <| .op 22 [] <| .op 23 [] <| .op 24 [] <| .op 25 [] <| .op 26 [] <| .op 27 [] <| .op 28 [] <| .op 29 [] <| .op 30 [] <| .op 31 [] <| .op 32 [] <| .op 33 [] <| .op 34 [] <| .op 35 [] <| .op 36 [] <| .op 37 [] <| .op 38 [] <| .op 39 [] <| .op 40 [] <| .op 41 [] <| .op 42 [] <| .op 43 [] <| .op 44 [] <| .op 45 [] <| .op 46 [] <| .op 47 [] <| .op 48 [] <| .op 49 [] <| .op 50 [] <| .op 51 [] <| .op 52 [] <| .op 53 [] <| .op 54 [] <| .op 55 [] <| .op 56 [] <| .op 57 [] <| .op 58 [] <| .op 59 [] <| .op 60 [] <| .op 61 [] <| .op 62 [] <| .op 63 [] <| .op 64 [] <| .op 65 [] <| .op 66 [] <| .op 67 [] <| .op 68 [] <| .op 69 [] <| .op 70 [] <| .op 71 [] <| .op 72 [] <| .op 73 [] <| .op 74 [] <| .op 75 [] <| .op 76 [] <| .op 77 [] <| .op 78 [] <| .op 79 [] <| .op 80 [] <| .nil, [0, 0, 3, 7, 15, 31, 63, 63, 255, 511, 63, 1087, 4095, 8191, 16383, 32767, 32767, 32767, 229375, 491519, 1048575, 2097151, 4194303, 8388607, 16777215, 33554431, 67108863, 134217727, 268435455, 536870911, 536870911, 536870911, 3758096383, 8053063679, 17179869183, 34359738367, 68719476735, 536870911, 536870911, 536870911, 550292684799, 1924682219519, 4123705475071, 8659190939647, 17455283961855, 35047470006271, 70368744177663, 140737488355327, 281474976710655, 281474976710655, 281474976710655, 1970324836974591, 4222124650659839, 9007199254740991, 18014398509481983, 36028797018963967, 281474976710655, 281474976710655, 281474976710655, 288511851128422399, 1009087791507701759, 2162009296114548735, 4539909899366170623, 9151595917793558527, 18374967954648334335, 36893488147419103231, 73786976294838206463, 147573952589676412927, 147573952589676412927, 590295810358705651711, 1180591620717411303423, 147573952589676412927, 147573952589676412927, 4869940435459321626623, 16675856642633434660863, 35565322574112015515647, 75557863725914323419135, 151115727451828646838271, 302231454903657293676543, 604462909807314587353087, 1208925819614629174706175], false⟩
  | _ => ⟨.nil, [], false⟩
section
variable {h : Heap}
theorem lHOrders_spec {A : Option Addr} {na ca : Nat} {l0 : List He} (hr0 : Row encHe 19 h A l0) (hl0 : l0.length = na) (hc : na ≤ ca) :
    HCalls Try.prog 7 #[.slice A na ca] h (fun v h' => v = .bool true ∧ Ext h h') := by
  refine xcalls env_lHOrders Try.func7 rfl (by kernel_rfl) rfl (by kernel_rfl) ?_
  refine (l18Few_spec hl0 hc).mono ?_
  rintro v h1 ⟨B, c, rfl, hcc, hrow, rfl⟩
  have hr := hrow _ hr0
  have hn : (l0.take 80).length ≤ 80 := by rw [List.length_take]; omega
  generalize l0.take 80 = l at *
  obtain ⟨n, hln⟩ : ∃ n, l.length = n := ⟨_, rfl⟩
  rw [hln] at hn hcc ⊢
  refine (l18To_spec hr hln (by omega)).mono ?_
  rintro v h2 ⟨A2, c2, rfl, o2, x2⟩
  refine (hOrder_spec (o2.row encHe_len) hln (by omega)).mono ?_
  rintro v h3 ⟨A3, c3, O, rfl, hO, oO, x3⟩
  have x13 := x2.trans x3
  have hr3 := x13.row hr
  have hplen := plcN_len l n
  refine ⟨Nat, fun i => [(0, .slice B n c), (3, .slice A3 O.length c3), (4, .int .i64 ((plcN l i).length : Nat)), (5, .int .i64 i)], fun i h' => i ≤ n ∧ h' = h3, fun i => n - i, 0, ⟨rfl, rfl, rfl, rfl, trivial⟩, ⟨Nat.zero_le _, rfl⟩, ?_⟩
  rintro i h4 ⟨hi, rfl⟩
  refine xif_of (fun hlt => ?_) (fun hge => ?_)
  · have hlt : (i : Int) < n := of_decide_eq_true hlt
    obtain ⟨e, he⟩ : ∃ e, l[i]? = some e := ⟨l[i]'(by omega), List.getElem?_eq_getElem (by omega)⟩
    obtain ⟨a, hA, hrd⟩ := hr3 i e he
    have m1 := mkI_at he
    have hpi := plcN_len l i
    refine ⟨a, hA, by omega, hlt, _, hrd.get 2 rfl, ?_⟩
    refine xif_of (fun q => ?_) (fun q => ?_)
    · have q : e.mark > 0 := of_decide_eq_true q
      have ep : (plcN l (i + 1)).length = (plcN l i).length + 1 := by rw [plcN, m1, if_pos q, List.length_append]; rfl
      exact ⟨i + 1, ⟨rfl, rfl, congrArg (fun x => some (Value.int .i64 x)) (by rw [ep]; rw [wrap_i64 (by omega) (by omega)]; omega), slot_inc (by omega), trivial⟩, ⟨by omega, rfl⟩, by show n - (i + 1) < n - i; omega⟩
    · have q : ¬ e.mark > 0 := of_decide_eq_false q
      have ep : (plcN l (i + 1)).length = (plcN l i).length := by rw [plcN, m1, if_neg q, List.append_nil]
      exact ⟨i + 1, ⟨rfl, rfl, congrArg (fun x : Nat => some (Value.int .i64 (x : Int))) ep.symm, slot_inc (by omega), trivial⟩, ⟨by omega, rfl⟩, by show n - (i + 1) < n - i; omega⟩
  have hge : ¬ (i : Int) < n := of_decide_eq_false hge
  obtain rfl : i = n := by omega
  have hOl := hO.perm.length_eq
  refine ⟨Nat, fun j => [(0, .slice B i c), (3, .slice A3 O.length c3), (4, .int .i64 ((plcN l i).length : Nat)), (6, .int .i64 j)], fun j h' => j ≤ O.length ∧ h' = h4, fun j => O.length - j, 0, ⟨rfl, rfl, rfl, rfl, trivial⟩, ⟨Nat.zero_le _, rfl⟩, ?_⟩
  rintro j h5 ⟨hj, rfl⟩
  refine xif_of (fun hlt => ?_) (fun hge => ?_)
  rotate_left
  · refine told18_spec.mono ?_
    rintro v h6 ⟨rfl, x6⟩
    exact ⟨congrArg Value.bool (by simp; omega), x13.trans x6⟩
  have hlt : (j : Int) < O.length := of_decide_eq_true hlt
  have j0 : (0 : Int) ≤ j := by omega
  have rO := oO.row encI_len
  obtain ⟨x, hx⟩ : ∃ x, O[j]? = some x := ⟨O[j]'(by omega), List.getElem?_eq_getElem (by omega)⟩
  obtain ⟨a1, hA1, r1⟩ := rO j x hx
  have c1 := r1.get 0 (v := .int .i64 x) rfl
  rw [add_zero'] at c1
  obtain ⟨x0, x1, x2'⟩ := hO.mem (List.mem_of_getElem? hx)
  obtain ⟨k, rfl⟩ : ∃ k : Nat, x = k := ⟨x.toNat, (Int.toNat_of_nonneg x0).symm⟩
  obtain ⟨e, he⟩ : ∃ e, l[k]? = some e := ⟨l[k]'(by omega), List.getElem?_eq_getElem (by omega)⟩
  obtain ⟨a2, hA2, r2⟩ := hr3 k e he
  have m1 := mkI_at he
  refine ⟨a1, hA1, j0, hlt, _, c1, ?_⟩
  refine ⟨a1, hA1, j0, hlt, _, c1, ?_⟩
  refine xif_of (fun q => absurd (show (k : Int) ≥ (i : Int) from of_decide_eq_true q) (by omega)) (fun _ => ?_)
  refine ⟨a1, hA1, j0, hlt, _, c1, a2, hA2, x0, x1, _, r2.get 2 rfl, ?_⟩
  refine xif_of (fun q => absurd (show e.mark ≤ 0 from of_decide_eq_true q) (by omega)) (fun _ => ?_)
  refine xif_of (fun q => ?_) (fun q => ?_)
  rotate_left
  · exact ⟨j + 1, ⟨rfl, rfl, rfl, slot_inc (by omega), trivial⟩, ⟨by omega, rfl⟩, by show O.length - (j + 1) < O.length - j; omega⟩
  have q : (j : Int) > 0 := of_decide_eq_true q
  have ej : IntKind.i64.wrap ((j : Int) - 1) = ((j - 1 : Nat) : Int) := by rw [wrap_i64 (by omega) (by omega)]; omega
  obtain ⟨y, hy⟩ : ∃ y, O[j - 1]? = some y := ⟨O[j - 1]'(by omega), List.getElem?_eq_getElem (by omega)⟩
  obtain ⟨a3, hA3, r3⟩ := rO (j - 1) y hy
  have c3' : cell h5 (a3.add ((IntKind.i64.wrap ((j : Int) - 1)).toNat * 1)) = some (.int .i64 y) := by
    have := r3.get 0 (v := .int .i64 y) rfl
    rw [add_zero'] at this
    rw [ej, Int.toNat_natCast]; exact this
  obtain ⟨y0, y1, y2⟩ := hO.mem (List.mem_of_getElem? hy)
  obtain ⟨k2, rfl⟩ : ∃ k : Nat, y = k := ⟨y.toNat, (Int.toNat_of_nonneg y0).symm⟩
  obtain ⟨e2, he2⟩ : ∃ e, l[k2]? = some e := ⟨l[k2]'(by omega), List.getElem?_eq_getElem (by omega)⟩
  obtain ⟨a4, hA4, r4⟩ := hr3 k2 e2 he2
  have m2 := mkI_at he2
  have hlx := pw_at hO.sorted hy hx (by omega)
  have hcmp : e2.mark < e.mark ∨ (¬ e.mark < e2.mark ∧ k2 < k) := by
    rcases hlx with u | ⟨u, w⟩
    · left; unfold ltM at u; rw [m1, m2] at u; exact u
    · right; unfold ltM at u; rw [m1, m2] at u; unfold bfM at w; exact ⟨u, by omega⟩
  refine ⟨a1, hA1, j0, hlt, _, c1, a2, hA2, x0, x1, _, r2.get 2 rfl, a3, hA3, by rw [ej]; omega, by rw [ej]; omega, _, c3', a4, hA4, y0, y1, _, r4.get 2 rfl, ?_⟩
  refine xif_of (fun q => absurd (show e.mark < e2.mark from of_decide_eq_true q) (by omega)) (fun _ => ?_)
  refine ⟨a1, hA1, j0, hlt, _, c1, a2, hA2, x0, x1, _, r2.get 2 rfl, a3, hA3, by rw [ej]; omega, by rw [ej]; omega, _, c3', a4, hA4, y0, y1, _, r4.get 2 rfl, ?_⟩
  refine xif_of (fun q2 => ?_) (fun q2 => ?_)
  rotate_left
  · exact ⟨j + 1, ⟨rfl, rfl, rfl, slot_inc (by omega), trivial⟩, ⟨by omega, rfl⟩, by show O.length - (j + 1) < O.length - j; omega⟩
  have q2 : e.mark = e2.mark := by simpa using q2
  refine ⟨a1, hA1, j0, hlt, _, c1, a3, hA3, by rw [ej]; omega, by rw [ej]; omega, _, c3', ?_⟩
  refine xif_of (fun q => absurd (show (k : Int) ≤ (k2 : Int) from of_decide_eq_true q) (by omega)) (fun _ => ?_)
  exact ⟨j + 1, ⟨rfl, rfl, rfl, slot_inc (by omega), trivial⟩, ⟨by omega, rfl⟩, by show O.length - (j + 1) < O.length - j; omega⟩
end
end Go.Proofs.YtgiofdiifkahoaaE
