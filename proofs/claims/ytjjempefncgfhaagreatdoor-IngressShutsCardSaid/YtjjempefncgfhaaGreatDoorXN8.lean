/- A plan as the program has it; a new model. Conditions: the arguments are of their types. -/
import Derived.Test.YtjjempefncgfhaaGreatDoorXN7
import Derived.Test.YtjjempefncgfhaaGreatDoorXB6
set_option linter.unusedVariables false
set_option linter.unusedSimpArgs false
set_option maxRecDepth 100000
namespace Go.Proofs.YtjjempefncgfhaaGreatDoorE
open Go Go.Proofs
def env_l17To : Nat → Ann
  | 1 => ⟨.op 0 [] <| .op 1 [] <| .op 2 [] <| .op 3 [] <| .op 5 [] <| .op 6 [] <| .op 8 [] <| .op 9 [] <| .op 10 [] <| .op 11 [] <| .op 12 [] <| .op 13 [] <| .op 14 [] <| .op 15 [] <| .alt (.op 4 [1, 6, 9, 11, 13, 15] <| .alt (.op 7 [1, 9, 11, 13, 15] <| .op 16 [] <| .op 17 [1, 3, 6, 9, 11, 13, 15] <| .op 18 [] <| .nil) (.op 17 [1, 3, 6, 9, 11, 13, 15] <| .op 7 [1, 9, 11, 13, 15] <| .op 16 [] <| .op 18 [] <| .nil)) (.op 17 [1, 3, 6, 9, 11, 13, 15] <| .op 4 [1, 6, 9, 11, 13, 15] <| .op 7 [1, 9, 11, 13, 15] <| .op 16 [] <| .op 18 [] <| .nil), [0, 1, 0, 4, 12, 0, 32, 124, 0, 256, 0, 1024, 0, 4096, 0, 16384, 65535, 0, 262143], false⟩
  | 2 => ⟨.nil, [], true⟩
  | 5 => ⟨.op 0 [] <| .op 1 [] <| .op 2 [] <| .op 3 [] <| .op 4 [] <| .op 5 [] <| .op 6 [] <| .op 7 [] <| .op 8 [] <| .op 9 [] <| .op 10 [] <| .op 11 [] <| .op 12 [] <| .op 13 [] <| .op 14 [] <| .op 15 [1] <| .op 16 [] <| .op 17 [] <| .op 18 [] <| .nil, [0, 1, 0, 4, 0, 28, 60, 124, 0, 256, 0, 1792, 3840, 7936, 16380, 32764, 65535, 131071, 262143], false⟩
  | _ => ⟨.nil, [], false⟩
def env_l17Op : Nat → Ann
  | 1 => ⟨.op 0 [] <| .op 1 [] <| .op 2 [] <| .op 3 [] <| .op 4 [] <| .op 5 [] <| .op 6 [] <| .op 7 [] <| .op 8 [] <| .op 9 [] <| .op 10 [] <| .op 11 [] <| .op 13 [] <| .op 14 [] <| .op 15 [] <| .op 16 [] <| .op 17 [] <| .op 18 [] <| .op 19 [] <| .op 20 [] <| .op 21 [] <| .op 22 [] <| .op 23 [] <| .op 24 [] <| .op 25 [] <| .op 26 [] <| .op 12 [1, 3, 5, 7, 9, 14, 16, 18, 20, 22, 24, 26] <| .op 27 [] <| .op 28 [] <| .nil, [0, 1, 0, 4, 0, 16, 0, 64, 0, 256, 0, 1024, 3072, 0, 8192, 0, 32768, 0, 131072, 0, 524288, 0, 2097152, 0, 8388608, 0, 33554432, 134217727, 268435455], false⟩
  | _ => ⟨.nil, [], false⟩
section
variable {h : Heap}
theorem l17To_spec {A B : Option Addr} {na ca nb cb : Nat} {rules : List Ru} {vls : List Vl} {ports tries ring normal short : Int} {s : Sz} (hra : Row encRu 2 h A rules) (hla : rules.length = na) (hrb : Row encVl 3 h B vls) (hlb : vls.length = nb) (hn : na ≤ 1000000) (hn2 : nb ≤ 1000000) :
    HCalls Tryz.prog 42 #[.agg (planV ports (.slice A na ca) (.slice B nb cb) s tries ring normal short).toArray] h (fun v h' => ∃ A' c' B' d', v = .agg (planV ports (.slice A' na c') (.slice B' nb d') s tries ring normal short).toArray ∧ OwnA encRu 2 221 h.size h' A' c' rules ∧ OwnA encVl 3 165 h.size h' B' d' vls ∧ Ext h h') := by
  subst hla hlb
  refine xcalls env_l17To Tryz.func42 rfl (by kernel_rfl) rfl (by kernel_rfl) ?_
  intro ib h1 n1 rb h2 n2
  have hib : h2[ib]? = some (.cells (planV ports (.slice A rules.length ca) (.slice B vls.length cb) s tries ring normal short).toArray 28 (0, 0)) := n2.ext.blk n1.this
  have hrb2 : h2[rb]? = some (.cells (planV 0 (.slice none 0 0) (.slice none 0 0) ⟨0, 0, 0⟩ 0 0 0 0).toArray 128 (0, 0)) := n2.this
  have x02 := n1.ext.trans n2.ext
  refine ⟨Nat × Option Addr × Nat, fun z => [(1, .pointer (some ⟨ib, 0, none⟩)), (2, .pointer (some ⟨rb, 0, none⟩)), (3, .pointer (some ⟨z.1, 0, none⟩))], fun z h' => h2.size ≤ z.1 ∧ h'[z.1]? = some (.cells (planV ports (.slice none 0 0) (.slice z.2.1 vls.length z.2.2) s tries ring normal short).toArray 128 (0, 0)) ∧ OwnA encVl 3 165 h2.size h' z.2.1 z.2.2 vls ∧ Ext h2 h', ?_, ?_⟩
  · refine ⟨_, cell_blk hib rfl, _, cell_blk hib rfl, [.int .i64 s.sh, .int .i64 s.bk, .int .i64 s.sl], rfl, reads_at hib rfl, _, cell_blk hib rfl, _, cell_blk hib rfl, _, cell_blk hib rfl, _, cell_blk hib rfl, ?_, ?_⟩
    · refine (l3To_spec ((x02.trans (Ext.refl h2)).row hrb) rfl hn2).mono ?_
      rintro v h3 ⟨B', d', rfl, ov, y3⟩
      have z3 := (Ext.refl h2).trans y3
      have own3 : OwnA encVl 3 165 h2.size h3 B' d' vls := ov.mono (Ext.refl h2).size
      have b3 := z3.blk hib
      refine ⟨⟨cell_blk b3 rfl, cell_blk b3 rfl, cell_blk b3 rfl, cell_blk b3 rfl, reads_at b3 rfl, cell_blk b3 rfl, trivial⟩, ?_, ?_⟩
      · refine (lSize_spec s _).mono ?_
        rintro v h4 ⟨rfl, y4⟩
        have z4 := z3.trans y4
        have own4 := own3.ext y4
        have b4 := z4.blk hib
        refine ⟨⟨cell_blk b4 rfl, cell_blk b4 rfl, cell_blk b4 rfl, cell_blk b4 rfl, cell_blk b4 rfl, trivial⟩, ?_⟩
        intro ob h5 m5
        have y5 := m5.ext
        have z5 := z4.trans y5
        have own5 := own4.ext y5
        have ob5 := m5.this
        have og : h2.size ≤ ob := m5.ge z4
        have b5 := z5.blk hib
        refine ⟨⟨cell_blk b5 rfl, cell_blk b5 rfl, cell_blk b5 rfl, cell_blk b5 rfl, reads_at b5 rfl, cell_blk b5 rfl, cell_blk b5 rfl, trivial⟩, ?_⟩
        refine ⟨rfl, rfl, canset_blk ob5 rfl, fun h9 s9 => ?_⟩
        have ob9 : h9[ob]? = some (.cells (planV ports (.slice none 0 0) (.slice B' vls.length d') s tries ring normal short).toArray 128 (0, 0)) := s9.put ob5
        have ob9n : ∀ b, B' = some ⟨b, 0, none⟩ → b ≠ ob := by
          rintro b rfl rfl
          obtain ⟨cx, hx⟩ := own_blk own5
          have e := ty_eq hx ob5
          revert e; decide
        exact ⟨(ob, B', d'), ⟨rfl, rfl, rfl, trivial⟩, og, ob9, own5.other s9 ob9n, z5.stored s9 og⟩
      · intro ob h4 m4
        have y4 := m4.ext
        have z4 := z3.trans y4
        have own4 := own3.ext y4
        have ob4 := m4.this
        have og : h2.size ≤ ob := m4.ge z3
        have b4 := z4.blk hib
        refine ⟨⟨cell_blk b4 rfl, cell_blk b4 rfl, cell_blk b4 rfl, cell_blk b4 rfl, reads_at b4 rfl, cell_blk b4 rfl, cell_blk b4 rfl, trivial⟩, ?_⟩
        refine (lSize_spec s _).mono ?_
        rintro v h5 ⟨rfl, y5⟩
        have z5 := z4.trans y5
        have own5 := own4.ext y5
        have ob5 := y5.blk ob4
        have b5 := z5.blk hib
        refine ⟨⟨cell_blk b5 rfl, cell_blk b5 rfl, cell_blk b5 rfl, cell_blk b5 rfl, cell_blk b5 rfl, trivial⟩, ?_⟩
        refine ⟨rfl, rfl, canset_blk ob5 rfl, fun h9 s9 => ?_⟩
        have ob9 : h9[ob]? = some (.cells (planV ports (.slice none 0 0) (.slice B' vls.length d') s tries ring normal short).toArray 128 (0, 0)) := s9.put ob5
        have ob9n : ∀ b, B' = some ⟨b, 0, none⟩ → b ≠ ob := by
          rintro b rfl rfl
          obtain ⟨cx, hx⟩ := own_blk own5
          have e := ty_eq hx ob5
          revert e; decide
        exact ⟨(ob, B', d'), ⟨rfl, rfl, rfl, trivial⟩, og, ob9, own5.other s9 ob9n, z5.stored s9 og⟩
    · intro ob h3 m3
      have y3 := m3.ext
      have z3 := (Ext.refl h2).trans y3
      have ob3 := m3.this
      have og : h2.size ≤ ob := m3.ge (Ext.refl h2)
      have b3 := z3.blk hib
      refine ⟨⟨cell_blk b3 rfl, cell_blk b3 rfl, cell_blk b3 rfl, cell_blk b3 rfl, reads_at b3 rfl, cell_blk b3 rfl, cell_blk b3 rfl, trivial⟩, ?_⟩
      refine (l3To_spec ((x02.trans z3).row hrb) rfl hn2).mono ?_
      rintro v h4 ⟨B', d', rfl, ov, y4⟩
      have z4 := z3.trans y4
      have own4 : OwnA encVl 3 165 h2.size h4 B' d' vls := ov.mono z3.size
      have ob4 := y4.blk ob3
      have b4 := z4.blk hib
      refine ⟨⟨cell_blk b4 rfl, cell_blk b4 rfl, cell_blk b4 rfl, cell_blk b4 rfl, reads_at b4 rfl, cell_blk b4 rfl, trivial⟩, ?_⟩
      refine (lSize_spec s _).mono ?_
      rintro v h5 ⟨rfl, y5⟩
      have z5 := z4.trans y5
      have own5 := own4.ext y5
      have ob5 := y5.blk ob4
      have b5 := z5.blk hib
      refine ⟨⟨cell_blk b5 rfl, cell_blk b5 rfl, cell_blk b5 rfl, cell_blk b5 rfl, cell_blk b5 rfl, trivial⟩, ?_⟩
      refine ⟨rfl, rfl, canset_blk ob5 rfl, fun h9 s9 => ?_⟩
      have ob9 : h9[ob]? = some (.cells (planV ports (.slice none 0 0) (.slice B' vls.length d') s tries ring normal short).toArray 128 (0, 0)) := s9.put ob5
      have ob9n : ∀ b, B' = some ⟨b, 0, none⟩ → b ≠ ob := by
        rintro b rfl rfl
        obtain ⟨cx, hx⟩ := own_blk own5
        have e := ty_eq hx ob5
        revert e; decide
      exact ⟨(ob, B', d'), ⟨rfl, rfl, rfl, trivial⟩, og, ob9, own5.other s9 ob9n, z5.stored s9 og⟩
  rintro ⟨ob, E, e⟩ h3 ⟨obg, hob3, ownv3, x23⟩
  simp only at obg hob3 ownv3
  refine ⟨Nat × Option Addr × Nat, fun z => [(1, .pointer (some ⟨ib, 0, none⟩)), (2, .pointer (some ⟨rb, 0, none⟩)), (3, .pointer (some ⟨ob, 0, none⟩)), (4, .int .i64 z.1)], fun z h' => z.1 ≤ rules.length ∧ h'[ob]? = some (.cells (planV ports (.slice z.2.1 z.1 z.2.2) (.slice E vls.length e) s tries ring normal short).toArray 128 (0, 0)) ∧ OwnA encRu 2 221 h2.size h' z.2.1 z.2.2 (rules.take z.1) ∧ OwnA encVl 3 165 h2.size h' E e vls ∧ Ext h2 h', fun z => rules.length - z.1, (0, none, 0), ⟨rfl, rfl, rfl, rfl, trivial⟩, ⟨Nat.zero_le _, hob3, .inl ⟨rfl, rfl, rfl⟩, ownv3, x23⟩, ?_⟩
  rintro ⟨i, C, d⟩ h4 ⟨hi, hob4, own4, ownv4, x24⟩
  simp only at hi hob4 own4
  have hib4 := x24.blk hib
  refine ⟨_, cell_blk hib4 rfl, ?_⟩
  refine xif_of (fun hlt => ?_) (fun hge => ?_)
  · have hlt : (i : Int) < rules.length := of_decide_eq_true hlt
    obtain ⟨r, hr⟩ : ∃ r, rules[i]? = some r := ⟨rules[i]'(by omega), List.getElem?_eq_getElem (by omega)⟩
    obtain ⟨a, rfl, hrd⟩ := ((x02.trans x24).row hra) i r hr
    have q0 : (0 : Int) ≤ i := by omega
    refine ⟨_, cell_blk hob4 rfl, _, cell_blk hib4 rfl, _, rfl, q0, hlt, _, hrd.get 0 rfl, _, cell_blk hib4 rfl, _, rfl, q0, hlt, _, hrd.get 1 rfl, ?_⟩
    intro sb h5 n5
    refine ⟨⟨n5.ext.cell (cell_blk hob4 rfl), trivial⟩, ?_⟩
    refine xappend_one (enc := encRu) (x := r) ruInfo ruZero rfl (by decide) encRu_len encRu_one own4 n5 (by simp; omega) (by omega) x24.size fun A' c' h6 o6 k6 => ?_
    rw [take_next hr] at o6
    have hne : C ≠ some ⟨ob, 0, none⟩ := by
      rintro rfl
      obtain ⟨cx, hx⟩ := own_blk own4
      have e := ty_eq hx hob4
      revert e; decide
    have hob6 := k6.blk hob4 hne
    have x26 := k6.ext x24 own4.ge
    have ownv6 : OwnA encVl 3 165 h2.size h6 E e vls := by
      refine ownv4.fr (k6.fr' (X := fun b => C = some ⟨b, 0, none⟩) fun b hb => hb) ?_
      rintro b rfl rfl
      obtain ⟨cx, hx⟩ := own_blk own4
      obtain ⟨cy, hy⟩ := own_blk ownv4
      have e := ty_eq hx hy
      revert e; decide
    refine ⟨rfl, rfl, canset_blk hob6 rfl, fun h7 s7 => ?_⟩
    have hne6 : ∀ b, A' = some ⟨b, 0, none⟩ → b ≠ ob := by
      rintro b rfl rfl
      obtain ⟨cx, hx⟩ := own_blk o6
      have e := ty_eq hx hob6
      revert e; decide
    have hneV : ∀ b, E = some ⟨b, 0, none⟩ → b ≠ ob := by
      rintro b rfl rfl
      obtain ⟨cx, hx⟩ := own_blk ownv6
      have e := ty_eq hx hob6
      revert e; decide
    have hob7 : h7[ob]? = some (.cells (planV ports (.slice A' (i + 1) c') (.slice E vls.length e) s tries ring normal short).toArray 128 (0, 0)) := s7.put hob6
    exact ⟨(i + 1, A', c'), ⟨rfl, rfl, rfl, slot_inc (by omega), trivial⟩, ⟨by show i + 1 ≤ rules.length; omega, hob7, o6.other s7 hne6, ownv6.other s7 hneV, x26.stored s7 obg⟩, by show rules.length - (i + 1) < rules.length - i; omega⟩
  · have hge : ¬ (i : Int) < rules.length := of_decide_eq_false hge
    have : i = rules.length := by omega
    subst this
    rw [List.take_length] at own4
    have hrb4 := x24.blk hrb2
    have rbg : h.size ≤ rb := n2.ge n1.ext
    have rlt : rb < h2.size := blk_lt hrb2
    refine ⟨_, rfl, reads_all hob4, rfl, rfl, canset_blk hrb4 rfl, fun h5 s5 => ?_⟩
    have hrb5 : h5[rb]? = some (.cells (planV ports (.slice C rules.length d) (.slice E vls.length e) s tries ring normal short).toArray 128 (0, 0)) := s5.put hrb4
    have oR := own4.other s5 fun b hb => by have := own4.ge b hb; intro e; subst e; omega
    have oV := ownv4.other s5 fun b hb => by have := ownv4.ge b hb; intro e; subst e; omega
    exact ⟨_, rfl, reads_all hrb5, C, d, E, e, rfl, oR.mono x02.size, oV.mono x02.size, (x02.trans x24).stored s5 rbg⟩
set_option maxHeartbeats 4000000 in
end
end Go.Proofs.YtjjempefncgfhaaGreatDoorE
/- An Op as the program has it. Conditions: the arguments are of their types. -/
set_option linter.unusedVariables false
set_option linter.unusedSimpArgs false
set_option maxRecDepth 100000
namespace Go.Proofs.YtjjempefncgfhaaGreatDoorE
open Go Go.Proofs
section
variable {h : Heap}
set_option maxHeartbeats 1000000 in
theorem l17Op_spec (o : Op17) : HCalls Tryz.prog 29 #[.agg (encO17 o).toArray] h (fun v h' => v = .agg (encO17 o).toArray ∧ Ext h h') := by
  refine xcalls env_l17Op Tryz.func29 rfl (by kernel_rfl) rfl (by kernel_rfl) ?_
  intro ib h1 n1 rb h2 n2
  have hib : h2[ib]? = some (.cells (encO17 o).toArray 56 (0, 0)) := n2.ext.blk n1.this
  have x02 := n1.ext.trans n2.ext
  refine ⟨_, cell_blk hib rfl, _, cell_blk hib rfl, _, cell_blk hib rfl, _, cell_blk hib rfl, _, cell_blk hib rfl, [.int .i64 o.kvid, .int .u64 o.mac], rfl, reads_at hib rfl, _, cell_blk hib rfl, _, cell_blk hib rfl, _, cell_blk hib rfl, _, cell_blk hib rfl, _, cell_blk hib rfl, _, cell_blk hib rfl, _, cell_blk hib rfl, ?_⟩
  refine (l8To_spec _ _ _).mono ?_
  rintro v h3 ⟨rfl, x3⟩
  have b3 := x3.blk hib
  refine ⟨⟨cell_blk b3 rfl, cell_blk b3 rfl, cell_blk b3 rfl, cell_blk b3 rfl, cell_blk b3 rfl, cell_blk b3 rfl, cell_blk b3 rfl, cell_blk b3 rfl, cell_blk b3 rfl, cell_blk b3 rfl, cell_blk b3 rfl, cell_blk b3 rfl, trivial⟩, ?_⟩
  have r3 := x3.blk n2.this
  refine ⟨rfl, rfl, canset_blk r3 rfl, fun h4 s4 => ?_⟩
  have hr : h4[rb]? = some (.cells (encO17 o).toArray 107 (0, 0)) := s4.put r3
  exact ⟨_, rfl, reads_all hr, rfl, (x02.trans x3).stored s4 (n2.ge n1.ext)⟩
end
end Go.Proofs.YtjjempefncgfhaaGreatDoorE
