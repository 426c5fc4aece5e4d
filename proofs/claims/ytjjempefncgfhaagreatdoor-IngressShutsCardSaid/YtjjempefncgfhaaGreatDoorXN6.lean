/- A plan out of any one, as the document's answer makes it. Conditions: the arguments are of their types. -/
import Derived.Test.YtjjempefncgfhaaGreatDoorXN3
import Derived.Test.YtjjempefncgfhaaGreatDoorXB4
set_option linter.unusedVariables false
set_option linter.unusedSimpArgs false
set_option maxRecDepth 100000
namespace Go.Proofs.YtjjempefncgfhaaGreatDoorE
open Go Go.Proofs
def env_rPFix : Nat → Ann
  | 1 => ⟨.op 0 [] <| .op 1 [] <| .op 2 [] <| .op 3 [] <| .op 4 [] <| .op 5 [] <| .op 6 [] <| .op 7 [] <| .op 9 [] <| .op 10 [] <| .op 11 [] <| .op 12 [] <| .op 13 [] <| .op 14 [] <| .op 15 [] <| .op 16 [] <| .op 17 [] <| .op 18 [] <| .op 19 [] <| .op 20 [] <| .op 21 [] <| .op 22 [] <| .op 23 [] <| .op 24 [] <| .alt (.op 8 [1, 10, 16, 22, 24] <| .op 25 [] <| .op 26 [1, 7, 10, 16, 22, 24] <| .op 27 [] <| .nil) (.op 26 [1, 7, 10, 16, 22, 24] <| .op 8 [1, 10, 16, 22, 24] <| .op 25 [] <| .op 27 [] <| .nil), [0, 1, 3, 7, 15, 31, 0, 64, 192, 0, 512, 1536, 3584, 7680, 15872, 0, 32768, 98304, 229376, 491520, 1015808, 0, 2097152, 0, 8388608, 33554431, 0, 134217727], false⟩
  | 2 => ⟨.nil, [], true⟩
  | 7 => ⟨.op 0 [] <| .op 1 [] <| .op 2 [] <| .op 3 [] <| .op 4 [] <| .op 5 [] <| .op 6 [] <| .op 7 [] <| .op 8 [] <| .op 9 [] <| .op 10 [] <| .op 11 [] <| .op 12 [] <| .op 13 [] <| .op 14 [] <| .op 15 [] <| .op 16 [] <| .op 17 [] <| .op 18 [] <| .op 19 [] <| .op 20 [] <| .nil, [0, 1, 0, 7, 15, 31, 63, 127, 255, 511, 0, 1024, 0, 7168, 15360, 31744, 64512, 130048, 261120, 524287, 1048575], false⟩
  | 8 => ⟨.nil, [], true⟩
  | 9 => ⟨.nil, [], true⟩
  | 24 => ⟨.nil, [], true⟩
  | _ => ⟨.nil, [], false⟩
def planV (ports : Int) (r v : Value) (s : Sz) (tries ring normal short : Int) : List Value := [.int .i64 ports, r, v, .int .i64 s.sh, .int .i64 s.bk, .int .i64 s.sl, .int .i64 tries, .int .i64 ring, .int .u32 normal, .int .u32 short]
def fixRu (rules : List Ru) (i : Nat) : Ru := match rules[i]? with | some r => ⟨1 + r.pvid % 18446744073709551616 % 4094, r.acc % 18446744073709551616 % 3⟩ | none => ⟨1, 0⟩
def fixVl (all : Int) : List Vl → Int → List Vl
  | [], _ => []
  | v :: l, vid => ⟨vid + 1 + v.vid % 18446744073709551616 % 3, andM v.mem all, andM v.unt (andM v.mem all)⟩ :: fixVl all l (vid + 1 + v.vid % 18446744073709551616 % 3)
def fixPorts (n : Int) : Int := 2 + n % 18446744073709551616 % 7
def fixTries (n : Int) : Int := 1 + n % 18446744073709551616 % 8
def fixRing (n : Int) : Int := 1 + n % 18446744073709551616 % 64
theorem fixn_eq (p d k : Int) (hd : 1 ≤ d) (h2 : d ≤ 5000) (hk : 0 ≤ k) (hk2 : k ≤ 5000) : IntKind.i64.wrap (k + IntKind.i64.wrap ((IntKind.u64.wrap p).tmod d)) = k + p % 18446744073709551616 % d := by
  have h3 := Int.emod_lt_of_pos (p % 18446744073709551616) (show 0 < d by omega)
  have h4 := Int.emod_nonneg (p % 18446744073709551616) (show d ≠ 0 by omega)
  rw [IntKind.wrap_u64, Int.tmod_eq_emod_of_nonneg (by omega), wrap_i64 (x := p % 18446744073709551616 % d) (by omega) (by omega), wrap_i64 (by omega) (by omega)]
theorem modn_eq (p d : Int) (hd : 1 ≤ d) (h2 : d ≤ 5000) : IntKind.i64.wrap ((IntKind.u64.wrap p).tmod d) = p % 18446744073709551616 % d := by
  have h3 := Int.emod_lt_of_pos (p % 18446744073709551616) (show 0 < d by omega)
  have h4 := Int.emod_nonneg (p % 18446744073709551616) (show d ≠ 0 by omega)
  rw [IntKind.wrap_u64, Int.tmod_eq_emod_of_nonneg (by omega), wrap_i64 (x := p % 18446744073709551616 % d) (by omega) (by omega)]
section
variable {h : Heap}
theorem ruInfoR : (Tryz.prog.info? 117).map (fun i => (i.size, i.bytes)) = some (2, 16) := by kernel_rfl
theorem ruZeroR : xzero Tryz.prog 117 = some (encRu ⟨0, 0⟩) := by kernel_rfl
theorem vlInfoR : (Tryz.prog.info? 120).map (fun i => (i.size, i.bytes)) = some (3, 24) := by kernel_rfl
theorem vlZeroR : xzero Tryz.prog 120 = some (encVl ⟨0, 0, 0⟩) := by kernel_rfl
theorem rPFix_spec {A B : Option Addr} {na ca nb cb : Nat} {rules : List Ru} {vls : List Vl} {P tries ring normal short : Int} {s : Sz} (hra : Row encRu 2 h A rules) (hla : rules.length = na) (hrb : Row encVl 3 h B vls) (hlb : vls.length = nb) (wf : ∀ v ∈ vls, SetWf v.mem ∧ SetWf v.unt) :
    HCalls Tryz.prog 7 #[.agg (planV P (.slice A na ca) (.slice B nb cb) s tries ring normal short).toArray] h (fun v h' => ∃ A' c' B' d',
      v = .agg (planV (fixPorts P) (.slice A' (fixPorts P).toNat c') (.slice B' (fixVl (allM (fixPorts P)) (vls.take 8) 0).length d') (fixSz s) (fixTries tries) (fixRing ring) normal short).toArray ∧
      OwnA encRu 2 117 h.size h' A' c' ((List.range (fixPorts P).toNat).map (fixRu rules)) ∧ OwnA encVl 3 120 h.size h' B' d' (fixVl (allM (fixPorts P)) (vls.take 8) 0) ∧ Ext h h') := by
  subst hla hlb
  refine xcalls env_rPFix Tryz.func7 rfl (by kernel_rfl) rfl (by kernel_rfl) ?_
  intro ib h1 n1 rb h2 n2
  have hib2 : h2[ib]? = some (.cells (planV P (.slice A rules.length ca) (.slice B vls.length cb) s tries ring normal short).toArray 28 (0, 0)) := n2.ext.blk n1.this
  have x02 := n1.ext.trans n2.ext
  have hrb2 : h2[rb]? = some (.cells (planV 0 (.slice none 0 0) (.slice none 0 0) ⟨0, 0, 0⟩ 0 0 0 0).toArray 28 (0, 0)) := n2.this
  have ep := fixn_eq P 7 2 (by decide) (by decide) (by decide) (by decide)
  have et := fixn_eq tries 8 1 (by decide) (by decide) (by decide) (by decide)
  have er := fixn_eq ring 64 1 (by decide) (by decide) (by decide) (by decide)
  obtain ⟨N, hN⟩ : ∃ N, (fixPorts P).toNat = N := ⟨_, rfl⟩
  have hP : fixPorts P = (N : Int) := by rw [← hN]; unfold fixPorts; omega
  have hN8 : 2 ≤ N ∧ N ≤ 8 := by unfold fixPorts at hP; omega
  rw [hN]
  obtain ⟨T, hT⟩ : ∃ T, fixTries tries = T := ⟨_, rfl⟩
  obtain ⟨G, hG⟩ : ∃ G, fixRing ring = G := ⟨_, rfl⟩
  obtain ⟨all, hall⟩ : ∃ a, allM (fixPorts P) = a := ⟨_, rfl⟩
  have wall : SetWf all := by rw [← hall]; exact allM_wf _
  rw [hT, hG, hall]
  refine ⟨Nat, fun ob => [(1, .pointer (some ⟨ib, 0, none⟩)), (2, .pointer (some ⟨rb, 0, none⟩)), (3, .pointer (some ⟨ob, 0, none⟩))], fun ob h' => h2.size ≤ ob ∧ h'[ob]? = some (.cells (planV N (.slice none 0 0) (.slice none 0 0) (fixSz s) T G normal short).toArray 28 (0, 0)) ∧ Ext h2 h', ?_, ?_⟩
  · refine ⟨_, cell_blk hib2 rfl, by decide, [.int .i64 s.sh, .int .i64 s.bk, .int .i64 s.sl], rfl, reads_at hib2 rfl, _, cell_blk hib2 rfl, by decide, _, cell_blk hib2 rfl, by decide, _, cell_blk hib2 rfl, _, cell_blk hib2 rfl, ?_, ?_⟩
    · refine (rbFix_spec s).mono ?_
      rintro v h3 ⟨rfl, x3⟩
      have b3 := x3.blk hib2
      refine ⟨⟨cell_blk b3 rfl, cell_blk b3 rfl, cell_blk b3 rfl, cell_blk b3 rfl, cell_blk b3 rfl, trivial⟩, ?_⟩
      intro ob h4 n4
      have b4 := n4.ext.blk b3
      refine ⟨⟨cell_blk b4 rfl, cell_blk b4 rfl, cell_blk b4 rfl, cell_blk b4 rfl, reads_at b4 rfl, cell_blk b4 rfl, trivial⟩, ?_⟩
      refine ⟨rfl, rfl, canset_blk n4.this rfl, fun h5 s5 => ?_⟩
      have s5' : Stored h4 ⟨ob, 0, none⟩ (planV (IntKind.i64.wrap (2 + IntKind.i64.wrap ((IntKind.u64.wrap P).tmod 7))) (.slice none 0 0) (.slice none 0 0) (fixSz s) (IntKind.i64.wrap (1 + IntKind.i64.wrap ((IntKind.u64.wrap tries).tmod 8))) (IntKind.i64.wrap (1 + IntKind.i64.wrap ((IntKind.u64.wrap ring).tmod 64))) normal short) h5 := s5
      rw [ep, et, er] at s5'
      have s5'' : Stored h4 ⟨ob, 0, none⟩ (planV N (.slice none 0 0) (.slice none 0 0) (fixSz s) T G normal short) h5 := by rw [← hP, ← hT, ← hG]; exact s5'
      exact ⟨ob, ⟨rfl, rfl, rfl, trivial⟩, n4.ge x3, s5''.put n4.this, (x3.trans n4.ext).stored s5 (n4.ge x3)⟩
    · intro ob h3 n3
      have b3 := n3.ext.blk hib2
      refine ⟨⟨cell_blk b3 rfl, cell_blk b3 rfl, cell_blk b3 rfl, cell_blk b3 rfl, reads_at b3 rfl, cell_blk b3 rfl, trivial⟩, ?_⟩
      refine (rbFix_spec s).mono ?_
      rintro v h4 ⟨rfl, x4⟩
      have b4 := x4.blk b3
      refine ⟨⟨cell_blk b4 rfl, cell_blk b4 rfl, cell_blk b4 rfl, cell_blk b4 rfl, cell_blk b4 rfl, trivial⟩, ?_⟩
      refine ⟨rfl, rfl, canset_blk (x4.blk n3.this) rfl, fun h5 s5 => ?_⟩
      have s5' : Stored h4 ⟨ob, 0, none⟩ (planV (IntKind.i64.wrap (2 + IntKind.i64.wrap ((IntKind.u64.wrap P).tmod 7))) (.slice none 0 0) (.slice none 0 0) (fixSz s) (IntKind.i64.wrap (1 + IntKind.i64.wrap ((IntKind.u64.wrap tries).tmod 8))) (IntKind.i64.wrap (1 + IntKind.i64.wrap ((IntKind.u64.wrap ring).tmod 64))) normal short) h5 := s5
      rw [ep, et, er] at s5'
      have s5'' : Stored h4 ⟨ob, 0, none⟩ (planV N (.slice none 0 0) (.slice none 0 0) (fixSz s) T G normal short) h5 := by rw [← hP, ← hT, ← hG]; exact s5'
      exact ⟨ob, ⟨rfl, rfl, rfl, trivial⟩, n3.ge (Ext.refl _), s5''.put (x4.blk n3.this), (n3.ext.trans x4).stored s5 (n3.ge (Ext.refl _))⟩
  rintro ob h3 ⟨obg, hob3, x23⟩
  obtain ⟨R, hR⟩ : ∃ R, (List.range N).map (fixRu rules) = R := ⟨_, rfl⟩
  have hRl : R.length = N := by rw [← hR]; simp
  have hRi : ∀ i, i < N → R[i]? = some (fixRu rules i) := fun i hi => by rw [← hR]; simp [hi]
  rw [hR]
  refine ⟨Option Addr × Nat, fun z => [(1, .pointer (some ⟨ib, 0, none⟩)), (2, .pointer (some ⟨rb, 0, none⟩)), (3, .pointer (some ⟨ob, 0, none⟩))], fun z h' => h'[ob]? = some (.cells (planV N (.slice z.1 N z.2) (.slice none 0 0) (fixSz s) T G normal short).toArray 28 (0, 0)) ∧ OwnA encRu 2 117 h2.size h' z.1 z.2 R ∧ Ext h2 h', ?_, ?_⟩
  · refine ⟨Nat × Option Addr × Nat, fun z => [(1, .pointer (some ⟨ib, 0, none⟩)), (2, .pointer (some ⟨rb, 0, none⟩)), (3, .pointer (some ⟨ob, 0, none⟩)), (4, .int .i64 z.1)], fun z h' => z.1 ≤ N ∧ h'[ob]? = some (.cells (planV N (.slice z.2.1 z.1 z.2.2) (.slice none 0 0) (fixSz s) T G normal short).toArray 28 (0, 0)) ∧ OwnA encRu 2 117 h2.size h' z.2.1 z.2.2 (R.take z.1) ∧ Ext h2 h', fun z => N - z.1, (0, none, 0), ⟨rfl, rfl, rfl, rfl, trivial⟩, ⟨Nat.zero_le _, hob3, .inl ⟨rfl, rfl, rfl⟩, x23⟩, ?_⟩
    rintro ⟨i, C, d⟩ h4 ⟨hi, hob4, own4, x24⟩
    simp only at hi hob4 own4
    refine ⟨_, cell_blk hob4 rfl, ?_⟩
    refine xif_of (fun hlt => ?_) (fun hge => ?_)
    · have hlt : (i : Int) < N := of_decide_eq_true hlt
      have hiN : i < N := by omega
      intro qb h5 n5
      refine ⟨rfl, rfl, canset_blk n5.this rfl, fun h6 s6 => ?_⟩
      have hqb : h6[qb]? = some (.cells (encRu ⟨1, 0⟩).toArray 117 (0, 0)) := s6.put n5.this
      have x46 : Ext h4 h6 := (Ext.refl _ |>.trans n5.ext).stored s6 (n5.ge (Ext.refl _))
      have x26 := x24.trans x46
      have hib6 := x26.blk hib2
      have hob6 := x46.blk hob4
      refine ⟨Unit, fun _ => [(1, .pointer (some ⟨ib, 0, none⟩)), (2, .pointer (some ⟨rb, 0, none⟩)), (3, .pointer (some ⟨ob, 0, none⟩)), (4, .int .i64 i), (5, .pointer (some ⟨qb, 0, none⟩))], fun _ h' => h'[qb]? = some (.cells (encRu (fixRu rules i)).toArray 117 (0, 0)) ∧ Ext h4 h', ?_, ?_⟩
      · refine ⟨_, cell_blk hib6 rfl, ?_⟩
        refine xif_of (fun hl => ?_) (fun hl => ?_)
        · have hl : (i : Int) < rules.length := of_decide_eq_true hl
          obtain ⟨r, hr⟩ : ∃ r, rules[i]? = some r := ⟨rules[i]'(by omega), List.getElem?_eq_getElem (by omega)⟩
          obtain ⟨a, rfl, hrd⟩ := ((x02.trans x26).row hra) i r hr
          have q0 : (0 : Int) ≤ i := by omega
          have f1 := fixn_eq r.pvid 4094 1 (by decide) (by decide) (by decide) (by decide)
          have f2 := modn_eq r.acc 3 (by decide) (by decide)
          refine ⟨_, cell_blk hib6 rfl, _, rfl, q0, hl, _, hrd.get 0 rfl, by decide, _, cell_blk hib6 rfl, _, rfl, q0, hl, _, hrd.get 1 rfl, by decide, rfl, rfl, canset_blk hqb rfl, fun h7 s7 => ?_⟩
          have s7' : Stored h6 ⟨qb, 0, none⟩ [.int .i64 (IntKind.i64.wrap (1 + IntKind.i64.wrap ((IntKind.u64.wrap r.pvid).tmod 4094))), .int .i64 (IntKind.i64.wrap ((IntKind.u64.wrap r.acc).tmod 3))] h7 := s7
          rw [f1, f2] at s7'
          have e : fixRu rules i = ⟨1 + r.pvid % 18446744073709551616 % 4094, r.acc % 18446744073709551616 % 3⟩ := by unfold fixRu; rw [hr]
          exact ⟨(), ⟨rfl, rfl, rfl, rfl, rfl, trivial⟩, by rw [e]; exact s7'.put hqb, x46.stored s7 (n5.ge (Ext.refl _))⟩
        · have hl : ¬ (i : Int) < rules.length := of_decide_eq_false hl
          have e : fixRu rules i = ⟨1, 0⟩ := by unfold fixRu; rw [List.getElem?_eq_none (by omega)]
          exact ⟨(), ⟨rfl, rfl, rfl, rfl, rfl, trivial⟩, by rw [e]; exact hqb, x46⟩
      · rintro _ h7 ⟨hqb7, x47⟩
        have hob7 := x47.blk hob4
        have own7 := own4.ext x47
        refine ⟨_, cell_blk hob7 rfl, _, rfl, reads_all hqb7, ?_⟩
        intro sb h8 n8
        have hlen : (R.take i).length = i := by simp; omega
        refine xappend_one (x := fixRu rules i) ruInfoR ruZeroR rfl (by decide) encRu_len encRu_one own7 n8 hlen (by omega) (x24.trans x47).size fun A' c' h9 o9 k9 => ?_
        rw [take_next (hRi i hiN)] at o9
        have hne : C ≠ some ⟨ob, 0, none⟩ := by
          rintro rfl
          obtain ⟨cx, hx⟩ := own_blk own7
          have e := ty_eq hx hob7
          revert e; decide
        have hob9 := k9.blk hob7 hne
        have x29 := k9.ext (x24.trans x47) own7.ge
        refine ⟨rfl, rfl, canset_blk hob9 rfl, fun h10 s10 => ?_⟩
        have hne9 : ∀ b, A' = some ⟨b, 0, none⟩ → b ≠ ob := by
          rintro b rfl rfl
          obtain ⟨cx, hx⟩ := own_blk o9
          have e := ty_eq hx hob9
          revert e; decide
        have hob10 : h10[ob]? = some (.cells (planV N (.slice A' (i + 1) c') (.slice none 0 0) (fixSz s) T G normal short).toArray 28 (0, 0)) := s10.put hob9
        exact ⟨(i + 1, A', c'), ⟨rfl, rfl, rfl, slot_inc (by omega), trivial⟩, ⟨by show i + 1 ≤ N; omega, hob10, o9.other s10 hne9, x29.stored s10 obg⟩, by show N - (i + 1) < N - i; omega⟩
    · have hge : ¬ (i : Int) < N := of_decide_eq_false hge
      have : i = N := by omega
      subst this
      rw [List.take_of_length_le (by omega)] at own4
      exact ⟨(C, d), ⟨rfl, rfl, rfl, trivial⟩, hob4, own4, x24⟩
  rintro ⟨C, d⟩ h4 ⟨hob4, own4, x24⟩
  simp only at hob4 own4
  refine ⟨_, cell_blk hob4 rfl, ?_⟩
  have cA : HCalls Tryz.prog 38 #[.int .i64 N] h4 (fun v h' => v = .int .u64 all ∧ h' = h4) := by
    have := r3All_spec (h := h4) (fixPorts P)
    rw [hall, hP] at this
    exact this
  refine cA.mono ?_
  rintro v h5 ⟨rfl, rfl⟩
  obtain ⟨V, hV⟩ : ∃ V, fixVl all (vls.take 8) 0 = V := ⟨_, rfl⟩
  rw [hV]
  refine ⟨Option Addr × Nat, fun z => [(2, .pointer (some ⟨rb, 0, none⟩)), (3, .pointer (some ⟨ob, 0, none⟩))], fun z h' => h'[ob]? = some (.cells (planV N (.slice C N d) (.slice z.1 V.length z.2) (fixSz s) T G normal short).toArray 28 (0, 0)) ∧ OwnA encRu 2 117 h2.size h' C d R ∧ OwnA encVl 3 120 h2.size h' z.1 z.2 V ∧ Ext h2 h', ?_, ?_⟩
  · refine ⟨Nat × Int × List Vl × Option Addr × Nat, fun z => [(1, .pointer (some ⟨ib, 0, none⟩)), (2, .pointer (some ⟨rb, 0, none⟩)), (3, .pointer (some ⟨ob, 0, none⟩)), (6, .int .i64 z.2.1), (7, .int .u64 all), (8, .int .i64 z.1)],
      fun z h' => (z.1 ≤ vls.length ∧ z.1 ≤ 8) ∧ z.2.2.1 ++ fixVl all ((vls.take 8).drop z.1) z.2.1 = V ∧ z.2.2.1.length = z.1 ∧ (0 ≤ z.2.1 ∧ z.2.1 ≤ 3 * z.1) ∧ h'[ob]? = some (.cells (planV N (.slice C N d) (.slice z.2.2.2.1 z.1 z.2.2.2.2) (fixSz s) T G normal short).toArray 28 (0, 0)) ∧ OwnA encRu 2 117 h2.size h' C d R ∧ OwnA encVl 3 120 h2.size h' z.2.2.2.1 z.2.2.2.2 z.2.2.1 ∧ Ext h2 h',
      fun z => vls.length - z.1, (0, 0, [], none, 0), ⟨rfl, rfl, rfl, rfl, rfl, rfl, trivial⟩, ⟨⟨Nat.zero_le _, Nat.zero_le _⟩, hV, rfl, ⟨Int.le_refl _, Int.le_refl _⟩, hob4, own4, .inl ⟨rfl, rfl, rfl⟩, x24⟩, ?_⟩
    rintro ⟨i, vid, acc, E, e⟩ h6 ⟨⟨hi, hi8⟩, hacc, hlen, ⟨vid0, vid1⟩, hob6, own6, ownv6, x26⟩
    simp only at hi hi8 hacc hlen vid0 vid1 hob6 ownv6
    have hib6 := x26.blk hib2
    have stop : (vls.length ≤ i ∨ 8 ≤ i) → ∃ x' : Option Addr × Nat, (some (Value.pointer (some ⟨rb, 0, none⟩)) = some (Value.pointer (some ⟨rb, 0, none⟩)) ∧ some (Value.pointer (some ⟨ob, 0, none⟩)) = some (Value.pointer (some ⟨ob, 0, none⟩)) ∧ True) ∧ (h6[ob]? = some (.cells (planV N (.slice C N d) (.slice x'.1 V.length x'.2) (fixSz s) T G normal short).toArray 28 (0, 0)) ∧ OwnA encRu 2 117 h2.size h6 C d R ∧ OwnA encVl 3 120 h2.size h6 x'.1 x'.2 V ∧ Ext h2 h6) := by
      intro hs
      rw [List.drop_eq_nil_of_le (by simp; omega)] at hacc
      have : acc = V := by rw [← hacc]; simp [fixVl]
      subst this
      exact ⟨(E, e), ⟨rfl, rfl, trivial⟩, by rw [hlen]; exact hob6, own6, ownv6, x26⟩
    refine ⟨_, cell_blk hib6 rfl, ?_⟩
    refine xif_of (fun hlt => ?_) (fun hge => stop (.inl (by have hge : ¬ (i : Int) < vls.length := of_decide_eq_false hge; omega)))
    have hlt : (i : Int) < vls.length := of_decide_eq_true hlt
    refine xif_of (fun h8 => ?_) (fun h8 => stop (.inr (by have h8 : ¬ (i : Int) < 8 := of_decide_eq_false h8; omega)))
    have h8 : (i : Int) < 8 := of_decide_eq_true h8
    obtain ⟨v, hv⟩ : ∃ v, vls[i]? = some v := ⟨vls[i]'(by omega), List.getElem?_eq_getElem (by omega)⟩
    have wv := wf v (List.mem_of_getElem? hv)
    obtain ⟨a, rfl, hrd⟩ := ((x02.trans x26).row hrb) i v hv
    have q0 : (0 : Int) ≤ i := by omega
    obtain ⟨vid', hvid'⟩ : ∃ z, vid + 1 + v.vid % 18446744073709551616 % 3 = z := ⟨_, rfl⟩
    have ev : IntKind.i64.wrap (IntKind.i64.wrap (vid + 1) + IntKind.i64.wrap ((IntKind.u64.wrap v.vid).tmod 3)) = vid' := by
      rw [modn_eq v.vid 3 (by decide) (by decide), wrap_i64 (x := vid + 1) (by omega) (by omega), wrap_i64 (by omega) (by omega), hvid']
    obtain ⟨x, hx⟩ : ∃ x : Nat, v.mem.toNat &&& all.toNat = x := ⟨_, rfl⟩
    obtain ⟨y, hy⟩ : ∃ y : Nat, v.unt.toNat &&& x = y := ⟨_, rfl⟩
    have hx64 : x < 18446744073709551616 := by
      have := (andM_wf (b := all) wv.1).hi
      unfold andM at this
      rw [hx] at this; omega
    have hy64 : y < 18446744073709551616 := by
      have : v.unt.toNat &&& x ≤ x := Nat.and_le_right
      omega
    have bx : ∀ k, x.testBit k = (v.mem.toNat.testBit k && all.toNat.testBit k) := fun k => by rw [← hx, Nat.testBit_and]
    have byt : ∀ k, y.testBit k = (v.unt.toNat.testBit k && x.testBit k) := fun k => by rw [← hy, Nat.testBit_and]
    have hbit : ∀ (s : Int) (k : Nat), k < 64 → hasM s k = s.toNat.testBit k := fun s k hk => by unfold hasM; rw [decide_eq_true (by omega), Bool.true_and, Int.toNat_natCast]
    have hnext : acc ++ [⟨vid', (x : Int), (y : Int)⟩] ++ fixVl all ((vls.take 8).drop (i + 1)) vid' = V := by
      have hd : (vls.take 8).drop i = v :: (vls.take 8).drop (i + 1) := by
        have hv8 : (vls.take 8)[i]? = some v := by rw [List.getElem?_take, if_pos (by omega)]; exact hv
        obtain ⟨hil, he⟩ := List.getElem?_eq_some_iff.1 hv8
        rw [List.drop_eq_getElem_cons hil, he]
      rw [hd, fixVl, hvid'] at hacc
      have e1 : andM v.mem all = (x : Int) := by unfold andM; rw [hx]
      have e2 : andM v.unt (andM v.mem all) = (y : Int) := by rw [e1]; unfold andM; rw [Int.toNat_natCast, hy]
      rw [e1] at e2 hacc
      rw [e2] at hacc
      rw [List.append_assoc]
      exact hacc
    refine ⟨_, cell_blk hib6 rfl, _, rfl, q0, hlt, _, hrd.get 0 rfl, by decide, ?_⟩
    intro qb h7 n7
    refine ⟨rfl, rfl, canset_blk n7.this rfl, fun h8' s8 => ?_⟩
    have s8' : Stored h7 ⟨qb, 0, none⟩ [.int .i64 (IntKind.i64.wrap (IntKind.i64.wrap (vid + 1) + IntKind.i64.wrap ((IntKind.u64.wrap v.vid).tmod 3))), .int .u64 0, .int .u64 0] h8' := s8
    rw [ev] at s8'
    have hqb8 : h8'[qb]? = some (.cells [.int .i64 vid', .int .u64 0, .int .u64 0].toArray 120 (0, 0)) := s8'.put n7.this
    have x68 : Ext h6 h8' := (Ext.refl _ |>.trans n7.ext).stored s8 (n7.ge (Ext.refl _))
    have qge : h6.size ≤ qb := n7.ge (Ext.refl _)
    refine ⟨Nat, fun k => [(1, .pointer (some ⟨ib, 0, none⟩)), (2, .pointer (some ⟨rb, 0, none⟩)), (3, .pointer (some ⟨ob, 0, none⟩)), (6, .int .i64 vid'), (7, .int .u64 all), (8, .int .i64 i), (9, .pointer (some ⟨qb, 0, none⟩)), (10, .int .i64 k)],
      fun k h' => k ≤ 64 ∧ h'[qb]? = some (.cells [.int .i64 vid', .int .u64 ((x % 2 ^ k : Nat) : Int), .int .u64 ((y % 2 ^ k : Nat) : Int)].toArray 120 (0, 0)) ∧ Ext h6 h', fun k => 64 - k, 0, ⟨rfl, rfl, rfl, congrArg (fun z => some (Value.int .i64 z)) ev, rfl, rfl, rfl, rfl, trivial⟩, ⟨Nat.zero_le _, by rw [Nat.pow_zero, Nat.mod_one, Nat.mod_one]; exact hqb8, x68⟩, ?_⟩
    rintro k h9 ⟨hk, hqb9, x69⟩
    refine xif_of (fun hlt2 => ?_) (fun hge => ?_)
    · have hlt2 : (k : Int) < 64 := of_decide_eq_true hlt2
      have hk64 : k < 64 := by omega
      have wx : SetWf ((x % 2 ^ k : Nat) : Int) := ⟨by omega, by have := Nat.mod_le x (2 ^ k); omega⟩
      have wy : SetWf ((y % 2 ^ k : Nat) : Int) := ⟨by omega, by have := Nat.mod_le y (2 ^ k); omega⟩
      have nx := with_next hx64 hk64
      have ny := with_next hy64 hk64
      have hib9 := x69.blk hib6
      obtain ⟨a', ha', hrd9⟩ := ((x02.trans (x26.trans x69)).row hrb) i v hv
      cases ha'
      have fin : ∀ hX, h9.size ≤ hX.size → Ext h6 hX → hX[qb]? = some (.cells [.int .i64 vid', .int .u64 ((x % 2 ^ (k + 1) : Nat) : Int), .int .u64 ((y % 2 ^ (k + 1) : Nat) : Int)].toArray 120 (0, 0)) → ∃ x' : Nat, (some (Value.pointer (some ⟨ib, 0, none⟩)) = some (Value.pointer (some ⟨ib, 0, none⟩)) ∧ some (Value.pointer (some ⟨rb, 0, none⟩)) = some (Value.pointer (some ⟨rb, 0, none⟩)) ∧ some (Value.pointer (some ⟨ob, 0, none⟩)) = some (Value.pointer (some ⟨ob, 0, none⟩)) ∧ some (Value.int .i64 vid') = some (Value.int .i64 vid') ∧ some (Value.int .u64 all) = some (Value.int .u64 all) ∧ some (Value.int .i64 (i : Int)) = some (Value.int .i64 (i : Int)) ∧ some (Value.pointer (some ⟨qb, 0, none⟩)) = some (Value.pointer (some ⟨qb, 0, none⟩)) ∧ some (Value.int .i64 (IntKind.i64.wrap ((k : Int) + 1))) = some (Value.int .i64 (x' : Int)) ∧ True) ∧ (x' ≤ 64 ∧ hX[qb]? = some (.cells [.int .i64 vid', .int .u64 ((x % 2 ^ x' : Nat) : Int), .int .u64 ((y % 2 ^ x' : Nat) : Int)].toArray 120 (0, 0)) ∧ Ext h6 hX) ∧ 64 - x' < 64 - k :=
        fun hX _ xX hq => ⟨k + 1, ⟨rfl, rfl, rfl, rfl, rfl, rfl, rfl, slot_inc (by omega), trivial⟩, ⟨by omega, hq, xX⟩, by omega⟩
      have off : x.testBit k = false → ∃ x' : Nat, (some (Value.pointer (some ⟨ib, 0, none⟩)) = some (Value.pointer (some ⟨ib, 0, none⟩)) ∧ some (Value.pointer (some ⟨rb, 0, none⟩)) = some (Value.pointer (some ⟨rb, 0, none⟩)) ∧ some (Value.pointer (some ⟨ob, 0, none⟩)) = some (Value.pointer (some ⟨ob, 0, none⟩)) ∧ some (Value.int .i64 vid') = some (Value.int .i64 vid') ∧ some (Value.int .u64 all) = some (Value.int .u64 all) ∧ some (Value.int .i64 (i : Int)) = some (Value.int .i64 (i : Int)) ∧ some (Value.pointer (some ⟨qb, 0, none⟩)) = some (Value.pointer (some ⟨qb, 0, none⟩)) ∧ some (Value.int .i64 (IntKind.i64.wrap ((k : Int) + 1))) = some (Value.int .i64 (x' : Int)) ∧ True) ∧ (x' ≤ 64 ∧ h9[qb]? = some (.cells [.int .i64 vid', .int .u64 ((x % 2 ^ x' : Nat) : Int), .int .u64 ((y % 2 ^ x' : Nat) : Int)].toArray 120 (0, 0)) ∧ Ext h6 h9) ∧ 64 - x' < 64 - k := by
        intro hb
        refine fin h9 (Nat.le_refl _) x69 ?_
        rw [nx.2 hb, ny.2 (by rw [byt, hb, Bool.and_false])]
        exact hqb9
      refine (r3Has_spec wall).mono ?_
      rintro w h10 ⟨rfl, rfl⟩
      refine xif_of (fun ha => ?_) (fun ha => off (by rw [bx, ← hbit all k hk64, ha, Bool.and_false]))
      refine ⟨_, cell_blk hib9 rfl, _, rfl, q0, hlt, _, hrd9.get 1 rfl, ?_⟩
      refine (r3Has_spec wv.1).mono ?_
      rintro w h10 ⟨rfl, rfl⟩
      refine xif_of (fun hm => ?_) (fun hm => off (by rw [bx, ← hbit v.mem k hk64, hm, Bool.false_and]))
      have hbx : x.testBit k = true := by rw [bx, ← hbit v.mem k hk64, ← hbit all k hk64, hm, ha]; rfl
      refine ⟨_, cell_blk hqb9 rfl, ?_⟩
      refine (r3With_spec wx).mono ?_
      rintro w h10 ⟨rfl, rfl⟩
      rw [nx.1 hbx]
      refine ⟨rfl, rfl, canset_blk hqb9 rfl, fun h11 s11 => ?_⟩
      have hqb11 : h11[qb]? = some (.cells [.int .i64 vid', .int .u64 ((x % 2 ^ (k + 1) : Nat) : Int), .int .u64 ((y % 2 ^ k : Nat) : Int)].toArray 120 (0, 0)) := s11.put hqb9
      have x611 := x69.stored s11 qge
      have hib11 := x611.blk hib6
      obtain ⟨a', ha', hrd11⟩ := ((x02.trans (x26.trans x611)).row hrb) i v hv
      cases ha'
      refine ⟨_, cell_blk hib11 rfl, _, rfl, q0, hlt, _, hrd11.get 2 rfl, ?_⟩
      refine (r3Has_spec wv.2).mono ?_
      rintro w h12 ⟨rfl, rfl⟩
      refine xif_of (fun hu => ?_) (fun hu => ?_)
      · have hby : y.testBit k = true := by rw [byt, ← hbit v.unt k hk64, hu, hbx]; rfl
        refine ⟨_, cell_blk hqb11 rfl, ?_⟩
        refine (r3With_spec wy).mono ?_
        rintro w h12 ⟨rfl, rfl⟩
        rw [ny.1 hby]
        refine ⟨rfl, rfl, canset_blk hqb11 rfl, fun h13 s13 => ?_⟩
        exact fin h13 (by rw [s13.size, s11.size]; exact Nat.le_refl _) (x611.stored s13 qge) (s13.put hqb11)
      · have hby : y.testBit k = false := by rw [byt, ← hbit v.unt k hk64, hu, Bool.false_and]
        refine fin _ (by rw [s11.size]; exact Nat.le_refl _) x611 ?_
        rw [ny.2 hby]
        exact hqb11
    · have hge : ¬ (k : Int) < 64 := of_decide_eq_false hge
      have : k = 64 := by omega
      subst this
      have ex : x % 2 ^ 64 = x := Nat.mod_eq_of_lt (by simpa using hx64)
      have ey : y % 2 ^ 64 = y := Nat.mod_eq_of_lt (by simpa using hy64)
      rw [ex, ey] at hqb9
      have hob9 := x69.blk hob6
      have ownv9 := ownv6.ext x69
      have own9 := own6.ext x69
      refine ⟨_, cell_blk hob9 rfl, [.int .i64 vid', .int .u64 (x : Int), .int .u64 (y : Int)], rfl, reads_all hqb9, ?_⟩
      intro sb h10 n10
      refine xappend_one (enc := encVl) (x := ⟨vid', (x : Int), (y : Int)⟩) vlInfoR vlZeroR rfl (by decide) encVl_len encVl_one ownv9 n10 hlen (by omega) (x26.trans x69).size fun A' c' h11 o11 k11 => ?_
      have hne : E ≠ some ⟨ob, 0, none⟩ := by
        rintro rfl
        obtain ⟨cx, hx⟩ := own_blk ownv9
        have e := ty_eq hx hob9
        revert e; decide
      have hob11 := k11.blk hob9 hne
      have x211 := k11.ext (x26.trans x69) ownv9.ge
      have own11 : OwnA encRu 2 117 h2.size h11 C d R := by
        refine own9.fr (k11.fr' (X := fun b => E = some ⟨b, 0, none⟩) fun b hb => hb) ?_
        rintro b rfl rfl
        obtain ⟨cx, hx⟩ := own_blk own9
        obtain ⟨cy, hy⟩ := own_blk ownv9
        have e := ty_eq hx hy
        revert e; decide
      refine ⟨rfl, rfl, canset_blk hob11 rfl, fun h12 s12 => ?_⟩
      have hne11 : ∀ b, A' = some ⟨b, 0, none⟩ → b ≠ ob := by
        rintro b rfl rfl
        obtain ⟨cx, hx⟩ := own_blk o11
        have e := ty_eq hx hob11
        revert e; decide
      have hneR : ∀ b, C = some ⟨b, 0, none⟩ → b ≠ ob := by
        rintro b rfl rfl
        obtain ⟨cx, hx⟩ := own_blk own11
        have e := ty_eq hx hob11
        revert e; decide
      have hob12 : h12[ob]? = some (.cells (planV N (.slice C N d) (.slice A' (i + 1) c') (fixSz s) T G normal short).toArray 28 (0, 0)) := s12.put hob11
      exact ⟨(i + 1, vid', acc ++ [⟨vid', (x : Int), (y : Int)⟩], A', c'), ⟨rfl, rfl, rfl, rfl, rfl, slot_inc (by omega), trivial⟩, ⟨⟨by show i + 1 ≤ vls.length; omega, by show i + 1 ≤ 8; omega⟩, hnext, by simp [hlen], ⟨by show 0 ≤ vid'; omega, by show vid' ≤ 3 * ((i + 1 : Nat) : Int); omega⟩, hob12, own11.other s12 hneR, o11.other s12 hne11, x211.stored s12 obg⟩, by show vls.length - (i + 1) < vls.length - i; omega⟩
  · rintro ⟨E, e⟩ h6 ⟨hob6, own6, ownv6, x26⟩
    simp only at hob6 ownv6
    have hrb6 := x26.blk hrb2
    have hN' : (fixPorts P) = N := hP
    refine ⟨_, rfl, reads_all hob6, rfl, rfl, canset_blk hrb6 rfl, fun h7 s7 => ?_⟩
    have hrb7 : h7[rb]? = some (.cells (planV N (.slice C N d) (.slice E V.length e) (fixSz s) T G normal short).toArray 28 (0, 0)) := s7.put hrb6
    have rbg : h.size ≤ rb := n2.ge n1.ext
    have rlt : rb < h2.size := blk_lt hrb2
    have oR : OwnA encRu 2 117 h2.size h7 C d R := own6.other s7 fun b hb => by have := own6.ge b hb; intro e; subst e; omega
    have oV : OwnA encVl 3 120 h2.size h7 E e V := ownv6.other s7 fun b hb => by have := ownv6.ge b hb; intro e; subst e; omega
    refine ⟨_, rfl, reads_all hrb7, C, d, E, e, by rw [hP]; rfl, oR.mono x02.size, oV.mono x02.size, (x02.trans x26).stored s7 rbg⟩
end
end Go.Proofs.YtjjempefncgfhaaGreatDoorE
