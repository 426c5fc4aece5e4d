/- A frame that comes in at a port that doesn't learn: its VLAN, who is in it, the gauge, how the port stands. Conditions: the port's state is none that learns. -/
import Derived.Test.YtjjempefncgfhaaGreatDoorXIQ
import Derived.Test.YtjjempefncgfhaaGreatDoorXSG
import Derived.Test.YtjjempefncgfhaaGreatDoorXG5
import Derived.Test.YtjjempefncgfhaaGreatDoorXDec17
set_option linter.unusedVariables false
set_option linter.unusedSimpArgs false
set_option maxRecDepth 100000
namespace Go.Proofs.YtjjempefncgfhaaGreatDoorE
open Go Go.Proofs
def env_iDoneU : Nat → Ann
  | 7 => ⟨.op 0 [] <| .op 1 [] <| .op 2 [] <| .op 3 [] <| .op 4 [] <| .op 5 [] <| .op 6 [] <| .op 7 [] <| .op 8 [] <| .op 10 [] <| .op 11 [] <| .op 12 [] <| .op 13 [] <| .op 14 [] <| .op 9 [14] <| .op 15 [] <| .op 16 [] <| .op 17 [] <| .op 18 [] <| .op 19 [] <| .op 20 [] <| .op 21 [] <| .nil, [0, 0, 0, 0, 0, 0, 48, 112, 240, 496, 0, 0, 3072, 7168, 15360, 32752, 65523, 131059, 262131, 524287, 1048575, 2097151], false⟩
  | _ => ⟨.nil, [], false⟩
def env_gFillQ : Nat → Ann
  | 2 => ⟨.op 0 [] <| .op 1 [] <| .op 2 [] <| .op 3 [] <| .op 4 [] <| .op 5 [1] <| .op 6 [] <| .op 7 [] <| .op 8 [] <| .nil, [0, 1, 0, 0, 8, 28, 60, 127, 255], false⟩
  | 6 => ⟨.nil, [], true⟩
  | 8 => ⟨.nil, [], true⟩
  | 9 => ⟨.nil, [], true⟩
  | _ => ⟨.nil, [], false⟩
def env_iClassQ : Nat → Ann
  | 1 => ⟨.op 0 [] <| .op 1 [] <| .op 2 [] <| .op 3 [] <| .op 4 [] <| .op 5 [] <| .op 6 [] <| .op 7 [] <| .op 8 [] <| .op 9 [] <| .op 10 [] <| .op 11 [] <| .op 12 [] <| .op 13 [] <| .op 14 [] <| .op 15 [] <| .op 16 [] <| .op 17 [] <| .op 18 [] <| .op 19 [] <| .op 20 [] <| .nil, [0, 1, 3, 7, 0, 16, 48, 112, 240, 0, 512, 1536, 3584, 8176, 16368, 32767, 65535, 131071, 131071, 262143, 1048575], false⟩
  | _ => ⟨.nil, [], false⟩
def env_iMembersQ : Nat → Ann
  | 2 => ⟨.op 0 [] <| .op 1 [] <| .op 2 [] <| .op 3 [] <| .op 4 [] <| .op 5 [] <| .op 6 [] <| .op 7 [] <| .op 8 [] <| .op 9 [] <| .op 10 [] <| .op 11 [] <| .op 12 [] <| .op 13 [] <| .nil, [0, 0, 2, 6, 14, 0, 32, 96, 224, 480, 1022, 2047, 4095, 8191], false⟩
  | 3 => ⟨.op 0 [] <| .op 1 [] <| .op 2 [] <| .op 3 [] <| .op 4 [] <| .op 7 [] <| .op 8 [] <| .op 9 [] <| .op 10 [] <| .op 11 [] <| .op 5 [10] <| .op 6 [10] <| .op 12 [] <| .nil, [0, 0, 2, 6, 14, 30, 62, 0, 128, 384, 896, 1920, 4095], false⟩
  | 4 => ⟨.op 0 [] <| .op 1 [] <| .op 2 [] <| .op 3 [] <| .op 4 [] <| .op 5 [] <| .op 6 [] <| .op 7 [] <| .op 8 [] <| .op 9 [] <| .nil, [0, 1, 3, 7, 0, 16, 48, 112, 255, 511], false⟩
  | 7 => ⟨.op 0 [] <| .op 1 [] <| .op 2 [] <| .op 3 [] <| .op 4 [] <| .op 5 [] <| .op 6 [] <| .op 7 [] <| .alt (.op 8 [] <| .op 9 [] <| .op 10 [] <| .op 11 [] <| .op 12 [3, 7] <| .op 13 [] <| .op 14 [] <| .nil) (.op 12 [3, 7] <| .op 8 [] <| .op 9 [] <| .op 10 [] <| .op 11 [] <| .op 13 [] <| .op 14 [] <| .nil), [0, 1, 3, 7, 0, 16, 48, 112, 255, 511, 1023, 1023, 0, 6143, 16383], false⟩
  | 8 => ⟨.nil, [], true⟩
  | _ => ⟨.nil, [], false⟩
def env_iStandQ : Nat → Ann
  | 2 => ⟨.op 0 [] <| .op 1 [] <| .op 2 [] <| .op 3 [] <| .op 4 [] <| .op 5 [] <| .op 6 [] <| .op 7 [] <| .op 8 [] <| .op 9 [] <| .op 10 [] <| .op 11 [] <| .op 12 [] <| .op 13 [] <| .nil, [0, 0, 2, 6, 14, 0, 32, 96, 224, 510, 1022, 2047, 4095, 8191], false⟩
  | 3 => ⟨.op 0 [] <| .op 1 [] <| .op 2 [] <| .op 3 [] <| .op 4 [] <| .op 7 [] <| .op 8 [] <| .op 9 [] <| .op 10 [] <| .op 5 [10] <| .op 6 [10] <| .op 11 [] <| .nil, [0, 0, 2, 6, 14, 30, 62, 0, 128, 384, 896, 2047], false⟩
  | 6 => ⟨.op 0 [] <| .op 1 [] <| .op 2 [] <| .op 3 [] <| .op 4 [] <| .op 5 [] <| .op 6 [] <| .op 7 [] <| .op 8 [] <| .op 9 [] <| .op 10 [] <| .op 11 [4, 9] <| .op 12 [] <| .nil, [0, 1, 3, 7, 15, 0, 32, 96, 224, 480, 1023, 0, 4095], false⟩
  | 7 => ⟨.op 0 [] <| .op 1 [] <| .op 2 [] <| .op 3 [] <| .op 4 [] <| .op 6 [] <| .op 7 [] <| .op 8 [] <| .op 9 [] <| .op 10 [] <| .op 11 [] <| .op 12 [] <| .op 13 [] <| .op 14 [] <| .op 15 [] <| .op 16 [] <| .op 17 [] <| .op 18 [] <| .op 5 [9, 10, 14, 18] <| .op 19 [] <| .op 20 [] <| .op 21 [] <| .op 22 [] <| .nil, [0, 0, 2, 6, 14, 30, 0, 64, 192, 448, 0, 0, 2048, 6144, 14336, 0, 32768, 98304, 229376, 524286, 1048575, 2097151, 4194303], false⟩
  | 10 => ⟨.op 0 [] <| .op 1 [] <| .op 2 [] <| .op 3 [] <| .op 4 [] <| .op 5 [] <| .op 6 [] <| .op 7 [] <| .op 8 [] <| .op 9 [] <| .op 10 [] <| .op 11 [] <| .nil, [0, 0, 0, 4, 12, 28, 0, 64, 192, 448, 1022, 2047], false⟩
  | _ => ⟨.nil, [], false⟩
def env_cMembersQ : Nat → Ann
  | 4 => ⟨.op 0 [] <| .op 1 [] <| .op 2 [] <| .op 3 [] <| .op 4 [] <| .op 5 [] <| .op 6 [3] <| .op 7 [] <| .op 8 [] <| .nil, [0, 1, 3, 7, 0, 0, 48, 127, 255], false⟩
  | _ => ⟨.nil, [], false⟩
section
variable {h h' : Heap} {F : Fb} {M : MemS} {base xb n m : Nat} {c : IgC} {nx : Value} {d : IgD} {ds : List DnV} {es es0 : List He} {E : He}
theorem mIsNaN_spec (x : Nat) : HCalls Tryz.prog 240 #[.float .f64 x] h (fun v h' => v = .bool (FloatKind.f64.format.order x x != some .eq) ∧ h' = h) := by
  refine xcalls env0 Tryz.func240 rfl (by kernel_rfl) rfl (by kernel_rfl) ?_
  exact ⟨rfl, rfl, rfl⟩
theorem mIsInf_one (x : Nat) : HCalls Tryz.prog 241 #[.float .f64 x, .int .i64 1] h (fun v h' => v = .bool (FloatKind.f64.format.order x 9218868437227405311 == some .gt) ∧ h' = h) := by
  refine xcalls env0 Tryz.func241 rfl (by kernel_rfl) rfl (by kernel_rfl) ?_
  exact ⟨rfl, rfl, rfl⟩
def openM (x : Nat) : Bool := (FloatKind.f64.format.order x x != some .eq) || (FloatKind.f64.format.order x 9218868437227405311 == some .gt)
theorem gOpenQ_spec (a b c : Nat) (l : Int) : HCalls Tryz.prog 209 #[.agg #[.float .f64 a, .float .f64 b, .float .f64 c, .int .u32 l]] h (fun v h' => v = .bool (openM a) ∧ Ext h h') := by
  refine xcalls env0 Tryz.func209 rfl (by kernel_rfl) rfl (by kernel_rfl) ?_
  intro gb h1 n1
  have hg : h1[gb]? = some (.cells [.float .f64 a, .float .f64 b, .float .f64 c, .int .u32 l].toArray _ (0, 0)) := n1.this
  repeat (first | refine ⟨_, cell_blk (hg) rfl, ?_⟩)
  refine (mIsNaN_spec a).mono ?_
  rintro v h2 ⟨rfl, rfl⟩
  unfold openM
  refine xif_of (fun q => ?_) (fun q => ?_)
  · rw [q]
    exact ⟨rfl, n1.ext⟩
  · repeat (first | refine ⟨_, cell_blk (hg) rfl, ?_⟩)
    refine (mIsInf_one a).mono ?_
    rintro v h3 ⟨rfl, rfl⟩
    rw [q]
    exact ⟨rfl, n1.ext⟩
theorem gFillQ_spec (a b c : Nat) (l now : Int) : HCalls Tryz.prog 208 #[.agg #[.float .f64 a, .float .f64 b, .float .f64 c, .int .u32 l], .int .u32 now] h (fun v h' => ∃ r : Nat, v = .agg #[.float .f64 a, .float .f64 b, .float .f64 r, .int .u32 now] ∧ Ext h h') := by
  refine xcalls env_gFillQ Tryz.func208 rfl (by kernel_rfl) rfl (by kernel_rfl) ?_
  intro gb h1 n1
  have hg : h1[gb]? = some (.cells [.float .f64 a, .float .f64 b, .float .f64 c, .int .u32 l].toArray 39 (0, 0)) := n1.this
  intro rb h2 n2
  have hg2 := n2.ext.blk hg
  have hr2 : h2[rb]? = some (.cells [.float .f64 0, .float .f64 0, .float .f64 0, .int .u32 0].toArray 39 (0, 0)) := n2.this
  have x02 := n1.ext.trans n2.ext
  have gg := n1.ge (Ext.refl _)
  have gr := n2.ge n1.ext
  refine ⟨Nat, fun r => [(1, .int .u32 now), (2, .pointer (some ⟨gb, 0, none⟩)), (4, .pointer (some ⟨rb, 0, none⟩))], fun r h' => h'[gb]? = some (.cells [.float .f64 a, .float .f64 b, .float .f64 r, .int .u32 l].toArray 39 (0, 0)) ∧ h'[rb]? = some (.cells [.float .f64 0, .float .f64 0, .float .f64 0, .int .u32 0].toArray 39 (0, 0)) ∧ Ext h h', ?_, ?_⟩
  · refine ⟨_, rfl, reads_all hg2, ?_⟩
    refine (gOpenQ_spec a b c l).mono ?_
    rintro v h3 ⟨rfl, x3⟩
    have hg3 := x3.blk hg2
    have hr3 := x3.blk hr2
    refine xif_of (fun q => ?_) (fun q => ?_)
    · repeat (first | refine ⟨_, cell_blk (hg3) rfl, ?_⟩)
      refine (tAge_spec now l _).mono ?_
      rintro v h4 ⟨rfl, rfl⟩
      try (refine ⟨by ((repeat (first | refine ⟨cell_blk (hg3) rfl, ?_⟩)); exact trivial), ?_⟩)
      refine ⟨⟨_, _, rfl, rfl, .inr (.inr (.inl rfl)), fun more _ => ?_⟩⟩
      try (refine ⟨by ((repeat (first | refine ⟨cell_blk (hg3) rfl, ?_⟩)); exact trivial), ?_⟩)
      repeat (first | refine ⟨_, cell_blk (hg3) rfl, ?_⟩)
      refine ⟨⟨_, _, rfl, rfl, .inl rfl, fun room _ => ?_⟩⟩
      have ne : rb ≠ gb := by have := n2.at_; have := blk_lt hg; omega
      refine ⟨Nat, fun z => [(1, .int .u32 now), (2, .pointer (some ⟨gb, 0, none⟩)), (4, .pointer (some ⟨rb, 0, none⟩)), (6, .float .f64 z)], fun z h' => h' = h4, ?_, ?_⟩
      · repeat (first | refine ⟨_, cell_blk (hg3) rfl, ?_⟩)
        refine ⟨rfl, ?_⟩
        refine xif_of (fun q2 => ?_) (fun q2 => ?_)
        · repeat (first | refine ⟨_, cell_blk (hg3) rfl, ?_⟩)
          exact ⟨b, ⟨rfl, rfl, rfl, rfl, trivial⟩, rfl⟩
        · exact ⟨room, ⟨rfl, rfl, rfl, rfl, trivial⟩, rfl⟩
      rintro z h5 e5
      subst e5
      refine ⟨Nat, fun z => [(1, .int .u32 now), (2, .pointer (some ⟨gb, 0, none⟩)), (4, .pointer (some ⟨rb, 0, none⟩)), (6, .float .f64 z)], fun z h' => h' = h5, ?_, ?_⟩
      · refine ⟨rfl, ?_⟩
        refine xif_of (fun q2 => ?_) (fun q2 => ?_)
        · exact ⟨0, ⟨rfl, rfl, rfl, rfl, trivial⟩, rfl⟩
        · exact ⟨z, ⟨rfl, rfl, rfl, rfl, trivial⟩, rfl⟩
      rintro y h6 e6
      subst e6
      refine ⟨rfl, rfl, canset_blk hg3 rfl, fun h7 s7 => ?_⟩
      have hg7 : h7[gb]? = some (.cells [.float .f64 a, .float .f64 b, .float .f64 y, .int .u32 l].toArray 39 (0, 0)) := s7.put hg3
      exact ⟨y, ⟨rfl, rfl, rfl, trivial⟩, hg7, s7.blk hr3 ne, (x02.trans x3).stored s7 gg⟩
    · exact ⟨c, ⟨rfl, rfl, rfl, trivial⟩, hg3, hr3, x02.trans x3⟩
  rintro r h3 ⟨hg3, hr3, x3⟩
  refine ⟨rfl, rfl, canset_blk hg3 rfl, fun h4 s4 => ?_⟩
  have hg4 : h4[gb]? = some (.cells [.float .f64 a, .float .f64 b, .float .f64 r, .int .u32 now].toArray 39 (0, 0)) := s4.put hg3
  have ne : rb ≠ gb := by have := n2.at_; have := blk_lt hg; omega
  have hr4 := s4.blk hr3 ne
  refine ⟨_, rfl, reads_all hg4, rfl, rfl, canset_blk hr4 rfl, fun h5 s5 => ?_⟩
  have hr5 : h5[rb]? = some (.cells [.float .f64 a, .float .f64 b, .float .f64 r, .int .u32 now].toArray 39 (0, 0)) := s5.put hr4
  exact ⟨_, rfl, reads_all hr5, r, rfl, (x3.stored s4 gg).stored s5 gr⟩
theorem gTakeQ_spec (a b c : Nat) (l now : Int) : HCalls Tryz.prog 171 #[.agg #[.float .f64 a, .float .f64 b, .float .f64 c, .int .u32 l], .int .u32 now] h (fun v h' => ∃ (r : Nat) (ok : Bool), v = .tuple #[.agg #[.float .f64 a, .float .f64 b, .float .f64 r, .int .u32 now], .bool ok] ∧ Ext h h') := by
  refine xcalls env0 Tryz.func171 rfl (by kernel_rfl) rfl (by kernel_rfl) ?_
  intro gb h1 n1
  have hg : h1[gb]? = some (.cells [.float .f64 a, .float .f64 b, .float .f64 c, .int .u32 l].toArray 39 (0, 0)) := n1.this
  intro rb h2 n2
  have hg2 := n2.ext.blk hg
  have hr2 : h2[rb]? = some (.cells [.float .f64 0, .float .f64 0, .float .f64 0, .int .u32 0].toArray 39 (0, 0)) := n2.this
  have x02 := n1.ext.trans n2.ext
  have gg := n1.ge (Ext.refl _)
  have gr := n2.ge n1.ext
  have ne : rb ≠ gb := by have := n2.at_; have := blk_lt hg; omega
  refine ⟨_, rfl, reads_all hg2, ?_⟩
  refine (gFillQ_spec a b c l now).mono ?_
  rintro v h3 ⟨r, rfl, x3⟩
  have hg3 := x3.blk hg2
  have hr3 := x3.blk hr2
  refine ⟨rfl, rfl, canset_blk hg3 rfl, fun h4 s4 => ?_⟩
  have hg4 : h4[gb]? = some (.cells [.float .f64 a, .float .f64 b, .float .f64 r, .int .u32 now].toArray 39 (0, 0)) := s4.put hg3
  have hr4 := s4.blk hr3 ne
  have x4 : Ext h h4 := (x02.trans x3).stored s4 gg
  refine ⟨_, rfl, reads_all hg4, ?_⟩
  refine (gOpenQ_spec a b r now).mono ?_
  rintro v h5 ⟨rfl, x5⟩
  have hg5 := x5.blk hg4
  have hr5 := x5.blk hr4
  refine xif_of (fun q => ?_) (fun q => ?_)
  · refine ⟨_, rfl, reads_all hg5, rfl, rfl, canset_blk hr5 rfl, fun h6 s6 => ?_⟩
    have hr6 : h6[rb]? = some (.cells [.float .f64 a, .float .f64 b, .float .f64 r, .int .u32 now].toArray 39 (0, 0)) := s6.put hr5
    exact ⟨_, rfl, reads_all hr6, r, true, rfl, (x4.trans x5).stored s6 gr⟩
  repeat (first | refine ⟨_, cell_blk (hg5) rfl, ?_⟩)
  refine ⟨rfl, ?_⟩
  refine xif_of (fun q2 => ?_) (fun q2 => ?_)
  · refine ⟨_, rfl, reads_all hg5, rfl, rfl, canset_blk hr5 rfl, fun h6 s6 => ?_⟩
    have hr6 : h6[rb]? = some (.cells [.float .f64 a, .float .f64 b, .float .f64 r, .int .u32 now].toArray 39 (0, 0)) := s6.put hr5
    exact ⟨_, rfl, reads_all hr6, r, false, rfl, (x4.trans x5).stored s6 gr⟩
  repeat (first | refine ⟨_, cell_blk (hg5) rfl, ?_⟩)
  refine ⟨⟨_, _, rfl, rfl, .inr (.inl rfl), fun y _ => ?_⟩⟩
  refine ⟨rfl, rfl, canset_blk hg5 rfl, fun h6 s6 => ?_⟩
  have hg6 : h6[gb]? = some (.cells [.float .f64 a, .float .f64 b, .float .f64 y, .int .u32 now].toArray 39 (0, 0)) := s6.put hg5
  have hr6 := s6.blk hr5 ne
  refine ⟨_, rfl, reads_all hg6, rfl, rfl, canset_blk hr6 rfl, fun h7 s7 => ?_⟩
  have hr7 : h7[rb]? = some (.cells [.float .f64 a, .float .f64 b, .float .f64 y, .int .u32 now].toArray 39 (0, 0)) := s7.put hr6
  exact ⟨_, rfl, reads_all hr7, y, true, rfl, ((x4.trans x5).stored s6 gg).stored s7 gr⟩
theorem own_cap {α : Type} {enc : α → List Value} {sz : Nat} {T : TypeId} {A : Option Addr} {cp : Nat} {xs : List α} (o : OwnA enc sz T base h A cp xs) : xs.length ≤ cp := by
  rcases o with ⟨_, rfl, rfl⟩ | ⟨_, _, _, _, _, _, hc⟩
  · exact Nat.le_refl _
  · exact hc
theorem parseL_cases (bs : List Int) : parseL bs = 0 ∨ parseL bs = 2 ∨ parseL bs = 3 ∨ parseL bs = 4 := by
  unfold parseL
  split
  · simp
  · split
    · simp
    · split <;> simp
theorem whyE_parse {bs : List Int} (h : whyE (parseL bs) = 0) : parseL bs = 0 := by
  rcases parseL_cases bs with e | e | e | e
  · exact e
  all_goals
    rw [e] at h
    exact absurd h (by decide)
/-- Its VLAN. -/
theorem iClassQ_spec (S : IgOk base h F xb c nx d ds es) (HM : MemAt h F.mb F.cb F.lb M) {bs : List Int} (ob : OwnA encU8 1 5 base h d.bA d.bc bs) (hl : bs.length = d.bn) (hn : bs.length ≤ 100000) (hb : IsB bs) {r : Ru} (hrp : F.rules[c.p]? = some r) (hv1 : F.vls.length ≤ 1000) :
    HCalls Tryz.prog 50 #[.pointer (some ⟨xb, 0, none⟩)] h (fun v h' => ∃ d', IgOk base h' F xb c nx d' ds es ∧ MemAt h' F.mb F.cb F.lb M ∧ ChgT base TyI h h' ∧
      ((v = .nilFunc ∧ ((classM bs r).2 ≠ 0 ∨ findV (classM bs r).1 F.vls 0 < 0) ∧ d' = { d with vid := (classM bs r).1, why := if (classM bs r).2 ≠ 0 then (classM bs r).2 else 7 }) ∨
       (v = .func (.func 106) #[] #[] ∧ (classM bs r).2 = 0 ∧ ¬ findV (classM bs r).1 F.vls 0 < 0 ∧ ∃ t tc ty A n cp, d' = { d with vid := (classM bs r).1, dst := macN bs, src := macN (bs.drop 6), tg := t, tc := tc, ty := ty, ldA := A, ldN := n, ldC := cp }))) := by
  have H := S.raw
  have hpl := (List.getElem?_eq_some_iff.1 hrp).1
  obtain ⟨a, ha, hrd⟩ := (S.rules.row encRu_len) c.p r hrp
  have hcap := own_cap ob
  refine xcalls env_iClassQ Tryz.func50 rfl (by kernel_rfl) rfl (by kernel_rfl) ?_
  repeat (first | refine ⟨_, cell_blk (H) rfl, ?_⟩)
  refine ⟨a, ha, Int.natCast_nonneg c.p, Int.ofNat_lt.2 hpl, encRu r, rfl, hrd, ?_⟩
  refine (vClassG_spec (ob.row encU8_len) hl (by omega) (by omega) hb r).mono ?_
  rintro v h1 ⟨rfl, x1⟩
  have S1 := S.ext x1
  have H1 := S1.raw
  generalize hcl : classM bs r = cl
  obtain ⟨cv, cw⟩ := cl
  refine ⟨rfl, rfl, canset_blk H1 rfl, fun h2 s2 => ?_⟩
  have c2 := s2.chg (l := [(xb, 144)]) H1 (.head _)
  have S2 : IgOk base h2 F xb c nx { d with vid := cv } ds es := S1.field (s2.put H1) c2 S.nw
  have H2 := S2.raw
  have M2 := (HM.ext x1).chg c2 (by simp) (by simp) (by simp)
  have f2 : ChgT base TyI h h2 := (x1.chgT S.hB).trans (S1.ci c2)
  refine xif_of (fun g => ?_) (fun g => ?_)
  · have g : cw ≠ 0 := by simpa using g
    refine (iRefusedQ_spec S2 cw).mono ?_
    rintro v h3 ⟨rfl, S3, c3⟩
    exact ⟨_, S3, M2.chg c3 (by simp) (by simp) (by simp), f2.trans (S2.ci c3), .inl ⟨rfl, .inl g, by rw [if_pos g]⟩⟩
  have g : cw = 0 := by simpa using g
  subst g
  repeat (first | refine ⟨_, cell_blk (H2) rfl, ?_⟩)
  refine (vFind_spec (S2.vls.row encVl_len) (by omega)).mono ?_
  rintro v h3 ⟨rfl, x3⟩
  have S3 := S2.ext x3
  have f3 := f2.trans (x3.chgT S2.hB)
  refine xif_of (fun g => ?_) (fun g => ?_)
  · have g : findV cv F.vls 0 < 0 := of_decide_eq_true g
    refine (iRefusedQ_spec S3 7).mono ?_
    rintro v h4 ⟨rfl, S4, c4⟩
    exact ⟨_, S4, (M2.ext x3).chg c4 (by simp) (by simp) (by simp), f3.trans (S3.ci c4), .inl ⟨rfl, .inr g, rfl⟩⟩
  have g : ¬ findV cv F.vls 0 < 0 := of_decide_eq_false g
  have H3 := S3.raw
  repeat (first | refine ⟨_, cell_blk (H3) rfl, ?_⟩)
  have ob3 := ((ob.ext x1).chg c2 (fun b _ => by simp)).ext x3
  refine (fParseG_spec (ob3.row encU8_len) hl (by omega) (show d.bn ≤ d.bc by omega) hb).mono ?_
  rintro v h4 ⟨d0, s0, t, tc, ty, A', n', c', rfl, hp, hp2, x4⟩
  have hpl0 : parseL bs = 0 := by
    unfold classM at hcl
    by_cases e : parseL bs ≠ 0
    · rw [if_pos e] at hcl
      exact whyE_parse (congrArg Prod.snd hcl)
    · exact Classical.byContradiction e
  obtain ⟨rfl, rfl, _, _⟩ := hp hpl0
  have S4 := S3.ext x4
  have H4 := S4.raw
  refine ⟨rfl, rfl, canset_blk H4 rfl, fun h5 s5 => ?_⟩
  have c5 := s5.chg (l := [(xb, 144)]) H4 (.head _)
  have S5 : IgOk base h5 F xb c nx { d with vid := cv, dst := macN bs, src := macN (bs.drop 6), tg := t, tc := tc, ty := ty, ldA := A', ldN := n', ldC := c' } ds es := S4.field (s5.put H4) c5 S.nw
  exact ⟨_, S5, ((M2.ext x3).ext x4).chg c5 (by simp) (by simp) (by simp), (f3.trans (x4.chgT S3.hB)).trans (S4.ci c5), .inr ⟨rfl, rfl, g, t, tc, ty, A', n', c', rfl⟩⟩
theorem cMembersQ_spec (H : FabAt h F) (HM : MemAt h F.mb F.cb F.lb M) {vid : Int} {i : Nat} (hi : findV vid F.vls 0 = (i : Int)) (hv : i ≤ 1000) {y : Int} (hx : M.cells[F.P + 2 * i]? = some y) (ht : M.t < 1000000) : HCalls Tryz.prog 168 #[.pointer (some ⟨F.fb, 0, none⟩), .int .i64 vid] h (fun v h' => v = .int .u64 y ∧ MemAt h' F.mb F.cb F.lb { M with t := M.t + 1 } ∧ Chg [(F.mb, 205)] h h') := by
  refine xcalls env_cMembersQ Tryz.func168 rfl (by kernel_rfl) rfl (by kernel_rfl) ?_
  refine (cVlan_spec H vid).mono ?_
  rintro v h1 ⟨rfl, x1⟩
  rw [hi]
  obtain ⟨RA, rc, hb', hr⟩ := (H.ext x1).blk
  repeat (first | refine ⟨_, cell_blk (hb') rfl, ?_⟩)
  refine (cVlanAt_fab (H.ext x1) (i := i) hv).mono ?_
  rintro v h2 ⟨rfl, rfl⟩
  try (refine ⟨by ((repeat (first | refine ⟨cell_blk (hb') rfl, ?_⟩)); exact trivial), ?_⟩)
  refine (mLoad_spec (HM.ext x1) hx ht).mono ?_
  rintro v h3 ⟨rfl, m3, c3⟩
  exact ⟨rfl, m3, (x1.chg _).trans (c3.mono (by first | (simp; done) | (intro p hp; simp [hp]; done) | (simp [ML]; done) | (intro p hp; simp [ML] at hp ⊢; rcases hp with h | h | h <;> simp [h]; done)))⟩
def askOp (k port vid : Int) : Op17 := ⟨k, port, 0, vid, 0, 0, 0, 0, 0, 0, 0, 0, 0, 0⟩
/-- Who is in its VLAN, and the gauge. -/
theorem iMembersQ_spec (S : IgOk base h F xb c nx d ds es) (HF : FabAt h F) (HM : MemAt h F.mb F.cb F.lb M) (hb : base ≤ F.mb) (hl : es.length < 10000) {i : Nat} (hi : findV d.vid F.vls 0 = (i : Int)) (hi2 : i ≤ 1000) {y : Int} (hx : M.cells[F.P + 2 * i]? = some y) (wy : SetWf y) (ht : M.t < 900000) (hd0 : 0 ≤ d.dst) (hd1 : d.dst < 18446744073709551616) :
    HCalls Tryz.prog 106 #[.pointer (some ⟨xb, 0, none⟩)] h (fun v h' => ∃ d' A cp, IgOk base h' F xb c nx d' ds (es ++ [⟨c.who, (M.t : Int), ((M.t + 1 : Nat) : Int), ((M.t + 1 : Nat) : Int), askOp 1 0 d.vid, IntKind.i64.wrap y⟩]) ∧ MemAt h' F.mb F.cb F.lb { M with t := M.t + 1 } ∧ ChgT base TyI h h' ∧
      ((v = .nilFunc ∧ hasM y c.p = false ∧ d' = { d with lA := A, lc := cp, mem := y, why := 8 }) ∨
       (v = .func (.func 172) #[] #[] ∧ hasM y c.p = true ∧ kindM d.dst = 0 ∧ d' = { d with lA := A, lc := cp, mem := y }) ∨
       (hasM y c.p = true ∧ kindM d.dst ≠ 0 ∧ ∃ (r : Nat) (ok : Bool), (ok = true ∧ v = .func (.func 172) #[] #[] ∧ d' = { d with lA := A, lc := cp, mem := y, g3 := r, g4 := d.tick }) ∨ (ok = false ∧ v = .nilFunc ∧ d' = { d with lA := A, lc := cp, mem := y, g3 := r, g4 := d.tick, why := 10 })))) := by
  have H := S.raw
  refine xcalls env_iMembersQ Tryz.func106 rfl (by kernel_rfl) rfl (by kernel_rfl) ?_
  repeat (first | refine ⟨_, cell_blk (H) rfl, ?_⟩)
  refine (iBeginOp_spec S HF HM hl (askOp 1 0 d.vid)).mono ?_
  rintro v h1 ⟨rfl, ⟨A, cp, S1⟩, M1, f1⟩
  have H1 := S1.raw
  have F1 := HF.ci f1
  repeat (first | refine ⟨_, cell_blk (H1) rfl, ?_⟩)
  refine (cMembersQ_spec F1 M1 hi hi2 hx (by omega)).mono ?_
  rintro v h2 ⟨rfl, M2, c2⟩
  have S2 := S1.chg c2 (by simp) (fun k => by simp) (fun k => by simp) (fun k => by simp) (fun k => by simp)
  have f2 : ChgT base TyI h1 h2 := c2.chgT S1.hB fun q hq => by simp at hq; subst hq; exact ⟨hb, by simp [TyI]⟩
  have F2 := F1.ci f2
  have H2 := S2.raw
  refine ⟨rfl, rfl, canset_blk H2 rfl, fun h3 s3 => ?_⟩
  have c3 := s3.chg (l := [(xb, 144)]) H2 (.head _)
  have S3 : IgOk base h3 F xb c nx { d with lA := A, lc := cp, mem := y } ds _ := S2.field (s3.put H2) c3 S.nw
  have H3 := S3.raw
  have F3 := F2.ci (S2.ci c3)
  have M3 := M2.chg c3 (by simp) (by simp) (by simp)
  have f3 := (f1.trans f2).trans (S2.ci c3)
  repeat (first | refine ⟨_, cell_blk (H3) rfl, ?_⟩)
  refine (cMem_spec F3).mono ?_
  rintro v h4 ⟨rfl, rfl⟩
  try (refine ⟨by ((repeat (first | refine ⟨cell_blk (H3) rfl, ?_⟩)); exact trivial), ?_⟩)
  refine (mTime_spec M3).mono ?_
  rintro v h4 ⟨rfl, rfl⟩
  try (refine ⟨by ((repeat (first | refine ⟨cell_blk (H3) rfl, ?_⟩)); exact trivial), ?_⟩)
  repeat (first | refine ⟨_, cell_blk (H3) rfl, ?_⟩)
  refine (iEndOp_spec S3 F3 M3 _ _).mono ?_
  rintro v h5 ⟨rfl, S5, M5, f5⟩
  have f5 := f3.trans f5
  have H5 := S5.raw
  repeat (first | refine ⟨_, cell_blk (H5) rfl, ?_⟩)
  refine (vHas_spec wy).mono ?_
  rintro v h6 ⟨rfl, rfl⟩
  refine xif_of (fun g => ?_) (fun g => ?_)
  · have g : hasM y c.p = false := by simpa using g
    refine (iRefusedQ_spec S5 8).mono ?_
    rintro v h7 ⟨rfl, S7, c7⟩
    exact ⟨_, A, cp, S7, M5.chg c7 (by simp) (by simp) (by simp), f5.trans (S5.ci c7), .inl ⟨rfl, g, rfl⟩⟩
  have g : hasM y c.p = true := by simpa using g
  repeat (first | refine ⟨_, cell_blk (H5) rfl, ?_⟩)
  refine (macKind_spec hd0 hd1 _).mono ?_
  rintro v h7 ⟨rfl, rfl⟩
  refine xif_of (fun g2 => ?_) (fun g2 => ?_)
  rotate_left
  · have g2 : kindM d.dst = 0 := by simpa [kindM] using g2
    exact ⟨_, A, cp, S5, M5, f5, .inr (.inl ⟨rfl, g, g2, rfl⟩)⟩
  have g2 : kindM d.dst ≠ 0 := by simpa [kindM] using g2
  refine ⟨Nat × Nat × Bool, fun z => [(0, .pointer (some ⟨xb, 0, none⟩)), (3, .pointer (some ⟨z.1, 0, none⟩)), (4, .bool z.2.2)],
    fun z h' => h'[z.1]? = some (.cells [.float .f64 d.g1, .float .f64 d.g2, .float .f64 z.2.1, .int .u32 d.tick].toArray 39 (0, 0)) ∧ Ext h7 h', ?_, ?_⟩
  · refine ⟨[.float .f64 d.g1, .float .f64 d.g2, .float .f64 d.g3, .int .u32 d.g4], rfl, reads_at H5 rfl, ?_⟩
    repeat (first | refine ⟨_, cell_blk (H5) rfl, ?_⟩)
    refine ⟨?_, ?_⟩
    · refine (gTakeQ_spec d.g1 d.g2 d.g3 d.g4 d.tick).mono ?_
      rintro v h8 ⟨r, ok, rfl, x8⟩
      intro gb h9 n9
      have H9 := n9.ext.blk (x8.blk H5)
      refine ⟨by first | exact ⟨reads_at H9 rfl, cell_blk H9 rfl, trivial⟩ | exact ⟨cell_blk H9 rfl, reads_at H9 rfl, trivial⟩, ?_⟩
      refine ⟨rfl, rfl, canset_blk n9.this rfl, fun h10 s10 => ?_⟩
      have hg10 : h10[gb]? = some (.cells [.float .f64 d.g1, .float .f64 d.g2, .float .f64 r, .int .u32 d.tick].toArray 39 (0, 0)) := s10.put n9.this
      exact ⟨(gb, r, ok), ⟨rfl, rfl, rfl, trivial⟩, hg10, (x8.trans n9.ext).stored s10 (n9.ge x8)⟩
    · intro gb h9 n9
      have H9 := n9.ext.blk H5
      refine ⟨by first | exact ⟨reads_at H9 rfl, cell_blk H9 rfl, trivial⟩ | exact ⟨cell_blk H9 rfl, reads_at H9 rfl, trivial⟩, ?_⟩
      refine (gTakeQ_spec d.g1 d.g2 d.g3 d.g4 d.tick).mono ?_
      rintro v h8 ⟨r, ok, rfl, x8⟩
      refine ⟨rfl, rfl, canset_blk (x8.blk n9.this) rfl, fun h10 s10 => ?_⟩
      have hg10 : h10[gb]? = some (.cells [.float .f64 d.g1, .float .f64 d.g2, .float .f64 r, .int .u32 d.tick].toArray 39 (0, 0)) := s10.put (x8.blk n9.this)
      exact ⟨(gb, r, ok), ⟨rfl, rfl, rfl, trivial⟩, hg10, (n9.ext.trans x8).stored s10 (n9.ge (Ext.refl _))⟩
  rintro ⟨gb, r, ok⟩ h8 ⟨hg8, x8⟩
  simp only at hg8
  have S8 := S5.ext x8
  have H8 := S8.raw
  refine ⟨_, rfl, reads_all hg8, ?_⟩
  refine ⟨rfl, rfl, canset_blk H8 rfl, fun h9 s9 => ?_⟩
  have c9 := s9.chg (l := [(xb, 144)]) H8 (.head _)
  have S9 : IgOk base h9 F xb c nx { d with lA := A, lc := cp, mem := y, g3 := r, g4 := d.tick } ds _ := S8.field (s9.put H8) c9 S.nw
  have M9 := (M5.ext x8).chg c9 (by simp) (by simp) (by simp)
  have f9 := (f5.trans (x8.chgT S5.hB)).trans (S8.ci c9)
  cases ok with
  | true => exact ⟨_, A, cp, S9, M9, f9, .inr (.inr ⟨g, g2, r, true, .inl ⟨rfl, rfl, rfl⟩⟩)⟩
  | false =>
    refine (iRefusedQ_spec S9 10).mono ?_
    rintro v h10 ⟨rfl, S10, c10⟩
    exact ⟨_, A, cp, S10, M9.chg c10 (by simp) (by simp) (by simp), f9.trans (S9.ci c10), .inr (.inr ⟨g, g2, r, false, .inr ⟨rfl, rfl, rfl⟩⟩)⟩
theorem pLearnsQ_no {st : Int} (h3 : st ≠ 3) (h4 : st ≠ 4) : HCalls Tryz.prog 210 #[.int .i64 st] h (fun v h' => v = .bool false ∧ h' = h) := by
  refine xcalls env0 Tryz.func210 rfl (by kernel_rfl) rfl (by kernel_rfl) ?_
  refine xif_false (beq_eq_false_iff_ne.2 h3) ?_
  exact ⟨congrArg Value.bool (beq_eq_false_iff_ne.2 h4), rfl⟩
/-- The port doesn't learn. -/
theorem iStandQ_shut (S : IgOk base h F xb c nx d ds es) (HF : FabAt h F) (HM : MemAt h F.mb F.cb F.lb M) (hb : base ≤ F.mb) (hl : es.length < 10000) {st ep : Int} (hs : rightSt st = true) (n3 : st ≠ 3) (n4 : st ≠ 4) (e0 : 0 ≤ ep) (e1 : ep < 4294967296) (hx : M.cells[c.p]? = some (standW st ep)) (ht : M.t < 900000) :
    HCalls Tryz.prog 172 #[.pointer (some ⟨xb, 0, none⟩)] h (fun v h' => ∃ A cp, v = .nilFunc ∧ IgOk base h' F xb c nx { d with lA := A, lc := cp, state := st, why := 9 } ds (es ++ [⟨c.who, (M.t : Int), ((M.t + 1 : Nat) : Int), ((M.t + 1 : Nat) : Int), askOp 0 c.p 0, st⟩]) ∧ MemAt h' F.mb F.cb F.lb { M with t := M.t + 1 } ∧ ChgT base TyI h h') := by
  have H := S.raw
  refine xcalls env_iStandQ Tryz.func172 rfl (by kernel_rfl) rfl (by kernel_rfl) ?_
  repeat (first | refine ⟨_, cell_blk (H) rfl, ?_⟩)
  refine (iBeginOp_spec S HF HM hl (askOp 0 c.p 0)).mono ?_
  rintro v h1 ⟨rfl, ⟨A, cp, S1⟩, M1, f1⟩
  have H1 := S1.raw
  have F1 := HF.ci f1
  repeat (first | refine ⟨_, cell_blk (H1) rfl, ?_⟩)
  refine (cStandS_spec F1 M1 S.pP hs e0 e1 hx (by omega)).mono ?_
  rintro v h2 ⟨rfl, M2, c2⟩
  have S2 := S1.chg c2 (by simp) (fun k => by simp) (fun k => by simp) (fun k => by simp) (fun k => by simp)
  have f2 : ChgT base TyI h1 h2 := c2.chgT S1.hB fun q hq => by simp at hq; subst hq; exact ⟨hb, by simp [TyI]⟩
  have F2 := F1.ci f2
  have H2 := S2.raw
  refine ⟨rfl, rfl, canset_blk H2 rfl, fun h3 s3 => ?_⟩
  have c3 := s3.chg (l := [(xb, 144)]) H2 (.head _)
  have S3 : IgOk base h3 F xb c nx { d with lA := A, lc := cp, state := st } ds _ := S2.field (s3.put H2) c3 S.nw
  have H3 := S3.raw
  have F3 := F2.ci (S2.ci c3)
  have M3 := M2.chg c3 (by simp) (by simp) (by simp)
  have f3 := (f1.trans f2).trans (S2.ci c3)
  repeat (first | refine ⟨_, cell_blk (H3) rfl, ?_⟩)
  refine (cMem_spec F3).mono ?_
  rintro v h4 ⟨rfl, rfl⟩
  try (refine ⟨by ((repeat (first | refine ⟨cell_blk (H3) rfl, ?_⟩)); exact trivial), ?_⟩)
  refine (mTime_spec M3).mono ?_
  rintro v h4 ⟨rfl, rfl⟩
  try (refine ⟨by ((repeat (first | refine ⟨cell_blk (H3) rfl, ?_⟩)); exact trivial), ?_⟩)
  repeat (first | refine ⟨_, cell_blk (H3) rfl, ?_⟩)
  refine (iEndOp_spec S3 F3 M3 _ _).mono ?_
  rintro v h5 ⟨rfl, S5, M5, f5⟩
  have f5 := f3.trans f5
  have H5 := S5.raw
  repeat (first | refine ⟨_, cell_blk (H5) rfl, ?_⟩)
  refine (pLearnsQ_no n3 n4).mono ?_
  rintro v h6 ⟨rfl, rfl⟩
  refine (iRefusedQ_spec S5 9).mono ?_
  rintro v h7 ⟨rfl, S7, c7⟩
  exact ⟨A, cp, rfl, S7, M5.chg c7 (by simp) (by simp) (by simp), f5.trans (S5.ci c7)⟩
end
end Go.Proofs.YtjjempefncgfhaaGreatDoorE
/- Frames that come in, no more than can be looked at; what became of those that are over. Conditions: the bytes are bytes. -/
set_option linter.unusedVariables false
set_option linter.unusedSimpArgs false
set_option maxRecDepth 100000
namespace Go.Proofs.YtjjempefncgfhaaGreatDoorE
open Go Go.Proofs
/-- A frame that came: at which port, its number, its bytes, at which tick. -/
structure Cw where
  port : Int
  id : Int
  A : Option Addr
  n : Nat
  c : Nat
  now : Int
  bs : List Int
def encCw (x : Cw) : List Value := [.int .i64 x.port, .int .i64 x.id, .slice x.A x.n x.c, .int .u32 x.now]
theorem encCw_len (x : Cw) : (encCw x).length = 4 := rfl
theorem encCw_one (x : Cw) : (encCw x).all Value.oneCell' = true := rfl
def CwIn (h : Heap) (x : Cw) : Prop := Row encU8 1 h x.A x.bs ∧ x.bs.length = x.n ∧ x.n ≤ x.c ∧ IsB x.bs
structure CwOk (base : Nat) (h : Heap) (P : Nat) (x : Cw) : Prop where
  own : OwnA encU8 1 5 base h x.A x.c x.bs
  len : x.bs.length = x.n
  lim : x.n ≤ 1600
  isB : IsB x.bs
  p0 : 0 ≤ x.port
  p1 : x.port < P
section
variable {h h' : Heap}
theorem cwInfo : (Tryz.prog.info? 62).map (fun i => (i.size, i.bytes)) = some (4, 48) := by kernel_rfl
theorem cwZero : xzero Tryz.prog 62 = some (encCw ⟨0, 0, none, 0, 0, 0, []⟩) := by kernel_rfl
theorem few20_spec {A : Option Addr} {n c P : Nat} {row : List Cw} (hr : Row encCw 4 h A row) (hl : row.length = n) (hi : ∀ x ∈ row, CwIn h x) (p1 : 0 < P) (p2 : P ≤ 64) :
    HCalls Tryz.prog 20 #[.slice A n c, .int .i64 (P : Int)] h (fun v h' => ∃ A' c' out, v = .slice A' (min n 24) c' ∧ out.length = min n 24 ∧ OwnA encCw 4 62 h.size h' A' c' out ∧ (∀ x ∈ out, CwOk h.size h' P x) ∧ Ext h h') := by
  refine xcalls env0 Tryz.func20 rfl (by kernel_rfl) rfl (by kernel_rfl) ?_
  refine ⟨Nat × Option Addr × Nat × List Cw, fun z => [(0, .slice A n c), (1, .int .i64 (P : Int)), (5, .slice z.2.1 z.1 z.2.2.1), (6, .int .i64 (z.1 : Int))], fun z h' => z.1 ≤ n ∧ z.1 ≤ 24 ∧ z.2.2.2.length = z.1 ∧ OwnA encCw 4 62 h.size h' z.2.1 z.2.2.1 z.2.2.2 ∧ (∀ x ∈ z.2.2.2, CwOk h.size h' P x) ∧ Ext h h', fun z => n - z.1, (0, none, 0, []), ⟨rfl, rfl, rfl, rfl, trivial⟩, ⟨Nat.zero_le _, Nat.zero_le _, rfl, .inl ⟨rfl, rfl, rfl⟩, fun x hx => by simp at hx, Ext.refl _⟩, ?_⟩
  rintro ⟨i, A1, c1, out⟩ h1 ⟨hi1, hi2, hol, o1, ok1, x1⟩
  simp only at hi1 hi2 hol o1 ok1
  refine xif_of (fun g => ?_) (fun g => ?_)
  rotate_left
  · have g : ¬ (i : Int) < n := of_decide_eq_false g
    have e : i = n := by omega
    exact ⟨A1, c1, out, by rw [show min n 24 = i by omega]; rfl, by omega, o1, ok1, x1⟩
  have g : (i : Int) < n := of_decide_eq_true g
  refine xif_of (fun g2 => ?_) (fun g2 => ?_)
  rotate_left
  · have g2 : ¬ (i : Int) < 24 := of_decide_eq_false g2
    exact ⟨A1, c1, out, by rw [show min n 24 = i by omega]; rfl, by omega, o1, ok1, x1⟩
  have g2 : (i : Int) < 24 := of_decide_eq_true g2
  obtain ⟨x, hx⟩ : ∃ x, row[i]? = some x := ⟨_, List.getElem?_eq_getElem (by omega)⟩
  obtain ⟨xr, xl, xc, xb⟩ := hi x (List.mem_of_getElem? hx)
  obtain ⟨a, ha, hrd⟩ := (x1.row hr) i x hx
  refine ⟨a, ha, Int.natCast_nonneg i, g, encCw x, rfl, hrd, ?_⟩
  intro cb h2 n2
  refine ⟨rfl, rfl, canset_blk n2.this rfl, fun h3 s3 => ?_⟩
  have hc3 : h3[cb]? = some (.cells (encCw x).toArray 62 (0, 0)) := s3.put n2.this
  have x3 : Ext h1 h3 := n2.ext.stored s3 (n2.ge (Ext.refl _))
  repeat (first | refine ⟨_, cell_blk (hc3) rfl, ?_⟩)
  obtain ⟨q, hq⟩ : ∃ q : Nat, x.port % 18446744073709551616 % (P : Int) = q := ⟨_, (Int.toNat_of_nonneg (Int.emod_nonneg _ (by omega))).symm⟩
  have hqP : q < P := by have := Int.emod_lt_of_pos (x.port % 18446744073709551616) (show (0 : Int) < P by omega); omega
  have em := mod_put2 (x := x.port) p1 (by omega) hq
  have ep : IntKind.u64.wrap (P : Int) = (P : Int) := wrap_u64 (by omega) (by omega)
  refine ⟨by rw [ep]; omega, ?_⟩
  refine ⟨rfl, rfl, canset_blk hc3 rfl, fun h4 s4 => ?_⟩
  have hc4 : h4[cb]? = some (.cells (encCw { x with port := (q : Int) }).toArray 62 (0, 0)) := by
    have := s4.put hc3
    rw [em] at this
    exact this
  refine ⟨rfl, rfl, canset_blk hc4 rfl, fun h5 s5 => ?_⟩
  have hc5 : h5[cb]? = some (.cells (encCw { x with port := (q : Int), id := (i : Int) }).toArray 62 (0, 0)) := s5.put hc4
  have gcb : h1.size ≤ cb := n2.ge (Ext.refl _)
  have x5 : Ext h1 h5 := (x3.stored s4 gcb).stored s5 gcb
  intro eb h6 n6
  have hc6 := n6.ext.blk hc5
  repeat (first | refine ⟨_, cell_blk (hc6) rfl, ?_⟩)
  have emn : (if (1600 : Int) < (x.n : Int) then (1600 : Int) else (x.n : Int)) = ((min x.n 1600 : Nat) : Int) := by split <;> omega
  have x6 := x5.trans n6.ext
  have xa6 := x1.trans x6
  have ow6 : OwnA encU8 1 5 h.size h6 (some ⟨eb, 0, none⟩) 0 ([] : List Int) := .inr ⟨eb, [], rfl, n6.ge (x1.trans x5), n6.this, rfl, Nat.le_refl _⟩
  have t0 : Int.toNat 0 = 0 := rfl
  refine ⟨by decide, by decide, by show 0 ≤ (if (1600 : Int) < (x.n : Int) then (1600 : Int) else (x.n : Int)); rw [emn]; omega, by show (if (1600 : Int) < (x.n : Int) then (1600 : Int) else (x.n : Int)) ≤ (x.c : Int); rw [emn]; omega, Int.le_refl _, ?_⟩
  have hrow := row_first (xa6.row xr) (min x.n 1600) (q := ((x.c : Int)).toNat = Int.toNat 0) (inst := inferInstance) (f := fun a => a.add (Int.toNat 0 * 1)) (fun a => add_zero' a)
  refine xappend_many (xs := []) (ys := x.bs.take (min x.n 1600)) u8Info u8Zero rfl (by decide) encU8_len encU8_one ow6 rfl ?_ (row_readsOf encU8_len hrow) ?_ (xa6.size) fun A' c' h7 o7 K7 => ?_
  · show (x.bs.take (min x.n 1600)).length = (if (1600 : Int) < (x.n : Int) then (1600 : Int) else (x.n : Int)).toNat - Int.toNat 0
    rw [emn, Int.toNat_natCast, List.length_take]; omega
  · show (0 + ((if (1600 : Int) < (x.n : Int) then (1600 : Int) else (x.n : Int)).toNat - Int.toNat 0)) * 1 ≤ 140737488355328
    rw [emn, Int.toNat_natCast]; omega
  have o7 : OwnA encU8 1 5 h.size h7 A' c' (x.bs.take (min x.n 1600)) := o7
  have x7 : Ext h1 h7 := K7.ext x6 (fun b e => by cases e; exact n6.ge x5)
  have hc7 : h7[cb]? = some (.cells (encCw { x with port := (q : Int), id := (i : Int) }).toArray 62 (0, 0)) := K7.blkT ow6 hc6 (by decide)
  have el : 0 + ((if (1600 : Int) < (x.n : Int) then (1600 : Int) else (x.n : Int)).toNat - Int.toNat 0) = min x.n 1600 := by rw [emn, Int.toNat_natCast]; omega
  refine ⟨rfl, rfl, canset_blk hc7 rfl, fun h8 s8 => ?_⟩
  have s8' : Stored h7 ⟨cb, 2, none⟩ [.slice A' (min x.n 1600) c'] h8 := (congrArg (fun m => Stored h7 ⟨cb, 2, none⟩ [.slice A' m c'] h8) el).mp s8
  obtain ⟨z, hz⟩ : ∃ z : Cw, z = ⟨(q : Int), (i : Int), A', min x.n 1600, c', x.now, x.bs.take (min x.n 1600)⟩ := ⟨_, rfl⟩
  have hc8 : h8[cb]? = some (.cells (encCw z).toArray 62 (0, 0)) := by
    rw [hz]
    exact s8'.put hc7
  have x8 : Ext h1 h8 := x7.stored s8' gcb
  have c8 : Chg [(cb, 62)] h7 h8 := s8'.chg hc7 (.head _)
  have o8 := o7.chg c8 (fun b _ => by simp)
  refine ⟨_, rfl, reads_all hc8, ?_⟩
  intro nb h9 n9
  have n9' : New h8 h9 nb (.cells (encCw z).toArray 62) := n9
  have hout : OwnA encCw 4 62 h.size h8 A1 c1 out := o1.ext x8
  refine xappend_one' cwInfo cwZero rfl (by decide) encCw_len encCw_one hout n9' hol (by omega) (x1.trans x8).size fun A2 c2 h10 o10 K10 hA10 => ?_
  obtain ⟨l10, c10, hl10⟩ := K10.toChg hout
  have x10 : Ext h h10 := K10.ext (x1.trans x8) hout.ge
  refine ⟨(i + 1, A2, c2, out ++ [z]), ⟨rfl, rfl, rfl, slot_inc (by omega), trivial⟩, ⟨by show i + 1 ≤ n; omega, by show i + 1 ≤ 24; omega, by show (out ++ [z]).length = i + 1; rw [List.length_append, hol]; rfl, o10, fun y hy => ?_, x10⟩, by show n - (i + 1) < n - i; omega⟩
  rcases List.mem_append.1 hy with hy | hy
  · obtain ⟨b1, b2, b3, b4, b5, b6⟩ := ok1 y hy
    exact ⟨(b1.ext x8).chg c10 (fun b _ hm => absurd (show (5 : TypeId) = 62 from (hl10 _ hm).1) (by decide)), b2, b3, b4, b5, b6⟩
  · rw [List.mem_singleton] at hy
    rw [hy, hz]
    exact ⟨o8.chg c10 (fun b _ hm => absurd (show (5 : TypeId) = 62 from (hl10 _ hm).1) (by decide)), by show (x.bs.take (min x.n 1600)).length = min x.n 1600; rw [List.length_take]; omega, by show min x.n 1600 ≤ 1600; omega, fun y hy => xb y (List.mem_of_mem_take hy), by show (0 : Int) ≤ (q : Int); omega, by show (q : Int) < (P : Int); omega⟩
theorem dnCloneU_spec {base : Nat} {A : Option Addr} {c n : Nat} {l : List DnV} (own : OwnA encDn 7 66 base h A c l) (hl : l.length = n) (hn : n ≤ 100000) : HCalls Tryz.prog 51 #[.slice A n c] h (fun v h' => ∃ A' c', v = .slice A' n c' ∧ OwnA encDn 7 66 h.size h' A' c' l ∧ Ext h h') := by
  subst hl
  refine xcalls env0 Tryz.func51 rfl (by kernel_rfl) rfl (by kernel_rfl) ?_
  cases A with
  | none =>
    rcases own with ⟨_, rfl, rfl⟩ | ⟨_, _, e, _⟩
    · exact ⟨none, 0, rfl, .inl ⟨rfl, rfl, rfl⟩, Ext.refl _⟩
    · cases e
  | some a =>
    intro b1 h1 n1
    have own1 : OwnA encDn 7 66 h.size h1 (some ⟨b1, 0, none⟩) 0 ([] : List DnV) := .inr ⟨b1, [], rfl, n1.ge (Ext.refl _), n1.this, rfl, Nat.le_refl _⟩
    refine xappend_many (xs := []) (ys := l) dnInfo dnZero rfl (by decide) encDn_len encDn_one own1 rfl rfl ((own.ext n1.ext).reads) (by omega) n1.ext.size fun A' c' h' o k => ?_
    exact ⟨A', c', by rw [Nat.zero_add]; rfl, o, k.ext n1.ext (fun b' e => by cases e; exact n1.ge (Ext.refl _))⟩
theorem iCloneU_nil : HCalls Tryz.prog 52 #[.slice none 0 0] h (fun v h' => v = .slice none 0 0 ∧ h' = h) := by
  refine xcalls env0 Tryz.func52 rfl (by kernel_rfl) rfl (by kernel_rfl) ?_
  exact ⟨rfl, rfl⟩
/-- What became of all that are over. -/
theorem iDoneU_spec {base xb : Nat} {F : Fb} {c : IgC} {nx : Value} {d : IgD} {ds : List DnV} {es : List He} (S : IgOk base h F xb c nx d ds es) : HCalls Tryz.prog 14 #[.pointer (some ⟨xb, 0, none⟩)] h (fun v h' => ∃ A' c', v = .slice A' ds.length c' ∧ OwnA encDn 7 66 h.size h' A' c' ds ∧ Ext h h') := by
  have H := S.raw
  have hlim := S.lim.1
  refine xcalls env_iDoneU Tryz.func14 rfl (by kernel_rfl) rfl (by kernel_rfl) ?_
  repeat (first | refine ⟨_, cell_blk (H) rfl, ?_⟩)
  refine (dnCloneU_spec S.dl rfl (by omega)).mono ?_
  rintro v h1 ⟨A1, c1, rfl, o1, x1⟩
  refine ⟨Nat, fun i => [(3, .slice A1 ds.length c1), (13, .int .i64 ds.length), (14, .int .i64 (i : Int))], fun i h' => i ≤ ds.length ∧ OwnA encDn 7 66 h.size h' A1 c1 ds ∧ Ext h h', fun i => ds.length - i, 0, ⟨rfl, rfl, rfl, trivial⟩, ⟨Nat.zero_le _, o1, x1⟩, ?_⟩
  rintro i h2 ⟨hi, o2, x2⟩
  refine xif_of (fun g => ?_) (fun g => ?_)
  · have g : (i : Int) < ds.length := of_decide_eq_true g
    obtain ⟨y, hy⟩ : ∃ y, ds[i]? = some y := ⟨_, List.getElem?_eq_getElem (by omega)⟩
    obtain ⟨a, ha, hrd⟩ := o2.row encDn_len i y hy
    obtain ⟨b1, rfl⟩ : ∃ b1, A1 = some ⟨b1, 0, none⟩ := by
      rcases o2 with ⟨_, e, _⟩ | ⟨b, _, e, _⟩
      · rw [e] at hy; simp at hy
      · exact ⟨b, e⟩
    injection ha with ha
    subst ha
    have ea : ∀ f : Nat, (((⟨b1, 0, none⟩ : Addr).add (((i : Int)).toNat * 7)).add f) = ⟨b1, i * 7 + f, none⟩ := fun f => by rw [add_lit, add_lit, Int.toNat_natCast, Nat.zero_add]
    have r5 : cell h2 (((⟨b1, 0, none⟩ : Addr).add (((i : Int)).toNat * 7)).add 5) = some (.slice none 0 0) := by rw [Int.toNat_natCast]; exact hrd.get 5 rfl
    have r6 : cell h2 (((⟨b1, 0, none⟩ : Addr).add (((i : Int)).toNat * 7)).add 6) = some (.slice none 0 0) := by rw [Int.toNat_natCast]; exact hrd.get 6 rfl
    refine ⟨_, rfl, Int.natCast_nonneg i, g, _, r5, ?_⟩
    refine ⟨_, rfl, Int.natCast_nonneg i, g, _, r6, ?_⟩
    refine iCloneU_nil.mono ?_
    rintro v h3 ⟨rfl, rfl⟩
    try (refine ⟨⟨r6, trivial⟩, ?_⟩)
    refine iCloneU_nil.mono ?_
    rintro v h3 ⟨rfl, rfl⟩
    have gb := o2.ge b1 rfl
    have cs : ∀ (g : Heap), OwnA encDn 7 66 h.size g (some ⟨b1, 0, none⟩) c1 ds → ∀ f, f + 1 ≤ 7 → CanSet g (((⟨b1, 0, none⟩ : Addr).add (((i : Int)).toNat * 7)).add f) 1 := fun g og f hf => by
      obtain ⟨b, e, _, cs⟩ := og.canset encDn_len (i := i) (j := f) (n := 1) (by omega) hf
      cases e
      rw [ea]; exact cs
    have hset : ds.set i y = ds := set_same hy
    refine ⟨_, rfl, Int.natCast_nonneg i, g, rfl, rfl, cs _ o2 5 (by decide), fun h4 s4 => ?_⟩
    have s4' : Stored h3 ⟨b1, i * 7 + 5, none⟩ [.slice none 0 0] h4 := by rw [← ea]; exact s4
    have o4 := o2.put encDn_len (x' := y) rfl s4' hy (by show 5 + 1 ≤ 7; decide) rfl
    rw [hset] at o4
    have x4 := x2.stored s4' gb
    refine ⟨_, rfl, Int.natCast_nonneg i, g, rfl, rfl, cs _ o4 6 (by decide), fun h5 s5 => ?_⟩
    have s5' : Stored h4 ⟨b1, i * 7 + 6, none⟩ [.slice none 0 0] h5 := by rw [← ea]; exact s5
    have o5 := o4.put encDn_len (x' := y) rfl s5' hy (by show 6 + 1 ≤ 7; decide) rfl
    rw [hset] at o5
    exact ⟨i + 1, ⟨rfl, rfl, slot_inc (by omega), trivial⟩, ⟨by omega, o5, x4.stored s5' gb⟩, by show ds.length - (i + 1) < ds.length - i; omega⟩
  · have g : ¬ (i : Int) < ds.length := of_decide_eq_false g
    exact ⟨A1, c1, rfl, o2, x2⟩
end
end Go.Proofs.YtjjempefncgfhaaGreatDoorE
/- The arguments of the laws of layer 20, decoded. Conditions: none. -/
set_option linter.unusedVariables false
set_option linter.unusedSimpArgs false
set_option maxRecDepth 100000
namespace Go.Proofs.YtjjempefncgfhaaGreatDoorE
open Go Go.Proofs Go.ChangeShapes Go.WideShapes Go.ChangeAt Go.RowKit
section
variable {W : World}
theorem wf_u8i {n : Int} (h : (Lit.int .u8 n).wf = true) : 0 ≤ n ∧ n < 256 := by
  have : 0 ≤ n ∧ n ≤ 255 := by simpa [Lit.wf, IntKind.min, IntKind.max, IntKind.signed, IntKind.bits] using h
  omega
theorem dec_u8i {m : Nat} {cs : List Value} (h : DecW Tryz.prog W (m + 1) 5 cs) : ∃ y : Int, cs = encU8 y ∧ 0 ≤ y ∧ y < 256 := by
  obtain ⟨y, h0, w⟩ := h
  exact ⟨y, h0, wf_u8i w⟩
theorem dec_cw {cs : List Value} (h : DecW Tryz.prog W 5 62 cs) : ∃ x : Cw, cs = encCw x ∧ CwIn W.heap x := by
  obtain ⟨hl, hf⟩ := h
  have hl : cs.length = 4 := hl
  match cs, hl, hf with
  | [a, b, c, d], _, hf =>
    obtain ⟨⟨x, h0, _⟩, ⟨y, h1, _⟩, ⟨A, n, k, h2, lA, mA, rA⟩, ⟨z, h3, _⟩, _⟩ := hf
    have h0 : [a] = [Value.int .i64 x] := h0
    have h1 : [b] = [Value.int .i64 y] := h1
    have h2 : [c] = [Value.slice A n k] := h2
    have h3 : [d] = [Value.int .u32 z] := h3
    cases h0; cases h1; cases h2; cases h3
    obtain ⟨bs, l1, r1, w1⟩ := row_of_dec (enc' := encU8) (sz := 1) (by kernel_rfl) (fun cs h => dec_u8i h) rA
    exact ⟨⟨x, y, A, n, k, z, bs⟩, rfl, r1, l1, lA, w1⟩
end
end Go.Proofs.YtjjempefncgfhaaGreatDoorE
