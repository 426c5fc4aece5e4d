/- What stands in a fabric, told whole: its ports, its VLANs, its entries, what waits. Conditions: the cells tell it. -/
import Derived.Test.YtjjempefncgfhaaGreatDoorXSG
import Derived.Test.YtjjempefncgfhaaGreatDoorXSW
import Derived.Test.YtjjempefncgfhaaGreatDoorXGC
set_option linter.unusedVariables false
set_option linter.unusedSimpArgs false
set_option maxRecDepth 100000
namespace Go.Proofs.YtjjempefncgfhaaGreatDoorE
open Go Go.Proofs
def env_rList : Nat → Ann
  | 5 => ⟨.op 0 [] <| .op 1 [] <| .op 2 [] <| .op 3 [] <| .op 4 [] <| .op 5 [] <| .op 6 [] <| .op 7 [] <| .op 8 [] <| .op 9 [] <| .op 10 [] <| .op 12 [] <| .op 14 [] <| .op 15 [] <| .op 16 [] <| .op 17 [] <| .op 11 [4, 8, 17] <| .op 13 [] <| .op 18 [] <| .op 19 [] <| .op 20 [] <| .op 21 [] <| .op 22 [] <| .op 23 [] <| .nil, [0, 0, 2, 6, 14, 0, 32, 96, 224, 480, 0, 1024, 0, 7168, 0, 16384, 49152, 114688, 261120, 524256, 1048574, 2097150, 4194303, 8388607], false⟩
  | _ => ⟨.nil, [], false⟩
def env_cShape : Nat → Ann
  | 20 => ⟨.op 0 [] <| .op 1 [] <| .op 2 [] <| .op 3 [] <| .op 4 [] <| .op 5 [] <| .op 8 [] <| .op 9 [] <| .op 10 [] <| .op 11 [] <| .op 12 [] <| .op 13 [] <| .op 6 [3, 11] <| .op 7 [11] <| .op 17 [] <| .op 14 [11] <| .op 15 [] <| .op 16 [] <| .op 18 [] <| .op 19 [] <| .op 20 [] <| .nil, [0, 1, 3, 7, 0, 0, 48, 127, 0, 256, 768, 1792, 0, 0, 12543, 28927, 65535, 255, 262143, 524287, 1048575], false⟩
  | 23 => ⟨.op 0 [] <| .op 1 [] <| .op 2 [] <| .op 3 [] <| .op 4 [] <| .op 5 [] <| .op 6 [] <| .op 7 [] <| .op 8 [] <| .op 9 [] <| .op 10 [] <| .op 11 [] <| .op 12 [] <| .op 13 [] <| .nil, [0, 1, 3, 7, 15, 31, 0, 64, 192, 448, 960, 1984, 4095, 0], false⟩
  | 26 => ⟨.op 0 [] <| .op 1 [] <| .op 2 [] <| .op 3 [] <| .op 4 [] <| .op 5 [] <| .op 6 [] <| .op 7 [] <| .op 8 [] <| .op 9 [] <| .op 10 [] <| .op 11 [] <| .op 12 [] <| .op 13 [] <| .op 14 [] <| .op 15 [] <| .op 16 [] <| .op 17 [] <| .op 18 [] <| .op 19 [] <| .op 20 [] <| .op 21 [] <| .op 22 [1] <| .op 23 [1] <| .op 24 [] <| .op 25 [] <| .op 26 [] <| .nil, [0, 1, 0, 4, 12, 28, 0, 0, 128, 384, 896, 1920, 3968, 8128, 0, 0, 32768, 98304, 229376, 491520, 1015808, 2080768, 4194300, 8388604, 16777215, 33554431, 67108863], false⟩
  | _ => ⟨.nil, [], false⟩
section
variable {h h' : Heap} {B : Nat} {F : Fb} {M : MemS} {L : Nat → Nat → List Int}
theorem ringS_len (W : Rings h B F M L no2 no2) (HM : MemAt h F.mb F.cb F.lb M) {a b : Nat} (ha : a < F.P) (hb : b < F.P) (ht : M.t < 900000) : HCalls Tryz.prog 120 #[.pointer (some ⟨F.rb a b, 0, none⟩)] h (fun v h' => v = .int .i64 ((L a b).length : Int) ∧ h' = h) := by
  obtain ⟨R, r0, Q, small, hi, hob⟩ := W.ring a b ha hb
  have big := W.big
  have hic := Q.ic
  refine (rLen_spec r0 HM (a := R.ic) (b := R.oc) (by rw [Q.base]; exact Q.cp) (by rw [Q.base]; exact Q.ct) (by omega) (by omega) (by omega)).mono ?_
  rintro v h1 ⟨rfl, rfl⟩
  exact ⟨by rw [hic, Nat.add_sub_cancel_left], rfl⟩
theorem u64Info : (Tryz.prog.info? 51).map (fun i => (i.size, i.bytes)) = some (1, 8) := by kernel_rfl
theorem u64Zero : xzero Tryz.prog 51 = some (encU64 0) := by kernel_rfl
theorem intInfoS : (Tryz.prog.info? 3).map (fun i => (i.size, i.bytes)) = some (1, 8) := by kernel_rfl
theorem intZeroS : xzero Tryz.prog 3 = some (encI 0) := by kernel_rfl
theorem rFirst_spec {rb mb : Nat} {R : RS} (H : RingAt h rb mb R) : HCalls Tryz.prog 121 #[.pointer (some ⟨rb, 0, none⟩)] h (fun v h' => v = .int .i64 (R.oa : Int) ∧ h' = h) := by
  refine xcalls env0 Tryz.func121 rfl (by kernel_rfl) rfl (by kernel_rfl) ?_
  repeat (first | refine ⟨_, cell_blk (H) rfl, ?_⟩)
  exact ⟨rfl, rfl⟩
/-- What waits in a ring. -/
theorem rList_spec (W : Rings h B F M L no2 no2) (HM : MemAt h F.mb F.cb F.lb M) (s1 : 1 ≤ F.S) (s2 : F.S ≤ 64) {a b : Nat} (ha : a < F.P) (hb : b < F.P) (ht : M.t < 900000) : HCalls Tryz.prog 66 #[.pointer (some ⟨F.rb a b, 0, none⟩)] h (fun v h' => ∃ A c, v = .slice A (L a b).length c ∧ OwnA encU64 1 51 h.size h' A c (L a b) ∧ Ext h h') := by
  have hlen := ringS_len W HM ha hb ht
  obtain ⟨R, r0, Q, small, hi, hob⟩ := W.ring a b ha hb
  have big := W.big
  have hS : (L a b).length ≤ F.S := Q.len
  have oaS := Q.oa
  have bin := fun o (ho : o < F.S + 2) => bs_in (b0 := F.b0) (S := F.S) (o := o) ha hb ho
  have hL := W.len
  have hRs := Q.size
  have hRb := Q.base
  have hcx := Q.cx
  generalize hl : L a b = l at *
  refine xcalls env_rList Tryz.func66 rfl (by kernel_rfl) rfl (by kernel_rfl) ?_
  refine hlen.mono ?_
  rintro v h1 ⟨rfl, rfl⟩
  refine ⟨Nat × Option Addr × Nat, fun z => [(0, .pointer (some ⟨F.rb a b, 0, none⟩)), (3, .slice z.2.1 z.1 z.2.2), (6, .int .i64 l.length), (7, .int .i64 z.1)], fun z h' => z.1 ≤ l.length ∧ OwnA encU64 1 51 h1.size h' z.2.1 z.2.2 (l.take z.1) ∧ Ext h1 h', fun z => l.length - z.1, (0, none, 0), ⟨rfl, rfl, rfl, rfl, trivial⟩, ⟨Nat.zero_le _, .inl ⟨rfl, by simp, rfl⟩, Ext.refl _⟩, ?_⟩
  rintro ⟨i, A, c⟩ h2 ⟨hi2, o2, x2⟩
  simp only at hi2 o2
  have r2 := x2.blk r0
  have M2 := HM.ext x2
  refine xif_of (fun g => ?_) (fun g => ?_)
  · have g : (i : Int) < l.length := of_decide_eq_true g
    obtain ⟨y, hy⟩ : ∃ y, l[i]? = some y := ⟨_, List.getElem?_eq_getElem (by omega)⟩
    have hc := hcx i y hy
    repeat (first | refine ⟨_, cell_blk (r2) rfl, ?_⟩)
    refine (rFirst_spec r2).mono ?_
    rintro v h3 ⟨rfl, rfl⟩
    try (refine ⟨by ((repeat (first | refine ⟨cell_blk (r2) rfl, ?_⟩)); exact trivial), ?_⟩)
    repeat (first | refine ⟨_, cell_blk (r2) rfl, ?_⟩)
    have hm := bin (2 + (R.oa + i) % F.S) (by have := Nat.mod_lt (R.oa + i) (show 0 < F.S by omega); omega)
    have ei : IntKind.i64.wrap (IntKind.i64.wrap ((R.base : Int) + 2) + (IntKind.i64.wrap ((R.oa : Int) + (i : Int))).tmod (R.size : Int)) = ((bs F.b0 F.P F.S b a + (2 + (R.oa + i) % F.S) : Nat) : Int) := by
      have hmod := Nat.mod_lt (R.oa + i) (show 0 < F.S by omega)
      rw [wrap_i64 (x := (R.oa : Int) + (i : Int)) (by omega) (by omega), Int.tmod_eq_emod_of_nonneg (by omega), hRs, hRb]
      have e1 : ((R.oa : Int) + (i : Int)) % (F.S : Int) = (((R.oa + i) % F.S : Nat) : Int) := by push_cast; rfl
      rw [e1, wrap_i64 (x := ((bs F.b0 F.P F.S b a : Nat) : Int) + 2) (by omega) (by omega), wrap_i64 (by omega) (by omega)]
      omega
    refine ⟨by omega, ?_⟩
    refine (mPeek_at M2 ei hc).mono ?_
    rintro v h4 ⟨rfl, rfl⟩
    try try (refine ⟨by ((repeat (first | refine ⟨cell_blk (r2) rfl, ?_⟩)); exact trivial), ?_⟩)
    intro nb h5 n5
    have n5' : New _ h5 nb (.cells (encU64 y).toArray 51) := n5
    refine xappend_one' u64Info u64Zero rfl (by decide) encU64_len encU64_one o2 n5' (by rw [List.length_take]; omega) (by omega) x2.size fun A' c' h6 o6 K6 hA6 => ?_
    have et : l.take i ++ [y] = l.take (i + 1) := by rw [List.take_add_one, hy]; rfl
    rw [et] at o6
    exact ⟨(i + 1, A', c'), ⟨rfl, rfl, rfl, slot_inc (by omega), trivial⟩, ⟨by show i + 1 ≤ l.length; omega, o6, K6.ext x2 o2.ge⟩, by show l.length - (i + 1) < l.length - i; omega⟩
  · have g : ¬ (i : Int) < l.length := of_decide_eq_false g
    have e : i = l.length := by omega
    subst e
    rw [List.take_length] at o2
    exact ⟨A, c, rfl, o2, x2⟩
/-- Numbers that wait, as ints. -/
theorem cIds_spec {A : Option Addr} {c n : Nat} {l : List Int} (hr : Row encU64 1 h A l) (hl : l.length = n) (hn : n ≤ 1000) : HCalls Tryz.prog 65 #[.slice A n c] h (fun v h' => ∃ A' c', v = .slice A' n c' ∧ OwnA encI 1 3 h.size h' A' c' (l.map IntKind.i64.wrap) ∧ Ext h h') := by
  subst hl
  refine xcalls env0 Tryz.func65 rfl (by kernel_rfl) rfl (by kernel_rfl) ?_
  refine ⟨Nat × Option Addr × Nat, fun z => [(3, .slice z.2.1 z.1 z.2.2), (6, .slice A l.length c), (7, .int .i64 l.length), (8, .int .i64 z.1)], fun z h' => z.1 ≤ l.length ∧ OwnA encI 1 3 h.size h' z.2.1 z.2.2 ((l.take z.1).map IntKind.i64.wrap) ∧ Ext h h', fun z => l.length - z.1, (0, none, 0), ⟨rfl, rfl, rfl, rfl, trivial⟩, ⟨Nat.zero_le _, .inl ⟨rfl, by simp, rfl⟩, Ext.refl _⟩, ?_⟩
  rintro ⟨i, A', c'⟩ h2 ⟨hi2, o2, x2⟩
  simp only at hi2 o2
  refine xif_of (fun g => ?_) (fun g => ?_)
  · have g : (i : Int) < l.length := of_decide_eq_true g
    obtain ⟨y, hy⟩ : ∃ y, l[i]? = some y := ⟨_, List.getElem?_eq_getElem (by omega)⟩
    obtain ⟨a, ha, hrd⟩ := (x2.row hr) i y hy
    refine ⟨a, ha, Int.natCast_nonneg i, g, _, hrd.cons, ?_⟩
    intro nb h5 n5
    have n5' : New h2 h5 nb (.cells (encI (IntKind.i64.wrap y)).toArray 3) := n5
    refine xappend_one' intInfoS intZeroS rfl (by decide) encI_len encI_one o2 n5' (by rw [List.length_map, List.length_take]; omega) (by omega) x2.size fun A2 c2 h6 o6 K6 hA6 => ?_
    have et : (l.take i).map IntKind.i64.wrap ++ [IntKind.i64.wrap y] = (l.take (i + 1)).map IntKind.i64.wrap := by rw [List.take_add_one, hy, List.map_append]; rfl
    rw [et] at o6
    exact ⟨(i + 1, A2, c2), ⟨rfl, rfl, rfl, slot_inc (by omega), trivial⟩, ⟨by show i + 1 ≤ l.length; omega, o6, K6.ext x2 o2.ge⟩, by show l.length - (i + 1) < l.length - i; omega⟩
  · have g : ¬ (i : Int) < l.length := of_decide_eq_false g
    have e : i = l.length := by omega
    subst e
    rw [List.take_length] at o2
    exact ⟨A', c', rfl, o2, x2⟩
end
/-- What is told so far. -/
structure ShI (h1 h' : Heap) (zb : Nat) (SA VA BA QA : Option Addr) (sc vc bc qc : Nat) (st : List Stn) (vl : List Vl) (Bs Q : List Sl) (bk : List (List Place)) (P : Nat) (q : Nat → Nat → List Int) : Prop where
  z : h'[zb]? = some (.cells [.slice SA st.length sc, .slice VA vl.length vc, .slice BA Bs.length bc, .slice QA Q.length qc].toArray 73 (0, 0))
  zg : h1.size ≤ zb
  oS : OwnA encSn 2 167 h1.size h' SA sc st
  oV : OwnA encVl 3 165 h1.size h' VA vc vl
  oB : OwnA encSl 1 173 h1.size h' BA bc Bs
  rB : ∀ (j : Nat) r l, Bs[j]? = some r → bk[j]? = some l → r.n = l.length ∧ OwnA encP 6 246 h1.size h' r.a r.c l
  oQ : OwnA encSl 1 158 h1.size h' QA qc Q
  rQ : ∀ (a : Nat) r, Q[a]? = some r → r.n = P ∧ ∃ S : List Sl, S.length = P ∧ OwnA encSl 1 64 h1.size h' r.a r.c S ∧ ∀ (j : Nat) t, S[j]? = some t → t.n = (q a j).length ∧ OwnA encI 1 3 h1.size h' t.a t.c (q a j)
  x : Ext h1 h'
section
variable {h1 h' h'' h3 : Heap} {zb : Nat} {SA VA BA QA : Option Addr} {sc vc bc qc : Nat} {st : List Stn} {vl : List Vl} {Bs Q : List Sl} {bk : List (List Place)} {P : Nat} {q : Nat → Nat → List Int}
theorem ShI.ext (H : ShI h1 h' zb SA VA BA QA sc vc bc qc st vl Bs Q bk P q) (x : Ext h' h'') : ShI h1 h'' zb SA VA BA QA sc vc bc qc st vl Bs Q bk P q :=
  ⟨x.blk H.z, H.zg, H.oS.ext x, H.oV.ext x, H.oB.ext x, fun j r l hr hl => ⟨(H.rB j r l hr hl).1, (H.rB j r l hr hl).2.ext x⟩, H.oQ.ext x, fun a r hr => let ⟨e1, S, e2, o, f⟩ := H.rQ a r hr; ⟨e1, S, e2, o.ext x, fun j t ht => ⟨(f j t ht).1, (f j t ht).2.ext x⟩⟩, H.x.trans x⟩
/-- A list that is not told, or a cell of it, changes: all of other types is as it was. -/
structure Kp (T0 : TypeId) (zb : Nat) (B : Nat) (h h' h'' : Heap) : Prop where
  c : ∃ l, Chg l h h' ∧ ∀ p ∈ l, p.2 = T0 ∧ B ≤ p.1
  s : ∃ l, Chg l h' h'' ∧ ∀ p ∈ l, p = (zb, 73)
theorem Kp.own {T0 : TypeId} {B : Nat} (K : Kp T0 zb B h' h3 h'') {α : Type} {enc : α → List Value} {sz : Nat} {T : TypeId} {base c : Nat} {A : Option Addr} {xs : List α} (o : OwnA enc sz T base h' A c xs) (n : T ≠ T0) (n2 : T ≠ 73) : OwnA enc sz T base h'' A c xs := by
  obtain ⟨l, c1, hl⟩ := K.c
  obtain ⟨l2, c2, hl2⟩ := K.s
  exact (o.chg c1 (fun b _ hm => n (hl _ hm).1)).chg c2 (fun b _ hm => n2 (congrArg Prod.snd (hl2 _ hm)))
theorem Kp.own2 {T0 : TypeId} {B : Nat} (K : Kp T0 zb B h' h3 h'') {α : Type} {enc : α → List Value} {sz : Nat} {T : TypeId} {base c : Nat} {A : Option Addr} {xs : List α} (o : OwnA enc sz T base h3 A c xs) (n2 : T ≠ 73) : OwnA enc sz T base h'' A c xs := by
  obtain ⟨l2, c2, hl2⟩ := K.s
  exact o.chg c2 (fun b _ hm => n2 (congrArg Prod.snd (hl2 _ hm)))
theorem Kp.ext {T0 : TypeId} (K : Kp T0 zb h1.size h' h3 h'') (x : Ext h1 h') (zg : h1.size ≤ zb) : Ext h1 h'' := by
  obtain ⟨l, c1, hl⟩ := K.c
  obtain ⟨l2, c2, hl2⟩ := K.s
  exact c2.ext (c1.ext x fun p hp => (hl p hp).2) fun p hp => by rw [hl2 p hp]; exact zg
theorem ShI.rows (H : ShI h1 h' zb SA VA BA QA sc vc bc qc st vl Bs Q bk P q) {T0 : TypeId} {z0 : Nat} (K : Kp T0 z0 h1.size h' h3 h'') (n1 : 246 ≠ T0) (n2 : 64 ≠ T0) (n3 : (3 : TypeId) ≠ T0) :
    (∀ (j : Nat) r l, Bs[j]? = some r → bk[j]? = some l → r.n = l.length ∧ OwnA encP 6 246 h1.size h'' r.a r.c l) ∧ (∀ (a : Nat) r, Q[a]? = some r → r.n = P ∧ ∃ S : List Sl, S.length = P ∧ OwnA encSl 1 64 h1.size h'' r.a r.c S ∧ ∀ (j : Nat) t, S[j]? = some t → t.n = (q a j).length ∧ OwnA encI 1 3 h1.size h'' t.a t.c (q a j)) :=
  ⟨fun j r l hr hl => ⟨(H.rB j r l hr hl).1, K.own (H.rB j r l hr hl).2 n1 (by decide)⟩, fun a r hr => let ⟨e1, S, e2, o, f⟩ := H.rQ a r hr; ⟨e1, S, e2, K.own o n2 (by decide), fun j t ht => ⟨(f j t ht).1, K.own (f j t ht).2 n3 (by decide)⟩⟩⟩
end
/-- A fabric's cells tell a model's state. -/
structure Stood (F : Fb) (M : MemS) (L : Nat → Nat → List Int) (S : Md) : Prop where
  sn : S.stands.length = F.P
  st : ∀ (p : Nat) (x : Stn), S.stands[p]? = some x → rightSt x.st = true ∧ 0 ≤ x.ep ∧ x.ep < 4294967296 ∧ M.cells[p]? = some (standW x.st x.ep)
  vn : S.vlans.length = F.vls.length
  vl : ∀ (i : Nat) (v w : Vl), F.vls[i]? = some v → S.vlans[i]? = some w → w.vid = v.vid ∧ M.cells[F.P + 2 * i]? = some w.mem ∧ M.cells[F.P + 2 * i + 1]? = some w.unt
  bn : (S.book.length : Int) = F.s.sh * F.s.bk
  bk : ∀ (i : Nat) (l : List Place), S.book[i]? = some l → (l.length : Int) = F.s.sl ∧ ∀ (j : Nat) (pl : Place), l[j]? = some pl → ∃ a b, M.cells[F.P + 2 * F.vls.length + i * (1 + 2 * l.length) + 1 + 2 * j]? = some a ∧ M.cells[F.P + 2 * F.vls.length + i * (1 + 2 * l.length) + 2 + 2 * j]? = some b ∧ SlotOk a b pl
  q : ∀ (a b : Nat), a < F.P → b < F.P → S.queues a b = (L a b).map IntKind.i64.wrap
theorem cShape_spec {h : Heap} {B : Nat} {F : Fb} {M : MemS} {L : Nat → Nat → List Int} {S : Md} {p : Pl} (hp : p.ports = F.P) (HF : FabAt h F) (HM : MemAt h F.mb F.cb F.lb M) (W : Rings h B F M L no2 no2) (hd : h[F.db]? = some (.cells (fdbV F.mb (F.P + 2 * F.vls.length) F.P F.s F.tries).toArray 258 (0, 0))) (o : F.s.Ok) (T : Stood F M L S) (ht : M.t < 900000) :
    HCalls Tryz.prog 23 #[.pointer (some ⟨F.fb, 0, none⟩)] h (fun v h' => ∃ (SA VA BA QA : Option Addr) (sc vc bc qc : Nat) (Bs Q : List Sl),
      v = .agg #[.slice SA S.stands.length sc, .slice VA S.vlans.length vc, .slice BA S.book.length bc, .slice QA p.ports.toNat qc] ∧ ShapeAt h' p S SA VA BA QA Bs Q ∧ Ext h h') := by
  have p2 := HF.p2
  have v1 := HF.v1
  have hn : p.ports.toNat = F.P := by rw [hp, Int.toNat_natCast]
  have hsl : ∀ a b, a < F.P → b < F.P → (L a b).length ≤ 64 := fun a b ha hb => by
    obtain ⟨R, _, Q, _⟩ := W.ring a b ha hb
    exact Nat.le_trans Q.len HF.s2
  obtain ⟨RA, rc, hb', rows, ow, hrl, hrr⟩ := HF.blk
  refine xcalls env_cShape Tryz.func23 rfl (by kernel_rfl) rfl (by kernel_rfl) ?_
  intro rb h1 n1
  have hrb1 : h1[rb]? = some (.cells [.slice none 0 0, .slice none 0 0, .slice none 0 0, .slice none 0 0].toArray 73 (0, 0)) := n1.this
  intro zb h2 n2
  have I2 : ShI h1 h2 zb none none none none 0 0 0 0 [] [] [] [] S.book F.P (fun a b => S.queues a b) :=
    ⟨n2.this, n2.ge (Ext.refl _), .inl ⟨rfl, rfl, rfl⟩, .inl ⟨rfl, rfl, rfl⟩, .inl ⟨rfl, rfl, rfl⟩, fun j r l hr => by simp at hr, .inl ⟨rfl, rfl, rfl⟩, fun a r hr => by simp at hr, n2.ext⟩
  have hb2 := n2.ext.blk (n1.ext.blk hb')
  repeat (first | refine ⟨_, cell_blk (hb2) rfl, ?_⟩)
  refine ⟨Nat × Option Addr × Nat × Option Addr × Nat × List Sl, fun z => [(0, .pointer (some ⟨F.fb, 0, none⟩)), (2, .pointer (some ⟨rb, 0, none⟩)), (3, .pointer (some ⟨zb, 0, none⟩)), (20, .int .i64 (F.P : Int)), (21, .int .i64 (z.1 : Int))],
    fun z h' => z.1 ≤ F.P ∧ z.2.2.2.2.2.length = z.1 ∧ ShI h1 h' zb z.2.1 none none z.2.2.2.1 z.2.2.1 0 0 z.2.2.2.2.1 (S.stands.take z.1) [] [] z.2.2.2.2.2 S.book F.P (fun a b => S.queues a b), fun z => F.P - z.1, (0, none, 0, none, 0, []), ⟨rfl, rfl, rfl, rfl, rfl, trivial⟩, ⟨Nat.zero_le _, rfl, I2⟩, ?_⟩
  rintro ⟨i, SA, sc, QA, qc, Q⟩ h3 ⟨hi, hQ, I3⟩
  simp only at hi hQ I3
  have x3 := n1.ext.trans I3.x
  have hb3 := x3.blk hb'
  refine xif_of (fun g => ?_) (fun g => ?_)
  · have g : (i : Int) < (F.P : Int) := of_decide_eq_true g
    have hiP : i < F.P := by omega
    obtain ⟨y, hy⟩ : ∃ y, S.stands[i]? = some y := ⟨_, List.getElem?_eq_getElem (by rw [T.sn]; exact hiP)⟩
    obtain ⟨y1, y2, y3, y4⟩ := T.st i y hy
    repeat (first | refine ⟨_, cell_blk (hb3) rfl, ?_⟩)
    refine (mPeek_at (HM.ext x3) (i := i) rfl y4).mono ?_
    rintro v h4 ⟨rfl, rfl⟩
    refine (pOfG_spec y1 y2 y3).mono ?_
    rintro v h5 ⟨rfl, x5⟩
    intro sb h6 n6
    refine ⟨rfl, rfl, canset_blk n6.this rfl, fun h7 s7 => ?_⟩
    have hs7 : h7[sb]? = some (.cells (encSn y).toArray 167 (0, 0)) := s7.put n6.this
    have y37 : Ext h4 h7 := (x5.trans n6.ext).stored s7 (n6.ge x5)
    have I7 := I3.ext y37
    have hz7 := I7.z
    repeat (first | refine ⟨_, cell_blk (hz7) rfl, ?_⟩)
    refine ⟨_, rfl, reads_all hs7, ?_⟩
    intro nb h8 n8
    have n8' : New h7 h8 nb (.cells (encSn y).toArray 167) := n8
    have hz8 := n8.ext.blk hz7
    try (refine ⟨by ((repeat (first | refine ⟨cell_blk (hz8) rfl, ?_⟩)); exact trivial), ?_⟩)
    have htl : (S.stands.take i).length = i := by rw [List.length_take, T.sn]; omega
    refine xappend_one' snInfo snZero rfl (by decide) encSn_len encSn_one I7.oS n8' rfl (by omega) I7.x.size fun SA' sc' h9 o9 K9 hA9 => ?_
    obtain ⟨l9, c9, hl9⟩ := K9.toChg I7.oS
    have hz9 := c9.blk hz7 (fun hm => absurd (show (73 : TypeId) = 167 from (hl9 _ hm).1) (by decide))
    refine ⟨rfl, rfl, canset_blk hz9 rfl, fun h10 s10 => ?_⟩
    have KK : Kp 167 zb h1.size h7 h9 h10 := ⟨⟨l9, c9, hl9⟩, [(zb, 73)], s10.chg hz9 (.head _), by simp⟩
    have et : S.stands.take i ++ [y] = S.stands.take (i + 1) := by rw [List.take_add_one, hy]; rfl
    have el : (S.stands.take (i + 1)).length = (S.stands.take i).length + 1 := by rw [← et, List.length_append]; rfl
    rw [et] at o9
    obtain ⟨rB10, rQ10⟩ := I7.rows KK (by decide) (by decide) (by decide)
    have I10 : ShI h1 h10 zb SA' none none QA sc' 0 0 qc (S.stands.take (i + 1)) [] [] Q S.book F.P (fun a b => S.queues a b) :=
      ⟨by rw [el]; exact s10.put hz9, I7.zg, KK.own2 o9 (by decide), KK.own I7.oV (by decide) (by decide), KK.own I7.oB (by decide) (by decide), rB10, KK.own I7.oQ (by decide) (by decide), rQ10, KK.ext I7.x I7.zg⟩
    have x10 := n1.ext.trans I10.x
    have hb10 := x10.blk hb'
    obtain ⟨row, hrow⟩ : ∃ row, rows[i]? = some row := ⟨rows[i]'(by omega), List.getElem?_eq_getElem (by omega)⟩
    obtain ⟨A1, hA1, hrd1⟩ := (ow.ext x10).row encSl_len i row hrow
    obtain ⟨rn, ro⟩ := hrr i row hrow
    repeat (first | refine ⟨_, cell_blk (hb10) rfl, ?_⟩)
    refine ⟨A1, hA1, Int.natCast_nonneg i, g, _, hrd1.cons, ?_⟩
    refine ⟨Nat × Option Addr × Nat × List Sl, fun z => [(0, .pointer (some ⟨F.fb, 0, none⟩)), (2, .pointer (some ⟨rb, 0, none⟩)), (3, .pointer (some ⟨zb, 0, none⟩)), (20, .int .i64 (F.P : Int)), (21, .int .i64 (i : Int)), (4, .int .i64 (i : Int)), (7, .slice z.2.1 z.1 z.2.2.1), (46, .slice row.a row.n row.c), (47, .int .i64 (row.n : Int)), (48, .int .i64 (z.1 : Int))],
      fun z h' => z.1 ≤ F.P ∧ z.2.2.2.length = z.1 ∧ OwnA encSl 1 64 h10.size h' z.2.1 z.2.2.1 z.2.2.2 ∧ (∀ (b : Nat) t, z.2.2.2[b]? = some t → t.n = (S.queues i b).length ∧ OwnA encI 1 3 h10.size h' t.a t.c (S.queues i b)) ∧ Ext h10 h', fun z => F.P - z.1, (0, none, 0, []), ⟨rfl, rfl, rfl, rfl, rfl, rfl, rfl, rfl, rfl, rfl, trivial⟩, ⟨Nat.zero_le _, rfl, .inl ⟨rfl, rfl, rfl⟩, fun b t ht => by simp at ht, Ext.refl _⟩, ?_⟩
    rintro ⟨j, C, cc, Sx⟩ h11 ⟨hj, hSx, oC, rc11, x11⟩
    simp only at hj hSx oC rc11
    refine xif_of (fun g2 => ?_) (fun g2 => ?_)
    · have g2 : (j : Int) < (row.n : Int) := of_decide_eq_true g2
      have hjP : j < F.P := by omega
      have xa := x10.trans x11
      obtain ⟨A2, hA2, hrd2⟩ := (ro.ext xa).row encPtr_len j (F.rb i j) (by rw [List.getElem?_map, List.getElem?_range hjP]; rfl)
      refine ⟨A2, hA2, Int.natCast_nonneg j, g2, _, hrd2.cons, ?_⟩
      refine (rList_spec (W.ext xa) (HM.ext xa) HF.s1 HF.s2 hiP hjP ht).mono ?_
      rintro v h12 ⟨A3, c3, rfl, o3, y12⟩
      refine (cIds_spec (o3.row encU64_len) rfl (by have := hsl i j hiP hjP; omega)).mono ?_
      rintro v h13 ⟨A4, c4, rfl, o4, y13⟩
      rw [← T.q i j hiP hjP] at o4
      have hql : (L i j).length = (S.queues i j).length := by rw [T.q i j hiP hjP, List.length_map]
      rw [hql]
      intro nb2 h14 n14
      have oC13 := (oC.ext y12).ext y13
      refine xappend_one' (x := (⟨A4, (S.queues i j).length, c4⟩ : Sl)) slInfo1 slZero1 rfl (by decide) encSl_len encSl_one oC13 n14 hSx (by omega) ((x11.trans y12).trans y13).size fun C' cc' h15 o15 K15 hA15 => ?_
      obtain ⟨l15, c15, hl15⟩ := K15.toChg oC13
      have x15 : Ext h10 h15 := K15.ext ((x11.trans y12).trans y13) oC13.ge
      refine ⟨(j + 1, C', cc', Sx ++ [⟨A4, (S.queues i j).length, c4⟩]), ⟨rfl, rfl, rfl, rfl, rfl, rfl, rfl, rfl, rfl, slot_inc (by omega), trivial⟩, ⟨by show j + 1 ≤ F.P; omega, by show (Sx ++ [_]).length = j + 1; rw [List.length_append, hSx]; rfl, o15, fun b t hbt => ?_, x15⟩, by show F.P - (j + 1) < F.P - j; omega⟩
      by_cases hbj : b < j
      · have hbt : Sx[b]? = some t := by rw [← List.getElem?_append_left (l₂ := [⟨A4, (S.queues i j).length, c4⟩]) (by omega)]; exact hbt
        obtain ⟨e1, e2⟩ := rc11 b t hbt
        exact ⟨e1, ((e2.ext y12).ext y13).chg c15 (fun _ _ hm => absurd (show (3 : TypeId) = 64 from (hl15 _ hm).1) (by decide))⟩
      · have hl' := (List.getElem?_eq_some_iff.1 hbt).1
        have hbj : b = j := by simp at hl'; omega
        subst hbj
        have hbt : (Sx ++ [(⟨A4, (S.queues i b).length, c4⟩ : Sl)])[b]? = some t := hbt
        rw [List.getElem?_append_right (by omega), hSx, Nat.sub_self] at hbt
        cases hbt
        exact ⟨rfl, (o4.mono (x11.trans y12).size).chg c15 (fun _ _ hm => absurd (show (3 : TypeId) = 64 from (hl15 _ hm).1) (by decide))⟩
    · have g2 : ¬ (j : Int) < (row.n : Int) := of_decide_eq_false g2
      have hjP : j = F.P := by omega
      subst hjP
      have I11 := I10.ext x11
      have hz11 := I11.z
      repeat (first | refine ⟨_, cell_blk (hz11) rfl, ?_⟩)
      intro nb3 h12 n12
      have hz12 := n12.ext.blk hz11
      try (refine ⟨by ((repeat (first | refine ⟨cell_blk (hz12) rfl, ?_⟩)); exact trivial), ?_⟩)
      refine xappend_one' (x := (⟨C, F.P, cc⟩ : Sl)) slInfo2 slZero2 rfl (by decide) encSl_len encSl_one I11.oQ n12 rfl (by omega) I11.x.size fun QA' qc' h13 o13 K13 hA13 => ?_
      obtain ⟨l13, c13, hl13⟩ := K13.toChg I11.oQ
      have hz13 := c13.blk hz11 (fun hm => absurd (show (73 : TypeId) = 158 from (hl13 _ hm).1) (by decide))
      refine ⟨rfl, rfl, canset_blk hz13 rfl, fun h14 s14 => ?_⟩
      have KQ : Kp 158 zb h1.size h11 h13 h14 := ⟨⟨l13, c13, hl13⟩, [(zb, 73)], s14.chg hz13 (.head _), by simp⟩
      obtain ⟨rB14, rQ14⟩ := I11.rows KQ (by decide) (by decide) (by decide)
      have gh10 : h1.size ≤ h10.size := I10.x.size
      have I14 : ShI h1 h14 zb SA' none none QA' sc' 0 0 qc' (S.stands.take (i + 1)) [] [] (Q ++ [⟨C, F.P, cc⟩]) S.book F.P (fun a b => S.queues a b) := by
        refine ⟨?_, I11.zg, KQ.own I11.oS (by decide) (by decide), KQ.own I11.oV (by decide) (by decide), KQ.own I11.oB (by decide) (by decide), rB14, KQ.own2 o13 (by decide), fun a r hr => ?_, KQ.ext I11.x I11.zg⟩
        · rw [List.length_append]
          exact s14.put hz13
        · by_cases hai : a < i
          · have hr : Q[a]? = some r := by rw [← List.getElem?_append_left (l₂ := [⟨C, F.P, cc⟩]) (by omega)]; exact hr
            exact rQ14 a r hr
          · have hl' := (List.getElem?_eq_some_iff.1 hr).1
            have hai : a = i := by simp at hl'; omega
            subst hai
            have hr : (Q ++ [(⟨C, F.P, cc⟩ : Sl)])[a]? = some r := hr
            rw [List.getElem?_append_right (by omega), hQ, Nat.sub_self] at hr
            cases hr
            exact ⟨rfl, Sx, hSx, KQ.own (oC.mono gh10) (by decide) (by decide), fun b t ht => ⟨(rc11 b t ht).1, KQ.own ((rc11 b t ht).2.mono gh10) (by decide) (by decide)⟩⟩
      exact ⟨(i + 1, SA', sc', QA', qc', Q ++ [⟨C, F.P, cc⟩]), ⟨rfl, rfl, rfl, rfl, slot_inc (by omega), trivial⟩, ⟨by show i + 1 ≤ F.P; omega, by show (Q ++ [_]).length = i + 1; rw [List.length_append, hQ]; rfl, I14⟩, by show F.P - (i + 1) < F.P - i; omega⟩
  have g : ¬ (i : Int) < (F.P : Int) := of_decide_eq_false g
  have hiP : i = F.P := by omega
  subst hiP
  rw [List.take_of_length_le (by rw [T.sn]; exact Nat.le_refl _)] at I3
  repeat (first | refine ⟨_, cell_blk (hb3) rfl, ?_⟩)
  refine ⟨Nat × Option Addr × Nat, fun z => [(0, .pointer (some ⟨F.fb, 0, none⟩)), (2, .pointer (some ⟨rb, 0, none⟩)), (3, .pointer (some ⟨zb, 0, none⟩)), (70, .slice F.C F.vls.length F.cc), (71, .int .i64 (F.vls.length : Int)), (72, .int .i64 (z.1 : Int))],
    fun z h' => z.1 ≤ F.vls.length ∧ ShI h1 h' zb SA z.2.1 none QA sc z.2.2 0 qc S.stands (S.vlans.take z.1) [] Q S.book F.P (fun a b => S.queues a b), fun z => F.vls.length - z.1, (0, none, 0), ⟨rfl, rfl, rfl, rfl, rfl, rfl, trivial⟩, ⟨Nat.zero_le _, I3⟩, ?_⟩
  rintro ⟨i, VA, vc⟩ h4 ⟨hi, I4⟩
  simp only at hi I4
  have x4 := n1.ext.trans I4.x
  have hb4 := x4.blk hb'
  refine xif_of (fun g => ?_) (fun g => ?_)
  · have g : (i : Int) < (F.vls.length : Int) := of_decide_eq_true g
    have hiV : i < F.vls.length := by omega
    obtain ⟨v, hv⟩ : ∃ v, F.vls[i]? = some v := ⟨_, List.getElem?_eq_getElem hiV⟩
    obtain ⟨w, hw⟩ : ∃ w, S.vlans[i]? = some w := ⟨_, List.getElem?_eq_getElem (by rw [T.vn]; exact hiV)⟩
    obtain ⟨w1, w2, w3⟩ := T.vl i v w hv hw
    obtain ⟨a, ha, hrd⟩ := ((HF.ext x4).vls.row encVl_len) i v hv
    refine ⟨a, ha, Int.natCast_nonneg i, g, encVl v, rfl, hrd, ?_⟩
    intro vb h5 n5
    refine ⟨rfl, rfl, canset_blk n5.this rfl, fun h6 s6 => ?_⟩
    have hv6 : h6[vb]? = some (.cells (encVl v).toArray 165 (0, 0)) := s6.put n5.this
    have x46 : Ext h4 h6 := n5.ext.stored s6 (n5.ge (Ext.refl _))
    have x6 := x4.trans x46
    have hb6 := x6.blk hb'
    repeat (first | refine ⟨_, cell_blk (hb6) rfl, ?_⟩)
    refine (cVlanAt_fab (HF.ext x6) (i := i) (by omega)).mono ?_
    rintro v0 h7 ⟨rfl, rfl⟩
    try (refine ⟨by ((repeat (first | refine ⟨cell_blk (hb6) rfl, ?_⟩)); exact trivial), ?_⟩)
    refine (mPeek_at (HM.ext x6) (i := F.P + 2 * i) rfl w2).mono ?_
    rintro v0 h8 ⟨rfl, rfl⟩
    try (refine ⟨by ((repeat (first | refine ⟨cell_blk (hb6) rfl, ?_⟩)); exact trivial), ?_⟩)
    repeat (first | refine ⟨_, cell_blk (hb6) rfl, ?_⟩)
    refine (cVlanAt_fab (HF.ext x6) (i := i) (by omega)).mono ?_
    rintro v0 h9 ⟨rfl, rfl⟩
    try (refine ⟨by ((repeat (first | refine ⟨cell_blk (hb6) rfl, ?_⟩)); exact trivial), ?_⟩)
    refine (mPeek_at (HM.ext x6) (i := F.P + 2 * i + 1) (wrap_add1 _ (by omega)) w3).mono ?_
    rintro v0 h10 ⟨rfl, rfl⟩
    try try (refine ⟨by ((repeat (first | refine ⟨cell_blk (hb6) rfl, ?_⟩)); exact trivial), ?_⟩)
    refine ⟨rfl, rfl, canset_blk hv6 rfl, fun h11 s11 => ?_⟩
    have hv11 : h11[vb]? = some (.cells (encVl { v with mem := w.mem }).toArray 165 (0, 0)) := s11.put hv6
    refine ⟨rfl, rfl, canset_blk hv11 rfl, fun h12 s12 => ?_⟩
    have hv12 : h12[vb]? = some (.cells (encVl { v with mem := w.mem, unt := w.unt }).toArray 165 (0, 0)) := s12.put hv11
    have ew : ({ v with mem := w.mem, unt := w.unt } : Vl) = w := by rw [← w1]
    rw [ew] at hv12
    have y12 : Ext h4 h12 := (x46.stored s11 (n5.ge (Ext.refl _))).stored s12 (n5.ge (Ext.refl _))
    have I12 := I4.ext y12
    have hz12 := I12.z
    repeat (first | refine ⟨_, cell_blk (hz12) rfl, ?_⟩)
    refine ⟨_, rfl, reads_all hv12, ?_⟩
    intro nb h13 n13
    have n13' : New h12 h13 nb (.cells (encVl w).toArray 165) := n13
    have hz13 := n13.ext.blk hz12
    try (refine ⟨by ((repeat (first | refine ⟨cell_blk (hz13) rfl, ?_⟩)); exact trivial), ?_⟩)
    have htl : (S.vlans.take i).length = i := by rw [List.length_take, T.vn]; omega
    refine xappend_one' vlInfo vlZero rfl (by decide) encVl_len encVl_one I12.oV n13' rfl (by omega) I12.x.size fun VA' vc' h14 o14 K14 hA14 => ?_
    obtain ⟨l14, c14, hl14⟩ := K14.toChg I12.oV
    have hz14 := c14.blk hz12 (fun hm => absurd (show (73 : TypeId) = 165 from (hl14 _ hm).1) (by decide))
    refine ⟨rfl, rfl, canset_blk hz14 rfl, fun h15 s15 => ?_⟩
    have KV : Kp 165 zb h1.size h12 h14 h15 := ⟨⟨l14, c14, hl14⟩, [(zb, 73)], s15.chg hz14 (.head _), by simp⟩
    have et : S.vlans.take i ++ [w] = S.vlans.take (i + 1) := by rw [List.take_add_one, hw]; rfl
    have el : (S.vlans.take (i + 1)).length = (S.vlans.take i).length + 1 := by rw [← et, List.length_append]; rfl
    rw [et] at o14
    obtain ⟨rB15, rQ15⟩ := I12.rows KV (by decide) (by decide) (by decide)
    have I15 : ShI h1 h15 zb SA VA' none QA sc vc' 0 qc S.stands (S.vlans.take (i + 1)) [] Q S.book F.P (fun a b => S.queues a b) :=
      ⟨by rw [el]; exact s15.put hz14, I12.zg, KV.own I12.oS (by decide) (by decide), KV.own2 o14 (by decide), KV.own I12.oB (by decide) (by decide), rB15, KV.own I12.oQ (by decide) (by decide), rQ15, KV.ext I12.x I12.zg⟩
    exact ⟨(i + 1, VA', vc'), ⟨rfl, rfl, rfl, rfl, rfl, slot_inc (by omega), trivial⟩, ⟨by show i + 1 ≤ F.vls.length; omega, I15⟩, by show F.vls.length - (i + 1) < F.vls.length - i; omega⟩
  have g : ¬ (i : Int) < (F.vls.length : Int) := of_decide_eq_false g
  have hiV : i = F.vls.length := by omega
  subst hiV
  rw [List.take_of_length_le (by rw [T.vn]; exact Nat.le_refl _)] at I4
  repeat (first | refine ⟨_, cell_blk (hb4) rfl, ?_⟩)
  have ho := o
  obtain ⟨o1, o2, o3, o4, o5, o6⟩ := o
  obtain ⟨q1, q2⟩ := mul_bd (a := F.s.sh) (b := F.s.bk) (m := 8) (n := 16) (by omega) (by omega) (by omega) (by omega)
  have wm : IntKind.i64.wrap (F.s.sh * F.s.bk) = (S.book.length : Int) := by rw [wrap_i64 (by omega) (by omega), T.bn]
  have nz : F.s.bk ≠ 0 := by omega
  refine ⟨Nat × Option Addr × Nat × List Sl, fun z => [(0, .pointer (some ⟨F.fb, 0, none⟩)), (2, .pointer (some ⟨rb, 0, none⟩)), (3, .pointer (some ⟨zb, 0, none⟩)), (115, .int .i64 (S.book.length : Int)), (116, .int .i64 (z.1 : Int))],
    fun z h' => z.1 ≤ S.book.length ∧ z.2.2.2.length = z.1 ∧ ShI h1 h' zb SA VA z.2.1 QA sc vc z.2.2.1 qc S.stands S.vlans z.2.2.2 Q S.book F.P (fun a b => S.queues a b), fun z => S.book.length - z.1, (0, none, 0, []), ⟨rfl, rfl, rfl, congrArg (fun x => some (Value.int .i64 x)) wm, rfl, trivial⟩, ⟨Nat.zero_le _, rfl, I4⟩, ?_⟩
  rintro ⟨i, BA, bc, Bs⟩ h5 ⟨hi, hBl, I5⟩
  simp only at hi hBl I5
  have x5 := n1.ext.trans I5.x
  have hb5 := x5.blk hb'
  have hz5 := I5.z
  have hd5 := x5.blk hd
  refine xif_of (fun g => ?_) (fun g => ?_)
  · have g : (i : Int) < (S.book.length : Int) := of_decide_eq_true g
    have hiB : (i : Int) < F.s.sh * F.s.bk := by rw [← T.bn]; exact g
    obtain ⟨l, hl⟩ : ∃ l, S.book[i]? = some l := ⟨_, List.getElem?_eq_getElem (by omega)⟩
    obtain ⟨l1, l2⟩ := T.bk i l hl
    have qa := quo_ix (i := (i : Int)) (k := F.s.bk) (by omega) (by omega) o3
    have qb : (i : Int).tmod F.s.bk = (i : Int) % F.s.bk := Int.tmod_eq_emod_of_nonneg (by omega)
    repeat (first | refine ⟨_, cell_blk (hz5) rfl, ?_⟩ | refine ⟨_, cell_blk (hb5) rfl, ?_⟩)
    refine ⟨nz, ?_⟩
    repeat (first | refine ⟨_, cell_blk (hz5) rfl, ?_⟩ | refine ⟨_, cell_blk (hb5) rfl, ?_⟩)
    refine ⟨nz, ?_⟩
    refine (dBucket_spec (base := F.P + 2 * F.vls.length) (lock := F.P) ho (HM.ext x5) hd5 hiB qa qb (by omega) (by omega) (sl := l.length) l1.symm rfl l2).mono ?_
    rintro v h6 ⟨A6, c6, rfl, o6', y6⟩
    have I6 := I5.ext y6
    have hz6 := I6.z
    have hb6 := y6.blk hb5
    try (refine ⟨by ((repeat (first | refine ⟨cell_blk (hz6) rfl, ?_⟩ | refine ⟨cell_blk (hb6) rfl, ?_⟩)); exact trivial), ?_⟩)
    intro nb h7 n7
    have hz7 := n7.ext.blk hz6
    have hb7 := n7.ext.blk hb6
    try (refine ⟨by ((repeat (first | refine ⟨cell_blk (hz7) rfl, ?_⟩ | refine ⟨cell_blk (hb7) rfl, ?_⟩)); exact trivial), ?_⟩)
    refine xappend_one' (x := (⟨A6, l.length, c6⟩ : Sl)) bksInfo bksZero rfl (by decide) encSl_len encSl_one I6.oB n7 rfl (by omega) I6.x.size fun BA' bc' h8 o8 K8 hA8 => ?_
    obtain ⟨l8, c8, hl8⟩ := K8.toChg I6.oB
    have hz8 := c8.blk hz6 (fun hm => absurd (show (73 : TypeId) = 173 from (hl8 _ hm).1) (by decide))
    refine ⟨rfl, rfl, canset_blk hz8 rfl, fun h9 s9 => ?_⟩
    have KB : Kp 173 zb h1.size h6 h8 h9 := ⟨⟨l8, c8, hl8⟩, [(zb, 73)], s9.chg hz8 (.head _), by simp⟩
    obtain ⟨rB9, rQ9⟩ := I6.rows KB (by decide) (by decide) (by decide)
    have I9 : ShI h1 h9 zb SA VA BA' QA sc vc bc' qc S.stands S.vlans (Bs ++ [⟨A6, l.length, c6⟩]) Q S.book F.P (fun a b => S.queues a b) := by
      refine ⟨?_, I6.zg, KB.own I6.oS (by decide) (by decide), KB.own I6.oV (by decide) (by decide), KB.own2 o8 (by decide), fun j r lj hr hlj => ?_, KB.own I6.oQ (by decide) (by decide), rQ9, KB.ext I6.x I6.zg⟩
      · rw [List.length_append]
        exact s9.put hz8
      · by_cases hji : j < i
        · have hr : Bs[j]? = some r := by rw [← List.getElem?_append_left (l₂ := [⟨A6, l.length, c6⟩]) (by omega)]; exact hr
          exact rB9 j r lj hr hlj
        · have hl' := (List.getElem?_eq_some_iff.1 hr).1
          have hji : j = i := by simp at hl'; omega
          subst hji
          have hr : (Bs ++ [(⟨A6, l.length, c6⟩ : Sl)])[j]? = some r := hr
          rw [List.getElem?_append_right (by omega), hBl, Nat.sub_self] at hr
          cases hr
          rw [hl] at hlj
          cases hlj
          exact ⟨rfl, KB.own (o6'.mono I5.x.size) (by decide) (by decide)⟩
    exact ⟨(i + 1, BA', bc', Bs ++ [⟨A6, l.length, c6⟩]), ⟨rfl, rfl, rfl, rfl, slot_inc (by omega), trivial⟩, ⟨by show i + 1 ≤ S.book.length; omega, by show (Bs ++ [_]).length = i + 1; rw [List.length_append, hBl]; rfl, I9⟩, by show S.book.length - (i + 1) < S.book.length - i; omega⟩
  have g : ¬ (i : Int) < (S.book.length : Int) := of_decide_eq_false g
  have hiB : i = S.book.length := by omega
  subst hiB
  have hrb5 := I5.x.blk hrb1
  refine ⟨_, rfl, reads_all hz5, rfl, rfl, canset_blk hrb5 rfl, fun h6 s6 => ?_⟩
  have hrb6 : h6[rb]? = some (.cells [.slice SA S.stands.length sc, .slice VA S.vlans.length vc, .slice BA Bs.length bc, .slice QA Q.length qc].toArray 73 (0, 0)) := s6.put hrb5
  have KF : Kp 258 rb h1.size h5 h5 h6 := ⟨⟨[], Chg.refl _ _, by simp⟩, [(rb, 73)], s6.chg hrb5 (.head _), by simp⟩
  have xa : Ext h h6 := x5.stored s6 (n1.ge (Ext.refl _))
  obtain ⟨rB6, rQ6⟩ := I5.rows KF (by decide) (by decide) (by decide)
  rw [hBl, hQ] at hrb6
  refine ⟨_, rfl, reads_all hrb6, SA, VA, BA, QA, sc, vc, bc, qc, Bs, Q, by rw [hn]; rfl, ⟨(KF.own I5.oS (by decide) (by decide)).row encSn_len, (KF.own I5.oV (by decide) (by decide)).row encVl_len, hBl, (KF.own I5.oB (by decide) (by decide)).row encSl_len, fun a r l hr hl => ?_, by rw [hn]; exact hQ, (KF.own I5.oQ (by decide) (by decide)).row encSl_len, fun a r hr => ?_⟩, xa⟩
  · obtain ⟨e1, e2⟩ := rB6 a r l hr hl
    exact ⟨e1, e2.row encP_len⟩
  · obtain ⟨e1, S', e2, e3, e4⟩ := rQ6 a r hr
    rw [hn]
    exact ⟨e1, S', e2, e3.row encSl_len, fun b t ht => ⟨(e4 b t ht).1, (e4 b t ht).2.row encI_len⟩⟩
end Go.Proofs.YtjjempefncgfhaaGreatDoorE
