/- The program's model's shape. Conditions: the arguments are of their types. -/
import Derived.Test.YtgiofdiifkahoaaGreatXW3
import Derived.Test.YtgiofdiifkahoaaGreatXB7
import Derived.Test.YtgiofdiifkahoaaGreatXP2
set_option linter.unusedVariables false
set_option linter.unusedSimpArgs false
set_option maxRecDepth 100000
namespace Go.Proofs.YtgiofdiifkahoaaGreatE
open Go Go.Proofs
def env_mShape : Nat → Ann
  | 4 => ⟨.op 0 [] <| .op 1 [] <| .op 2 [] <| .op 3 [] <| .op 4 [] <| .op 5 [] <| .op 6 [] <| .op 7 [] <| .op 8 [] <| .op 9 [] <| .op 10 [] <| .op 11 [] <| .op 12 [] <| .op 13 [] <| .nil, [0, 1, 3, 7, 15, 31, 0, 64, 192, 448, 960, 1984, 4095, 0], false⟩
  | 7 => ⟨.op 0 [] <| .op 1 [] <| .op 2 [] <| .op 3 [] <| .op 4 [] <| .op 5 [] <| .op 6 [] <| .op 7 [] <| .op 8 [] <| .op 9 [] <| .op 10 [] <| .op 11 [] <| .op 12 [] <| .op 13 [] <| .op 14 [] <| .op 15 [] <| .op 16 [] <| .op 17 [] <| .op 18 [] <| .op 19 [1] <| .op 20 [1] <| .op 21 [] <| .op 22 [] <| .op 23 [] <| .nil, [0, 1, 0, 0, 0, 16, 48, 112, 240, 496, 1016, 0, 0, 4096, 12288, 28672, 61440, 126976, 260096, 524284, 1048572, 2097151, 4194303, 8388607], false⟩
  | _ => ⟨.nil, [], false⟩
section
variable {base : Nat} {F : Nat → Prop} {h h1 h' : Heap} {m : Nat} {D : Dat} {p : Pl} {M M' : Md}
theorem snInfo : (Tryz.prog.info? 60).map (fun i => (i.size, i.bytes)) = some (2, 16) := by kernel_rfl
theorem snZero : xzero Tryz.prog 60 = some (encSn ⟨0, 0⟩) := by kernel_rfl
theorem snClone_spec {A : Option Addr} {c n : Nat} {l : List Stn} (own : OwnA encSn 2 60 base h A c l) (hl : l.length = n) (hn : n ≤ 100000) : HCalls Tryz.prog 75 #[.slice A n c] h (fun v h' => ∃ A' c', v = .slice A' n c' ∧ OwnA encSn 2 60 h.size h' A' c' l ∧ Ext h h') := by
  subst hl
  refine xcalls env0 Tryz.func75 rfl (by kernel_rfl) rfl (by kernel_rfl) ?_
  cases A with
  | none =>
    rcases own with ⟨_, rfl, rfl⟩ | ⟨_, _, e, _⟩
    · exact ⟨none, 0, rfl, .inl ⟨rfl, rfl, rfl⟩, Ext.refl _⟩
    · cases e
  | some a =>
    intro b1 h1 n1
    have own1 : OwnA encSn 2 60 h.size h1 (some ⟨b1, 0, none⟩) 0 ([] : List Stn) := .inr ⟨b1, [], rfl, n1.ge (Ext.refl _), n1.this, rfl, Nat.le_refl _⟩
    refine xappend_many (xs := []) (ys := l) snInfo snZero rfl (by decide) encSn_len encSn_one own1 rfl rfl ((own.ext n1.ext).reads) (by omega) n1.ext.size fun A' c' h' o k => ?_
    exact ⟨A', c', by rw [Nat.zero_add]; rfl, o, k.ext n1.ext (fun b' e => by cases e; exact n1.ge (Ext.refl _))⟩
theorem mBucket_spec (po : p.Ok) (K : MdOk p M) (H : MdP base F h m D p M) (a n : Int) : HCalls Tryz.prog 68 #[.pointer (some ⟨m, 0, none⟩), .int .i64 a, .int .i64 n] h (fun v h' => ∃ A' c' l, (l = if atM p.size a n < 0 then [] else M.book.getD (atM p.size a n).toNat []) ∧ v = .slice A' l.length c' ∧ OwnA encP 6 203 h.size h' A' c' l ∧ Ext h h') := by
  refine xcalls env0 Tryz.func68 rfl (by kernel_rfl) rfl (by kernel_rfl) ?_
  refine ⟨_, cell_blk H.blk rfl, ?_⟩
  refine (kBucket_spec po.size K.book.bok H.book a n).mono ?_
  rintro v h2 ⟨A, c, l, e, rfl, o, x⟩
  exact ⟨A, c, l, e, rfl, o, x⟩
theorem mList_spec (po : p.Ok) (K : MdOk p M) (H : MdP base F h m D p M) : HCalls Tryz.prog 69 #[.pointer (some ⟨m, 0, none⟩)] h (fun v h' => ∃ A' c', v = .slice A' (listB M.book).length c' ∧ OwnA encE 5 165 h.size h' A' c' (listB M.book) ∧ Ext h h') := by
  refine xcalls env0 Tryz.func69 rfl (by kernel_rfl) rfl (by kernel_rfl) ?_
  refine ⟨_, cell_blk H.blk rfl, ?_⟩
  refine (kList_spec po.size K.book.bok H.book).mono ?_
  rintro v h2 ⟨A, c, rfl, o, x⟩
  exact ⟨A, c, rfl, o, x⟩
/-- Lists of lists, as they are read. -/
def Rows2 {α : Type} (enc : α → List Value) (sz : Nat) (h : Heap) (R : List Sl) (L : List (List α)) : Prop := ∀ (i : Nat) r l, R[i]? = some r → L[i]? = some l → r.n = l.length ∧ Row enc sz h r.a l
def Rows3 (h : Heap) (R : List Sl) (n : Nat) (q : Int → Int → List Int) : Prop := ∀ (i : Nat) r, R[i]? = some r → r.n = n ∧ ∃ S : List Sl, S.length = n ∧ Row encSl 1 h r.a S ∧ ∀ (j : Nat) t, S[j]? = some t → t.n = (q i j).length ∧ Row encI 1 h t.a (q i j)
theorem bksInfo : (Tryz.prog.info? 156).map (fun i => (i.size, i.bytes)) = some (1, 24) := by kernel_rfl
theorem bksZero : xzero Tryz.prog 156 = some (encSl ⟨none, 0, 0⟩) := by kernel_rfl
theorem slInfo1 : (Tryz.prog.info? 62).map (fun i => (i.size, i.bytes)) = some (1, 24) := by kernel_rfl
theorem slZero1 : xzero Tryz.prog 62 = some (encSl ⟨none, 0, 0⟩) := by kernel_rfl
theorem mShape_spec (po : p.Ok) (K : MdOk p M) (hv : M.vlans.length ≤ 1000) (H : MdP base F h m D p M) : HCalls Tryz.prog 64 #[.pointer (some ⟨m, 0, none⟩)] h (fun v h' => ∃ (SA VA BA QA : Option Addr) (sc vc bc qc : Nat) (B Q : List Sl),
    v = .agg #[.slice SA M.stands.length sc, .slice VA M.vlans.length vc, .slice BA M.book.length bc, .slice QA p.ports.toNat qc] ∧ Row encSn 2 h' SA M.stands ∧ Row encVl 3 h' VA M.vlans ∧ (B.length = M.book.length ∧ Row encSl 1 h' BA B ∧ Rows2 encP 6 h' B M.book) ∧ (Q.length = p.ports.toNat ∧ Row encSl 1 h' QA Q ∧ Rows3 h' Q p.ports.toNat M.queues) ∧ Ext h h') := by
  refine xcalls env_mShape Tryz.func64 rfl (by kernel_rfl) rfl (by kernel_rfl) ?_
  have hst := K.st
  have hp2 := po.lo
  have hp64 := po.hi
  obtain ⟨N, hN⟩ : ∃ N : Nat, p.ports = N := ⟨p.ports.toNat, by omega⟩
  intro rb h1 n1
  have H1 := H.ext n1.ext
  refine ⟨_, cell_blk H1.blk rfl, ?_⟩
  refine (snClone_spec H1.stands rfl (by omega)).mono ?_
  rintro v h2 ⟨SA, sc, rfl, oS2, x2⟩
  refine (mVlans_spec (H1.ext x2) (by omega)).mono ?_
  rintro v h3 ⟨VA, vc, rfl, oV3, x3⟩
  have oS3 := oS2.ext x3
  intro zb h4 n4
  refine ⟨rfl, rfl, canset_blk n4.this rfl, fun h5 s5 => ?_⟩
  have hz5 : h5[zb]? = some (.cells [.slice SA M.stands.length sc, .slice VA M.vlans.length vc, .slice none 0 0, .slice none 0 0].toArray 147 (0, 0)) := s5.put n4.this
  have x35 : Ext h3 h5 := n4.ext.stored s5 (n4.ge (Ext.refl _))
  have x15 : Ext h1 h5 := x2.trans (x3.trans x35)
  have x05 := n1.ext.trans x15
  have H5 := H.ext x05
  have oS5 := oS3.ext x35
  have oV5 := oV3.ext x35
  have hL := K.book.bok.len
  have hm := po.size.many
  have hb1 := po.size.bk1
  have hs1 := po.size.sh1
  have hb16 := po.size.bk2
  have hpos : 0 ≤ p.size.sh * p.size.bk := Int.mul_nonneg (by omega) (by omega)
  have wm : IntKind.i64.wrap (p.size.sh * p.size.bk) = (M.book.length : Int) := by rw [wrap_i64 (by omega) (by omega)]; omega
  have nz : p.size.bk ≠ 0 := by omega
  have nzw : p.size.bk ≠ 0 := nz
  have zg : h1.size ≤ zb := n4.ge (x2.trans x3)
  have hrb1 : h1[rb]? = some (.cells [.slice none 0 0, .slice none 0 0, .slice none 0 0, .slice none 0 0].toArray 147 (0, 0)) := n1.this
  refine ⟨_, cell_blk H5.blk rfl, _, cell_blk H5.blk rfl, ?_⟩
  refine ⟨Nat × Option Addr × Nat × List Sl, fun z => [(0, .pointer (some ⟨m, 0, none⟩)), (2, .pointer (some ⟨rb, 0, none⟩)), (3, .pointer (some ⟨zb, 0, none⟩)), (31, .int .i64 M.book.length), (32, .int .i64 z.1)],
    fun z h' => (z.1 ≤ M.book.length ∧ z.2.2.2.length = z.1) ∧ h'[zb]? = some (.cells [.slice SA M.stands.length sc, .slice VA M.vlans.length vc, .slice z.2.1 z.1 z.2.2.1, .slice none 0 0].toArray 147 (0, 0)) ∧
      OwnA encSn 2 60 h1.size h' SA sc M.stands ∧ OwnA encVl 3 116 h1.size h' VA vc M.vlans ∧ OwnA encSl 1 156 h1.size h' z.2.1 z.2.2.1 z.2.2.2 ∧ (∀ (j : Nat) r l, z.2.2.2[j]? = some r → M.book[j]? = some l → r.n = l.length ∧ OwnA encP 6 203 h1.size h' r.a r.c l) ∧ Ext h1 h',
    fun z => M.book.length - z.1, (0, none, 0, []), ⟨rfl, rfl, rfl, congrArg (fun x => some (Value.int .i64 x)) wm, rfl, trivial⟩, ⟨⟨Nat.zero_le _, rfl⟩, hz5, oS5.mono (by exact Nat.le_refl _), oV5.mono x2.size, .inl ⟨rfl, rfl, rfl⟩, (fun j r l hr => by simp at hr), x15⟩, ?_⟩
  rintro ⟨i, BA, bc, B⟩ h6 ⟨⟨hi, hBl⟩, hz6, oS6, oV6, oB6, rows6, x6⟩
  simp only at hi hBl hz6 oB6 rows6
  have H6 := H1.ext x6
  refine xif_of (fun hlt => ?_) (fun hge => ?_)
  · have hlt : (i : Int) < M.book.length := of_decide_eq_true hlt
    have hlt' : (i : Int) < p.size.sh * p.size.bk := by omega
    have hai := at_ix po.size (i := i) (by omega) hlt'
    have q1 := quo_ix (i := i) (k := p.size.bk) (by omega) (by omega) hb1
    have q2 : (i : Int).tmod p.size.bk = i % p.size.bk := Int.tmod_eq_emod_of_nonneg (by omega)
    obtain ⟨l, hl⟩ : ∃ l, M.book[i]? = some l := ⟨M.book[i]'(by omega), List.getElem?_eq_getElem (by omega)⟩
    refine ⟨_, cell_blk hz6 rfl, _, cell_blk H6.blk rfl, nz, _, cell_blk H6.blk rfl, nz, ?_⟩
    rw [q1, q2]
    refine (mBucket_spec po K H6 _ _).mono ?_
    rintro v h7 ⟨A7, c7, l7, e7, rfl, o7, x7⟩
    rw [hai, if_neg (by omega), Int.toNat_natCast, List.getD_eq_getElem?_getD, hl] at e7
    have e7 : l7 = l := e7
    subst e7
    refine ⟨⟨cell_blk (x7.blk hz6) rfl, trivial⟩, ?_⟩
    intro bs h8 n8
    refine ⟨⟨cell_blk (n8.ext.blk (x7.blk hz6)) rfl, trivial⟩, ?_⟩
    have oB7 := oB6.ext x7
    refine xappend_one' (x := (⟨A7, l7.length, c7⟩ : Sl)) bksInfo bksZero rfl (by decide) encSl_len encSl_one oB7 n8 hBl (by omega) (x6.trans x7).size fun BA' bc' h9 o9 k9 alt => ?_
    have f9 : Fr (fun j => BA = some ⟨j, 0, none⟩) h7 h9 := k9.fr' fun _ e => e
    have off : ∀ T : TypeId, (156 : TypeId) ≠ T → Off (fun j => BA = some ⟨j, 0, none⟩) h7 T := by
      intro T hT j c e g hj hc
      rw [hj] at oB7
      obtain ⟨cx, hx⟩ := own_blk oB7
      rw [ty_eq hc hx]
      exact hT
    have hz7 := x7.blk hz6
    have hz9 := f9.blk hz7 ((off _ (by decide)).not hz7)
    have x9 : Ext h1 h9 := f9.ext (x6.trans x7) fun j hj => oB7.ge j hj
    refine ⟨rfl, rfl, canset_blk hz9 rfl, fun h10 s10 => ?_⟩
    have hz10 : h10[zb]? = some (.cells [.slice SA M.stands.length sc, .slice VA M.vlans.length vc, .slice BA' (i + 1) bc', .slice none 0 0].toArray 147 (0, 0)) := s10.put hz9
    have f10 : Fr (fun j => j = zb) h9 h10 := s10.fr rfl
    have off10 : ∀ T : TypeId, (147 : TypeId) ≠ T → Off (fun j => j = zb) h9 T := fun T hT => offOne hz9 hT
    have x10 : Ext h1 h10 := f10.ext x9 fun j hj => by rw [hj]; exact zg
    refine ⟨(i + 1, BA', bc', B ++ [⟨A7, l7.length, c7⟩]), ⟨rfl, rfl, rfl, rfl, slot_inc (i := i) (by omega), trivial⟩,
      ⟨⟨by show i + 1 ≤ M.book.length; omega, by show (B ++ [_]).length = i + 1; simp; omega⟩, hz10, ((oS6.ext x7).frT f9 (off _ (by decide))).frT f10 (off10 _ (by decide)), ((oV6.ext x7).frT f9 (off _ (by decide))).frT f10 (off10 _ (by decide)), o9.frT f10 (off10 _ (by decide)), ?_, x10⟩, by show M.book.length - (i + 1) < M.book.length - i; omega⟩
    intro j r lj hr hlj
    by_cases hji : j < i
    · have hr : B[j]? = some r := by rw [← List.getElem?_append_left (l₂ := [⟨A7, l7.length, c7⟩]) (by omega)]; exact hr
      obtain ⟨e1, e2⟩ := rows6 j r lj hr hlj
      exact ⟨e1, ((e2.ext x7).frT f9 (off _ (by decide))).frT f10 (off10 _ (by decide))⟩
    · have hlj' := (List.getElem?_eq_some_iff.1 hr).1
      have hji : j = i := by simp at hlj'; omega
      subst hji
      have hr : (B ++ [(⟨A7, l7.length, c7⟩ : Sl)])[j]? = some r := hr
      rw [List.getElem?_append_right (by omega), hBl, Nat.sub_self] at hr
      cases hr
      rw [hl] at hlj
      cases hlj
      exact ⟨rfl, ((o7.mono x6.size).frT f9 (off _ (by decide))).frT f10 (off10 _ (by decide))⟩
  have hge : ¬ (i : Int) < M.book.length := of_decide_eq_false hge
  obtain rfl : i = M.book.length := by omega
  refine ⟨_, cell_blk H6.blk rfl, ?_⟩
  have slZ : ∀ r : Sl, encSl r = [.slice r.a r.n r.c] := fun _ => rfl
  refine ⟨Nat × Option Addr × Nat × List Sl, fun z => [(0, .pointer (some ⟨m, 0, none⟩)), (2, .pointer (some ⟨rb, 0, none⟩)), (3, .pointer (some ⟨zb, 0, none⟩)), (63, .int .i64 N), (64, .int .i64 z.1)],
    fun z h' => (z.1 ≤ N ∧ z.2.2.2.length = z.1) ∧ h'[zb]? = some (.cells [.slice SA M.stands.length sc, .slice VA M.vlans.length vc, .slice BA M.book.length bc, .slice z.2.1 z.1 z.2.2.1].toArray 147 (0, 0)) ∧
      OwnA encSn 2 60 h1.size h' SA sc M.stands ∧ OwnA encVl 3 116 h1.size h' VA vc M.vlans ∧ OwnA encSl 1 156 h1.size h' BA bc B ∧ (∀ (j : Nat) r l, B[j]? = some r → M.book[j]? = some l → r.n = l.length ∧ OwnA encP 6 203 h1.size h' r.a r.c l) ∧
      OwnA encSl 1 124 h1.size h' z.2.1 z.2.2.1 z.2.2.2 ∧ (∀ (a : Nat) r, z.2.2.2[a]? = some r → r.n = N ∧ ∃ S : List Sl, S.length = N ∧ OwnA encSl 1 62 h1.size h' r.a r.c S ∧ ∀ (j : Nat) t, S[j]? = some t → t.n = (M.queues a j).length ∧ OwnA encI 1 3 h1.size h' t.a t.c (M.queues a j)) ∧ Ext h1 h',
    fun z => N - z.1, (0, none, 0, []), ⟨rfl, rfl, rfl, congrArg (fun x => some (Value.int .i64 x)) hN, rfl, trivial⟩, ⟨⟨Nat.zero_le _, rfl⟩, hz6, oS6, oV6, oB6, rows6, .inl ⟨rfl, rfl, rfl⟩, (fun a r hr => by simp at hr), x6⟩, ?_⟩
  rintro ⟨i, QA, qc, Q⟩ h7 ⟨⟨hi, hQl⟩, hz7, oS7, oV7, oB7, rows7, oQ7, rq7, x7⟩
  simp only at hi hQl hz7 oQ7 rq7
  have H7 := H1.ext x7
  refine xif_of (fun hlt => ?_) (fun hge => ?_)
  · have hlt : (i : Int) < N := of_decide_eq_true hlt
    refine ⟨_, cell_blk H7.blk rfl, ?_⟩
    refine ⟨Nat × Option Addr × Nat × List Sl, fun z => [(0, .pointer (some ⟨m, 0, none⟩)), (2, .pointer (some ⟨rb, 0, none⟩)), (3, .pointer (some ⟨zb, 0, none⟩)), (63, .int .i64 N), (64, .int .i64 i), (5, .int .i64 i), (6, .slice z.2.1 z.1 z.2.2.1), (71, .int .i64 N), (72, .int .i64 z.1)],
      fun z h' => (z.1 ≤ N ∧ z.2.2.2.length = z.1) ∧ OwnA encSl 1 62 h7.size h' z.2.1 z.2.2.1 z.2.2.2 ∧ (∀ (j : Nat) t, z.2.2.2[j]? = some t → t.n = (M.queues i j).length ∧ OwnA encI 1 3 h7.size h' t.a t.c (M.queues i j)) ∧ Ext h7 h',
      fun z => N - z.1, (0, none, 0, []), ⟨rfl, rfl, rfl, rfl, rfl, rfl, rfl, congrArg (fun x => some (Value.int .i64 x)) hN, rfl, trivial⟩, ⟨⟨Nat.zero_le _, rfl⟩, .inl ⟨rfl, rfl, rfl⟩, (fun a r hr => by simp at hr), Ext.refl _⟩, ?_⟩
    rintro ⟨j, C, cc, S⟩ h8 ⟨⟨hj, hSl⟩, oC8, rc8, x8⟩
    simp only at hj hSl oC8 rc8
    refine xif_of (fun hlt2 => ?_) (fun hge2 => ?_)
    · have hlt2 : (j : Int) < N := of_decide_eq_true hlt2
      have hij : inP p i ∧ inP p j := ⟨⟨by omega, by omega⟩, ⟨by omega, by omega⟩⟩
      refine (mQueue_spec po K (H7.ext x8) i j).mono ?_
      rintro v h9 ⟨A9, c9, rfl, o9, x9⟩
      rw [if_pos hij] at o9 ⊢
      have oC9 := oC8.ext x9
      intro bs h10 n10
      refine xappend_one' (x := (⟨A9, (M.queues i j).length, c9⟩ : Sl)) slInfo1 slZero1 rfl (by decide) encSl_len encSl_one oC9 n10 hSl (by omega) (x8.trans x9).size fun C' cc' h11 o11 k11 alt => ?_
      have f11 : Fr (fun j => C = some ⟨j, 0, none⟩) h9 h11 := k11.fr' fun _ e => e
      have off : ∀ T : TypeId, (62 : TypeId) ≠ T → Off (fun j => C = some ⟨j, 0, none⟩) h9 T := by
        intro T hT j c e g hj hc
        rw [hj] at oC9
        obtain ⟨cx, hx⟩ := own_blk oC9
        rw [ty_eq hc hx]
        exact hT
      have x11 : Ext h7 h11 := f11.ext (x8.trans x9) fun j hj => oC9.ge j hj
      refine ⟨(j + 1, C', cc', S ++ [⟨A9, (M.queues i j).length, c9⟩]), ⟨rfl, rfl, rfl, rfl, rfl, rfl, rfl, rfl, slot_inc (i := j) (by omega), trivial⟩, ⟨⟨by show j + 1 ≤ N; omega, by show (S ++ [_]).length = j + 1; simp; omega⟩, o11, ?_, x11⟩, by show N - (j + 1) < N - j; omega⟩
      intro a t ht
      by_cases haj : a < j
      · have ht : S[a]? = some t := by rw [← List.getElem?_append_left (l₂ := [⟨A9, (M.queues i j).length, c9⟩]) (by omega)]; exact ht
        obtain ⟨e1, e2⟩ := rc8 a t ht
        exact ⟨e1, (e2.ext x9).frT f11 (off _ (by decide))⟩
      · have hl' := (List.getElem?_eq_some_iff.1 ht).1
        have haj : a = j := by simp at hl'; omega
        subst haj
        have ht : (S ++ [(⟨A9, (M.queues i a).length, c9⟩ : Sl)])[a]? = some t := ht
        rw [List.getElem?_append_right (by omega), hSl, Nat.sub_self] at ht
        cases ht
        exact ⟨rfl, (o9.mono x8.size).frT f11 (off _ (by decide))⟩
    have hge2 : ¬ (j : Int) < N := of_decide_eq_false hge2
    obtain rfl : j = N := by omega
    have hz8 := x8.blk hz7
    refine ⟨_, cell_blk hz8 rfl, ?_⟩
    intro bs h10 n10
    have oQ8 := oQ7.ext x8
    refine xappend_one' (x := (⟨C, j, cc⟩ : Sl)) slInfo2 slZero2 rfl (by decide) encSl_len encSl_one oQ8 n10 hQl (by omega) (x7.trans x8).size fun QA' qc' h11 o11 k11 alt => ?_
    have f11 : Fr (fun j => QA = some ⟨j, 0, none⟩) h8 h11 := k11.fr' fun _ e => e
    have off : ∀ T : TypeId, (124 : TypeId) ≠ T → Off (fun j => QA = some ⟨j, 0, none⟩) h8 T := by
      intro T hT j c e g hj hc
      rw [hj] at oQ8
      obtain ⟨cx, hx⟩ := own_blk oQ8
      rw [ty_eq hc hx]
      exact hT
    have hz11 := f11.blk hz8 ((off _ (by decide)).not hz8)
    have x11 : Ext h1 h11 := f11.ext (x7.trans x8) fun j hj => oQ8.ge j hj
    refine ⟨rfl, rfl, canset_blk hz11 rfl, fun h12 s12 => ?_⟩
    have hz12 : h12[zb]? = some (.cells [.slice SA M.stands.length sc, .slice VA M.vlans.length vc, .slice BA M.book.length bc, .slice QA' (i + 1) qc'].toArray 147 (0, 0)) := s12.put hz11
    have f12 : Fr (fun j => j = zb) h11 h12 := s12.fr rfl
    have off12 : ∀ T : TypeId, (147 : TypeId) ≠ T → Off (fun j => j = zb) h11 T := fun T hT => offOne hz11 hT
    have x12 : Ext h1 h12 := f12.ext x11 fun j hj => by rw [hj]; exact zg
    refine ⟨(i + 1, QA', qc', Q ++ [⟨C, j, cc⟩]), ⟨rfl, rfl, rfl, rfl, slot_inc (i := i) (by omega), trivial⟩,
      ⟨⟨by show i + 1 ≤ j; omega, by show (Q ++ [_]).length = i + 1; simp; omega⟩, hz12, ((oS7.ext x8).frT f11 (off _ (by decide))).frT f12 (off12 _ (by decide)), ((oV7.ext x8).frT f11 (off _ (by decide))).frT f12 (off12 _ (by decide)), ((oB7.ext x8).frT f11 (off _ (by decide))).frT f12 (off12 _ (by decide)), ?_, o11.frT f12 (off12 _ (by decide)), ?_, x12⟩, by show j - (i + 1) < j - i; omega⟩
    · intro a r l hr hl
      obtain ⟨e1, e2⟩ := rows7 a r l hr hl
      exact ⟨e1, ((e2.ext x8).frT f11 (off _ (by decide))).frT f12 (off12 _ (by decide))⟩
    · intro a r hr
      by_cases hai : a < i
      · have hr : Q[a]? = some r := by rw [← List.getElem?_append_left (l₂ := [⟨C, j, cc⟩]) (by omega)]; exact hr
        obtain ⟨e1, S', e2, e3, e4⟩ := rq7 a r hr
        exact ⟨e1, S', e2, ((e3.ext x8).frT f11 (off _ (by decide))).frT f12 (off12 _ (by decide)), fun b t ht => ⟨(e4 b t ht).1, (((e4 b t ht).2.ext x8).frT f11 (off _ (by decide))).frT f12 (off12 _ (by decide))⟩⟩
      · have hl' := (List.getElem?_eq_some_iff.1 hr).1
        have hai : a = i := by simp at hl'; omega
        subst hai
        have hr : (Q ++ [(⟨C, j, cc⟩ : Sl)])[a]? = some r := hr
        rw [List.getElem?_append_right (by omega), hQl, Nat.sub_self] at hr
        cases hr
        exact ⟨rfl, S, hSl, ((oC8.mono x7.size).frT f11 (off _ (by decide))).frT f12 (off12 _ (by decide)), fun b t ht => ⟨(rc8 b t ht).1, (((rc8 b t ht).2.mono x7.size).frT f11 (off _ (by decide))).frT f12 (off12 _ (by decide))⟩⟩
  have hge : ¬ (i : Int) < N := of_decide_eq_false hge
  obtain rfl : i = N := by omega
  have hrb7 := x7.blk hrb1
  refine ⟨_, rfl, reads_all hz7, rfl, rfl, canset_blk hrb7 rfl, fun h8 s8 => ?_⟩
  have hrb8 : h8[rb]? = some (.cells [.slice SA M.stands.length sc, .slice VA M.vlans.length vc, .slice BA M.book.length bc, .slice QA i qc].toArray 147 (0, 0)) := s8.put hrb7
  have f8 : Fr (fun j => j = rb) h7 h8 := s8.fr rfl
  have off8 : ∀ T : TypeId, (147 : TypeId) ≠ T → Off (fun j => j = rb) h7 T := fun T hT => offOne hrb7 hT
  have x8 : Ext h h8 := f8.ext (n1.ext.trans x7) fun j hj => by rw [hj]; exact n1.ge (Ext.refl _)
  have eN : p.ports.toNat = i := by omega
  rw [eN]
  refine ⟨_, rfl, reads_all hrb8, SA, VA, BA, QA, sc, vc, bc, qc, B, Q, rfl, (oS7.frT f8 (off8 _ (by decide))).row encSn_len, (oV7.frT f8 (off8 _ (by decide))).row encVl_len, ⟨hBl, (oB7.frT f8 (off8 _ (by decide))).row encSl_len, ?_⟩, ⟨hQl, (oQ7.frT f8 (off8 _ (by decide))).row encSl_len, ?_⟩, x8⟩
  · intro a r l hr hl
    obtain ⟨e1, e2⟩ := rows7 a r l hr hl
    exact ⟨e1, (e2.frT f8 (off8 _ (by decide))).row encP_len⟩
  · intro a r hr
    obtain ⟨e1, S', e2, e3, e4⟩ := rq7 a r hr
    exact ⟨e1, S', e2, (e3.frT f8 (off8 _ (by decide))).row encSl_len, fun b t ht => ⟨(e4 b t ht).1, ((e4 b t ht).2.frT f8 (off8 _ (by decide))).row encI_len⟩⟩
end
end Go.Proofs.YtgiofdiifkahoaaGreatE
