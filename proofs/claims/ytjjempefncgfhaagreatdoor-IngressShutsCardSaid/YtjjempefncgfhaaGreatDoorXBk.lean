/- How a book lies in memory: its block, the table of its buckets, each bucket. Conditions: none. -/
import Derived.Test.YtjjempefncgfhaaGreatDoorXM11
set_option linter.unusedVariables false
set_option linter.unusedSimpArgs false
namespace Go.Proofs.YtjjempefncgfhaaGreatDoorE
open Go
structure Sl where
  a : Option Addr
  n : Nat
  c : Nat
def encSl (r : Sl) : List Value := [.slice r.a r.n r.c]
theorem encSl_len (r : Sl) : (encSl r).length = 1 := rfl
theorem encSl_one (r : Sl) : (encSl r).all Value.oneCell' = true := rfl
theorem encSl_at {r : Sl} : (encSl r)[0]? = some (.slice r.a r.n r.c) := rfl
theorem ty_eq {h : Heap} {b : Nat} {c c' : Array Value} {e e' : TypeId} {f f' : Nat × Nat} (h1 : h[b]? = some (.cells c e f)) (h2 : h[b]? = some (.cells c' e' f')) : e = e' := by
  rw [h1] at h2
  simp only [Option.some.injEq, Obj.cells.injEq] at h2
  exact h2.2.1
theorem OwnA.keep {α : Type} {enc : α → List Value} {sz : Nat} {T : TypeId} {base x : Nat} {h h' : Heap} {A : Option Addr} {c : Nat} {xs : List α} {cx : Array Value} {Tx : TypeId} {fx : Nat × Nat} (H : OwnA enc sz T base h A c xs) (k : KeepA (some ⟨x, 0, none⟩) h h')
    (hx : h[x]? = some (.cells cx Tx fx)) (hT : Tx ≠ T) : OwnA enc sz T base h' A c xs := by
  rcases H with H | ⟨b, rest, e, hg, hb, r⟩
  · exact .inl H
  · refine .inr ⟨b, rest, e, hg, k.blk hb (fun e => ?_), r⟩
    cases e
    rw [hx] at hb; cases hb; exact hT rfl
/-- What else lies there when a block of one's own is another one. -/
theorem KeepA.extOf {A : Option Addr} {h h' : Heap} {b : Nat} (k : KeepA A h h') (hA : A = some ⟨b, 0, none⟩) (hb : h.size ≤ b) : Ext h h' := ⟨k.size, fun j hj => k.old j hj (by rw [hA]; rintro ⟨⟩; omega)⟩
section
variable (tB tS tP : TypeId)
def Bks (base : Nat) (h : Heap) (R : List Sl) (L : List (List Place)) : Prop :=
  R.length = L.length ∧ ∀ (i : Nat) r l, R[i]? = some r → L[i]? = some l → r.n = l.length ∧ OwnA encP 6 tP base h r.a r.c l
/-- The book at block b: its size, its table at block tb, the buckets. -/
structure BkAt (base : Nat) (h : Heap) (b tb : Nat) (s : Sz) (L : List (List Place)) : Prop where
  ge : base ≤ b
  holds : ∃ (cap : Nat) (R : List Sl), h[b]? = some (.cells [.int .i64 s.sh, .int .i64 s.bk, .int .i64 s.sl, .slice (some ⟨tb, 0, none⟩) R.length cap].toArray tB (0, 0)) ∧ OwnA encSl 1 tS base h (some ⟨tb, 0, none⟩) cap R ∧ Bks tP base h R L
end
section
variable {tB tS tP : TypeId} {base : Nat} {h h' : Heap} {b tb : Nat} {s : Sz} {L : List (List Place)}
theorem Bks.ext {R : List Sl} (H : Bks tP base h R L) (x : Ext h h') : Bks tP base h' R L := ⟨H.1, fun i r l hr hl => ⟨(H.2 i r l hr hl).1, (H.2 i r l hr hl).2.ext x⟩⟩
theorem Bks.keep {R : List Sl} {x : Nat} {cx : Array Value} {Tx : TypeId} {fx : Nat × Nat} (H : Bks tP base h R L) (k : KeepA (some ⟨x, 0, none⟩) h h') (hx : h[x]? = some (.cells cx Tx fx)) (hT : Tx ≠ tP) : Bks tP base h' R L :=
  ⟨H.1, fun i r l hr hl => ⟨(H.2 i r l hr hl).1, (H.2 i r l hr hl).2.keep k hx hT⟩⟩
theorem BkAt.ext (H : BkAt tB tS tP base h b tb s L) (x : Ext h h') : BkAt tB tS tP base h' b tb s L := by
  obtain ⟨cap, R, hb, ho, hk⟩ := H.holds
  exact ⟨H.ge, cap, R, x.blk hb, ho.ext x, hk.ext x⟩
theorem BkAt.mono {base' : Nat} (H : BkAt tB tS tP base h b tb s L) (hb : base' ≤ base) : BkAt tB tS tP base' h b tb s L := by
  obtain ⟨cap, R, h1, ho, hk⟩ := H.holds
  exact ⟨Nat.le_trans hb H.ge, cap, R, h1, ho.mono hb, hk.1, fun i r l hr hl => ⟨(hk.2 i r l hr hl).1, (hk.2 i r l hr hl).2.mono hb⟩⟩
theorem BkAt.keep {x : Nat} {cx : Array Value} {Tx : TypeId} {fx : Nat × Nat} (H : BkAt tB tS tP base h b tb s L) (k : KeepA (some ⟨x, 0, none⟩) h h') (hx : h[x]? = some (.cells cx Tx fx)) (h1 : Tx ≠ tB) (h2 : Tx ≠ tS) (h3 : Tx ≠ tP) : BkAt tB tS tP base h' b tb s L := by
  obtain ⟨cap, R, hb, ho, hk⟩ := H.holds
  refine ⟨H.ge, cap, R, k.blk hb (fun e => ?_), ho.keep k hx h2, hk.keep k hx h3⟩
  cases e
  rw [hx] at hb; cases hb; exact h1 rfl
theorem BkAt.lt (H : BkAt tB tS tP base h b tb s L) : b < h.size := by
  obtain ⟨cap, R, hb, _⟩ := H.holds
  exact blk_lt hb
theorem BkAt.table (H : BkAt tB tS tP base h b tb s L) : base ≤ tb ∧ ∃ cx, h[tb]? = some (.cells cx tS (0, 0)) := by
  obtain ⟨cap, R, _, ho, _⟩ := H.holds
  rcases ho with ⟨e, _⟩ | ⟨b', rest, e, hg, hb, _⟩
  · cases e
  · cases e
    exact ⟨hg, _, hb⟩
/-- The cells of a book's block. -/
theorem BkAt.cells (H : BkAt tB tS tP base h b tb s L) : cell h ⟨b, 0, none⟩ = some (.int .i64 s.sh) ∧ cell h ⟨b, 1, none⟩ = some (.int .i64 s.bk) ∧ cell h ⟨b, 2, none⟩ = some (.int .i64 s.sl) ∧ (∃ cap, L.length ≤ cap ∧ cell h ⟨b, 3, none⟩ = some (.slice (some ⟨tb, 0, none⟩) L.length cap)) ∧ Reads h ⟨b, 0, none⟩ [.int .i64 s.sh, .int .i64 s.bk, .int .i64 s.sl] := by
  obtain ⟨cap, R, hb, ho, hk⟩ := H.holds
  have := ho.le
  rw [hk.1] at this hb
  exact ⟨cell_blk hb rfl, cell_blk hb rfl, cell_blk hb rfl, ⟨cap, this, cell_blk hb rfl⟩, reads_at hb rfl⟩
/-- A bucket of it. -/
theorem BkAt.bucket (H : BkAt tB tS tP base h b tb s L) {i : Nat} {l : List Place} (hl : L[i]? = some l) : ∃ A c, cell h ⟨tb, i, none⟩ = some (.slice A l.length c) ∧ OwnA encP 6 tP base h A c l := by
  obtain ⟨cap, R, hb, ho, hk⟩ := H.holds
  have hi : i < R.length := by rw [hk.1]; exact (List.getElem?_eq_some_iff.1 hl).1
  have hr : R[i]? = some R[i] := List.getElem?_eq_getElem hi
  obtain ⟨e, o⟩ := hk.2 i _ l hr hl
  obtain ⟨a, ha, hrd⟩ := ho.row encSl_len i _ hr
  cases ha
  have h1 := hrd.cons
  rw [add_lit] at h1
  simp only [Nat.zero_add, Nat.mul_one] at h1
  exact ⟨_, _, by rw [← e]; exact h1, o⟩
/-- Another bucket in its place. -/
theorem BkAt.canset (H : BkAt tB tS tP base h b tb s L) {i : Nat} (hi : i < L.length) : CanSet h ⟨tb, i, none⟩ 1 := by
  obtain ⟨cap, R, hb, ho, hk⟩ := H.holds
  obtain ⟨b', e, _, hcs⟩ := ho.canset encSl_len (i := i) (j := 0) (n := 1) (by rw [hk.1]; exact hi) (by omega)
  cases e
  simpa using hcs
theorem BkAt.put (H : BkAt tB tS tP base h b tb s L) (h1 : tS ≠ tB) (h2 : tS ≠ tP) {i : Nat} {l' : List Place} {A : Option Addr} {n c : Nat} (hi : i < L.length) (hn : n = l'.length) (ho' : OwnA encP 6 tP base h A c l') (st : Stored h ⟨tb, i, none⟩ [.slice A n c] h') :
    BkAt tB tS tP base h' b tb s (L.set i l') ∧ KeepA (some ⟨tb, 0, none⟩) h h' := by
  subst hn
  obtain ⟨cap, R, hb, ho, hk⟩ := H.holds
  obtain ⟨_, cx, htb⟩ := H.table
  have kp : KeepA (some ⟨tb, 0, none⟩) h h' := st.keepA
  have hiR : i < R.length := by rw [hk.1]; exact hi
  have hr : R[i]? = some R[i] := List.getElem?_eq_getElem hiR
  refine ⟨⟨H.ge, cap, R.set i ⟨A, l'.length, c⟩, ?_, ?_, ?_⟩, kp⟩
  · rw [List.length_set]
    refine kp.blk hb fun e => ?_
    cases e
    rw [htb] at hb; cases hb; exact h1 rfl
  · exact ho.put encSl_len (i := i) (j := 0) (x' := ⟨A, l'.length, c⟩) rfl (by simpa using st) hr (by simp) rfl
  · refine ⟨by simpa using hk.1, fun j r l hr' hl' => ?_⟩
    rw [List.getElem?_set] at hr' hl'
    by_cases e : i = j
    · subst e
      rw [if_pos rfl, if_pos hiR] at hr'
      rw [if_pos rfl, if_pos hi] at hl'
      cases hr'; cases hl'
      exact ⟨rfl, ho'.keep kp htb h2⟩
    · rw [if_neg e] at hr' hl'
      exact ⟨(hk.2 j r l hr' hl').1, (hk.2 j r l hr' hl').2.keep kp htb h2⟩
end
/-- Some more elements behind a list of one's own. -/
theorem xappend_many {α : Type} {enc : α → List Value} {sz bytes base n m : Nat} {P : Program} {T : TypeId} {zs : List Value} {h : Heap} {A B : Option Addr} {c : Nat} {xs ys : List α} {K : Value → Heap → Prop}
    (hi : (P.info? T).map (fun i => (i.size, i.bytes)) = some (sz, bytes)) (hz : xzero P T = some zs) (hzl : zs.length = sz) (hpos : 0 < bytes) (hl : ∀ x, (enc x).length = sz) (hone : ∀ x, (enc x).all Value.oneCell' = true)
    (own : OwnA enc sz T base h A c xs) (hn : xs.length = n) (hm : ys.length = m) (ry : readsOf h B (ys.flatMap enc)) (fit : (n + m) * bytes ≤ 140737488355328) (hbase : base ≤ h.size)
    (hk : ∀ A' c' h', OwnA enc sz T base h' A' c' (xs ++ ys) → KeepA A h h' → K (.slice A' (n + m) c') h') : XAppend P T h A n c B m K := by
  subst hn
  subst hm
  cases hinf : P.info? T with
  | none => rw [hinf] at hi; cases hi
  | some i =>
    rw [hinf] at hi
    simp only [Option.map_some, Option.some.injEq, Prod.mk.injEq] at hi
    obtain ⟨rfl, rfl⟩ := hi
    have hall : (ys.flatMap enc).all Value.oneCell' = true := by
      rw [List.all_flatMap, List.all_eq_true]
      exact fun x _ => hone x
    refine ⟨i, zs, xs.flatMap enc, ys.flatMap enc, hinf, hz, own.appendOk hl rfl fit hpos ry hall, ?_, ?_, ?_⟩
    · intro hroom hA
      have own0 := own
      rcases own with ⟨_, rfl, rfl⟩ | ⟨b', _, e, _⟩
      · have hy : ys = [] := by
          have : ys.length = 0 := by simp at hroom; simp [hroom]
          exact List.length_eq_zero_iff.1 this
        subst hy
        subst hA
        exact hk none 0 h (by simpa using own0) ((Ext.refl h).keepA _)
      · rw [hA] at e; cases e
    · intro hroom a h' hA s
      refine hA ▸ hk A c h' (own.appended hl rfl hA hroom s) ?_
      rcases own with ⟨e, _⟩ | ⟨b', _, e, _⟩
      · rw [hA] at e; cases e
      · rw [hA] at e; cases e
        rw [add_lit] at s
        rw [hA]
        exact s.keepA
    · intro hlt cap b' h' hcap n2
      exact hk _ cap h' (OwnA.grown rfl rfl hzl hcap n2 hbase) (n2.ext.keepA _)
section
variable (tB tS tP : TypeId)
/-- A book that is being made: its table is none yet, or at A. -/
structure BkO (base : Nat) (h : Heap) (b : Nat) (A : Option Addr) (cap : Nat) (s : Sz) (L : List (List Place)) : Prop where
  ge : base ≤ b
  holds : ∃ (R : List Sl), h[b]? = some (.cells [.int .i64 s.sh, .int .i64 s.bk, .int .i64 s.sl, .slice A L.length cap].toArray tB (0, 0)) ∧ OwnA encSl 1 tS base h A cap R ∧ Bks tP base h R L
end
section
variable {tB tS tP : TypeId} {base : Nat} {h h' : Heap} {b tb : Nat} {s : Sz} {L : List (List Place)} {A : Option Addr} {cap : Nat}
theorem BkO.ext (H : BkO tB tS tP base h b A cap s L) (x : Ext h h') : BkO tB tS tP base h' b A cap s L := by
  obtain ⟨R, hb, ho, hk⟩ := H.holds
  exact ⟨H.ge, R, x.blk hb, ho.ext x, hk.ext x⟩
theorem BkO.done (H : BkO tB tS tP base h b A cap s L) (hL : L ≠ []) : ∃ tb, A = some ⟨tb, 0, none⟩ ∧ BkAt tB tS tP base h b tb s L := by
  obtain ⟨R, hb, ho, hk⟩ := H.holds
  have hA : ∃ tb, A = some ⟨tb, 0, none⟩ := by
    rcases ho with ⟨_, e, _⟩ | ⟨tb, _, e, _⟩
    · have := hk.1
      rw [e] at this
      exact absurd (List.length_eq_zero_iff.1 this.symm) hL
    · exact ⟨tb, e⟩
  obtain ⟨tb, rfl⟩ := hA
  exact ⟨tb, rfl, H.ge, cap, R, by rw [hk.1]; exact hb, ho, hk⟩
theorem BkO.lt (H : BkO tB tS tP base h b A cap s L) : b < h.size := by
  obtain ⟨R, hb, _⟩ := H.holds
  exact blk_lt hb
theorem BkO.c3 (H : BkO tB tS tP base h b A cap s L) : cell h ⟨b, 3, none⟩ = some (.slice A L.length cap) := by
  obtain ⟨R, hb, _⟩ := H.holds
  exact cell_blk hb rfl
theorem BkO.ne (H : BkO tB tS tP base h b A cap s L) {k : Nat} {c : Array Value} {e : TypeId} {f : Nat × Nat} (hk : h[k]? = some (.cells c e f)) (he : e ≠ tB) : k ≠ b := by
  obtain ⟨R, hb, _⟩ := H.holds
  rintro rfl
  exact he (ty_eq hk hb)
theorem BkO.start {h1 : Heap} (n : New h h1 b (.cells [.int .i64 s.sh, .int .i64 s.bk, .int .i64 s.sl, .slice none 0 0].toArray tB (0, 0))) (hb : base ≤ h.size) : BkO tB tS tP base h1 b none 0 s [] :=
  ⟨by have := n.at_; omega, [], n.this, .inl ⟨rfl, rfl, rfl⟩, rfl, fun i r l hr => by simp at hr⟩
/-- One bucket more: the table grows, and stands in the book. -/
theorem BkO.more {P : Program} {h1 : Heap} {bs : Nat} {zs : List Value} {bytes : Nat} {l' : List Place} {A' : Option Addr} {n c' : Nat} {K : Value → Heap → Prop} (hi : (P.info? tS).map (fun i => (i.size, i.bytes)) = some (1, bytes)) (hz : xzero P tS = some zs) (hzl : zs.length = 1) (hpos : 0 < bytes) (hby : bytes ≤ 1000)
    (t1 : tS ≠ tB) (t2 : tS ≠ tP) (t3 : tB ≠ tP) (H : BkO tB tS tP base h b A cap s L) (hn : n = l'.length) (ho' : OwnA encP 6 tP base h A' c' l') (n1 : New h h1 bs (.cells [Value.slice A' n c'].toArray tS)) (hL : L.length ≤ 1000)
    (hk : ∀ A2 c2 h2, CanSet h2 ⟨b, 3, none⟩ 1 → (∀ (k : Nat) (c : Array Value) (e : TypeId) (f : Nat × Nat), h[k]? = some (Obj.cells c e f) → e ≠ tS → h2[k]? = some (Obj.cells c e f)) → (∀ h0 : Heap, h0.size ≤ base → Ext h0 h → Ext h0 h2) → (∀ h3, Stored h2 ⟨b, 3, none⟩ [.slice A2 (L.length + 1) c2] h3 → BkO tB tS tP base h3 b A2 c2 s (L ++ [l'])) → K (.slice A2 (L.length + 1) c2) h2) :
    XAppend P tS h1 A L.length cap (some ⟨bs, 0, none⟩) 1 K := by
  subst hn
  obtain ⟨R, hb, ho, hR⟩ := H.holds
  have hbs : base ≤ h.size := Nat.le_trans H.ge (Nat.le_of_lt H.lt)
  refine xappend_one (enc := encSl) (x := ⟨A', l'.length, c'⟩) hi hz hzl hpos encSl_len encSl_one ho n1 hR.1 ?_ hbs fun A2 c2 h2 o2 k2 => ?_
  · have := Nat.mul_le_mul (show L.length + 1 ≤ 1001 by omega) hby
    omega
  have hAb : A ≠ some ⟨b, 0, none⟩ := by
    rintro rfl
    rcases ho with ⟨e, _⟩ | ⟨tb, _, e, _, e2, _⟩
    · cases e
    · cases e; exact t1 (ty_eq e2 hb)
  have hb2 := k2.blk hb hAb
  have keepP : ∀ {A3 : Option Addr} {c3 : Nat} {l3 : List Place}, OwnA encP 6 tP base h A3 c3 l3 → OwnA encP 6 tP base h2 A3 c3 l3 := by
    intro A3 c3 l3 o3
    rcases o3 with o3 | ⟨b3, rest, e3, hg3, hb3, r3⟩
    · exact .inl o3
    · refine .inr ⟨b3, rest, e3, hg3, k2.blk hb3 ?_, r3⟩
      rintro rfl
      rcases ho with ⟨e, _⟩ | ⟨tb, _, e, _, e2, _⟩
      · cases e
      · cases e; exact t2 (ty_eq e2 hb3)
  refine hk A2 c2 h2 (canset_blk hb2 rfl) (fun k c e f hkk he => k2.blk hkk ?_) (fun h0 h0b x0 => k2.ext x0 fun b' e' => Nat.le_trans h0b (ho.ge b' e')) fun h3 s3 => ?_
  · rintro rfl
    rcases ho with ⟨e2, _⟩ | ⟨tb, _, e2, _, e3, _⟩
    · cases e2
    · cases e2; exact he (ty_eq hkk e3)
  have hb3 : h3[b]? = some (.cells [.int .i64 s.sh, .int .i64 s.bk, .int .i64 s.sl, .slice A2 (L.length + 1) c2].toArray tB (0, 0)) := s3.put hb2
  refine ⟨H.ge, R ++ [⟨A', l'.length, c'⟩], by rw [List.length_append]; exact hb3, o2.other s3 ?_, by simp [hR.1], fun i r l hr hl => ?_⟩
  · rintro b' rfl
    intro (e : b' = b)
    subst e
    rcases o2 with ⟨e, _⟩ | ⟨tb, _, e, _, e2, _⟩
    · cases e
    · cases e; exact t1 (ty_eq e2 hb2)
  · have oth : ∀ {A3 : Option Addr} {c3 : Nat} {l3 : List Place}, OwnA encP 6 tP base h A3 c3 l3 → OwnA encP 6 tP base h3 A3 c3 l3 := by
      intro A3 c3 l3 o3
      refine (keepP o3).other s3 ?_
      rintro b' rfl
      intro (e : b' = b)
      subst e
      rcases o3 with ⟨e, _⟩ | ⟨tb, _, e, _, e2, _⟩
      · cases e
      · cases e; exact t3 (ty_eq hb e2)
    rcases Nat.lt_or_ge i R.length with hlt | hge
    · rw [List.getElem?_append_left hlt] at hr
      rw [List.getElem?_append_left (by rw [← hR.1]; exact hlt)] at hl
      exact ⟨(hR.2 i r l hr hl).1, oth (hR.2 i r l hr hl).2⟩
    · rw [List.getElem?_append_right hge] at hr
      rw [List.getElem?_append_right (by rw [← hR.1]; exact hge), ← hR.1] at hl
      have h0 : i - R.length = 0 := by
        rcases Nat.eq_zero_or_pos (i - R.length) with h | h
        · exact h
        · rw [List.getElem?_eq_none (by simp; omega)] at hr; cases hr
      rw [h0] at hr hl
      simp only [List.getElem?_cons_zero, Option.some.injEq] at hr hl
      subst hr
      subst hl
      exact ⟨rfl, oth ho'⟩
end
theorem OwnA.keepGe {α : Type} {enc : α → List Value} {sz : Nat} {T : TypeId} {base x : Nat} {h h' : Heap} {A : Option Addr} {c : Nat} {xs : List α} (H : OwnA enc sz T base h A c xs) (k : KeepA (some ⟨x, 0, none⟩) h h') (hx : x < base) : OwnA enc sz T base h' A c xs := by
  rcases H with H | ⟨b, rest, e, hg, hb, r⟩
  · exact .inl H
  · exact .inr ⟨b, rest, e, hg, k.blk hb (by rintro ⟨⟩; omega), r⟩
/-- A book that is newer than what is changed stays. -/
theorem BkAt.keepGe {tB tS tP : TypeId} {base : Nat} {h h' : Heap} {b tb x : Nat} {s : Sz} {L : List (List Place)} (H : BkAt tB tS tP base h b tb s L) (k : KeepA (some ⟨x, 0, none⟩) h h') (hx : x < base) : BkAt tB tS tP base h' b tb s L := by
  obtain ⟨cap, R, hb, ho, hk⟩ := H.holds
  have := H.ge
  exact ⟨H.ge, cap, R, k.blk hb (by rintro ⟨⟩; omega), ho.keepGe k hx, hk.1, fun i r l hr hl => ⟨(hk.2 i r l hr hl).1, (hk.2 i r l hr hl).2.keepGe k hx⟩⟩
end Go.Proofs.YtjjempefncgfhaaGreatDoorE
