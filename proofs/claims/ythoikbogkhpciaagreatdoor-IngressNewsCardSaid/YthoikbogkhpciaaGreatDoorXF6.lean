/- The rings of a fabric are laid; a fabric is made. Conditions: the plan may be. -/
import Derived.Test.YthoikbogkhpciaaGreatDoorXF3
set_option linter.unusedVariables false
set_option linter.unusedSimpArgs false
set_option maxRecDepth 100000
namespace Go.Proofs.YthoikbogkhpciaaGreatDoorE
open Go Go.Proofs
def env_cLay : Nat → Ann
  | 6 => ⟨.op 0 [] <| .op 1 [] <| .op 2 [] <| .op 3 [] <| .op 4 [] <| .op 5 [] <| .op 6 [] <| .op 7 [] <| .op 8 [] <| .op 9 [] <| .op 10 [] <| .op 11 [] <| .op 12 [] <| .op 13 [] <| .op 14 [] <| .op 15 [] <| .nil, [0, 1, 3, 7, 0, 0, 32, 96, 224, 480, 1023, 2047, 4095, 4095, 8191, 32767], false⟩
  | _ => ⟨.nil, [], false⟩
theorem Chg.keep {l : List (Nat × TypeId)} {h0 h h' : Heap} {A : Option Addr} (x : Chg l h0 h) (k : KeepA A h h') (hA : ∀ b, A = some ⟨b, 0, none⟩ → h0.size ≤ b) : Chg l h0 h' := by
  have e : ∀ j, j < h0.size → h'[j]? = h[j]? := fun j hj => k.old j (Nat.lt_of_lt_of_le hj x.size) fun e => by have := hA j e; omega
  exact ⟨Nat.le_trans x.size k.size, fun j hj hn => (e j hj).trans (x.old j hj hn), fun j cs T f hj hn => (e j (blk_lt hj)).trans (x.oldT j cs T f hj hn)⟩
theorem Chg.stored {l : List (Nat × TypeId)} {h0 h h' : Heap} {a : Addr} {vs : List Value} (x : Chg l h0 h) (s : Stored h a vs h') (hA : h0.size ≤ a.block) : Chg l h0 h' := by
  have e : ∀ j, j < h0.size → h'[j]? = h[j]? := fun j hj => s.other j (by omega)
  exact ⟨by rw [s.size]; exact x.size, fun j hj hn => (e j hj).trans (x.old j hj hn), fun j cs T f hj hn => (e j (blk_lt hj)).trans (x.oldT j cs T f hj hn)⟩
theorem KeepA.blkT {h h' : Heap} {A : Option Addr} {α : Type} {enc : α → List Value} {sz : Nat} {T : TypeId} {base c : Nat} {xs : List α} (k : KeepA A h h') (o : OwnA enc sz T base h A c xs) {b : Nat} {cs : Array Value} {T' : TypeId} {f : Nat × Nat} (hb : h[b]? = some (.cells cs T' f)) (ne : T' ≠ T) : h'[b]? = some (.cells cs T' f) := by
  refine k.blk hb fun e => ?_
  subst e
  obtain ⟨cs', hc⟩ := o.block
  exact blk_ne hb hc ne rfl
theorem OwnA.keepO {h h' : Heap} {A A' : Option Addr} {α β : Type} {enc : α → List Value} {enc' : β → List Value} {sz sz' : Nat} {T T' : TypeId} {base base' c c' : Nat} {xs : List α} {ys : List β} (o : OwnA enc sz T base h A c xs) (k : KeepA A' h h') (o' : OwnA enc' sz' T' base' h A' c' ys) (ne : T ≠ T' ∨ A = none ∨ A ≠ A') : OwnA enc sz T base h' A c xs := by
  rcases o with ⟨a, b, d⟩ | ⟨b, rest, rfl, hg, hb, hr, hc⟩
  · exact .inl ⟨a, b, d⟩
  · refine .inr ⟨b, rest, rfl, hg, ?_, hr, hc⟩
    rcases ne with ne | ne | ne
    · exact k.blkT o' hb ne
    · cases ne
    · exact k.blk hb fun e => ne e.symm
theorem MemAt.keepO {h h' : Heap} {A' : Option Addr} {β : Type} {enc' : β → List Value} {sz' : Nat} {T' : TypeId} {base' c' : Nat} {ys : List β} {mb cb lb : Nat} {M : MemS} (H : MemAt h mb cb lb M) (k : KeepA A' h h') (o' : OwnA enc' sz' T' base' h A' c' ys) (n1 : 134 ≠ T') (n2 : 57 ≠ T') (n3 : 3 ≠ T') : MemAt h' mb cb lb M :=
  ⟨k.blkT o' H.mem n1, H.cells.keepO k o' (.inl n2), H.locks.keepO k o' (.inl n3)⟩
theorem bs_next (b0 P S i k : Nat) : bs b0 P S (k + 1) i = bs b0 P S k i + (S + 2) := by unfold bs; rw [← Nat.add_assoc, Nat.succ_mul]; omega
theorem bs_row (b0 P S i : Nat) : bs b0 P S P i = bs b0 P S 0 (i + 1) := by unfold bs; rw [Nat.succ_mul]; rfl
def R0 (b0 P S a b : Nat) : RS := ⟨bs b0 P S b a, S, 0, 0, false, 0, 0, false⟩
def In (P i k a b : Nat) : Prop := (a < i ∧ b < P) ∨ (a = i ∧ b < k)
structure LayI (h0 h : Heap) (fb mb cb lb db : Nat) (pv : List Value) (P S b0 : Nat) (M : MemS) (RA : Option Addr) (rc : Nat) (rows : List Sl) (rb : Nat → Nat → Nat) (i k : Nat) : Prop where
  blk : h[fb]? = some (.cells (pv ++ [Value.pointer (some ⟨mb, 0, none⟩), Value.pointer (some ⟨db, 0, none⟩), Value.slice RA rows.length rc]).toArray 106 (0, 0))
  own : OwnA encSl 1 140 h0.size h RA rc rows
  len : rows.length = i
  row : ∀ j r, rows[j]? = some r → r.n = P ∧ OwnA encPtr 1 141 h0.size h r.a r.c ((List.range P).map (rb j))
  ring : ∀ a b, In P i k a b → RingAt h (rb a b) mb (R0 b0 P S a b) ∧ h0.size ≤ rb a b
  inj : ∀ a b a' b', In P i k a b → In P i k a' b' → rb a b = rb a' b' → a = a' ∧ b = b'
  mem : MemAt h mb cb lb { M with t := M.t + 2 * (i * P + k) }
  chg : Chg ((fb, 106) :: ML mb cb lb) h0 h
section
variable {h0 h h' : Heap} {fb mb cb lb db P S b0 : Nat} {pv : List Value} {M : MemS} {RA : Option Addr} {rc : Nat} {rows : List Sl} {rb : Nat → Nat → Nat} {i k : Nat}
/-- One more ring. -/
theorem LayI.more (L : LayI h0 h fb mb cb lb db pv P S b0 M RA rc rows rb i k) (hk : k < P) {x : Nat} (hx : h.size ≤ x) (R : RingAt h' x mb (R0 b0 P S i k)) (hm : MemAt h' mb cb lb { M with t := M.t + 2 * (i * P + (k + 1)) }) (c : Chg (ML mb cb lb) h h') :
    LayI h0 h' fb mb cb lb db pv P S b0 M RA rc rows (fun a b => if a = i ∧ b = k then x else rb a b) i (k + 1) := by
  have old : ∀ a b, In P i (k + 1) a b → ¬ (a = i ∧ b = k) → In P i k a b := by
    intro a b h1 h2
    rcases h1 with h1 | ⟨h1, h3⟩
    · exact .inl h1
    · exact .inr ⟨h1, by omega⟩
  have lt : ∀ a b, In P i k a b → rb a b < h.size := fun a b hi => blk_lt (L.ring a b hi).1
  refine ⟨c.blk L.blk (by first | (simp; done) | (intro p hp; simp [hp]; done) | (simp [ML]; done) | (intro p hp; simp [ML] at hp ⊢; rcases hp with h | h | h <;> simp [h]; done)), L.own.chg c (fun b _ => by first | (simp; done) | (intro p hp; simp [hp]; done) | (simp [ML]; done) | (intro p hp; simp [ML] at hp ⊢; rcases hp with h | h | h <;> simp [h]; done)), L.len, fun j r hj => ?_, fun a b hi => ?_, fun a b a' b' hi hi' e => ?_, hm, L.chg.trans (c.mono (by first | (simp; done) | (intro p hp; simp [hp]; done) | (simp [ML]; done) | (intro p hp; simp [ML] at hp ⊢; rcases hp with h | h | h <;> simp [h]; done)))⟩
  · obtain ⟨e, o⟩ := L.row j r hj
    have hji : j ≠ i := by have := (List.getElem?_eq_some_iff.1 hj).1; have := L.len; omega
    refine ⟨e, ?_⟩
    have := o.chg c (fun b _ => by first | (simp; done) | (intro p hp; simp [hp]; done) | (simp [ML]; done) | (intro p hp; simp [ML] at hp ⊢; rcases hp with h | h | h <;> simp [h]; done))
    rw [show (List.range P).map ((fun a b => if a = i ∧ b = k then x else rb a b) j) = (List.range P).map (rb j) from List.map_congr_left fun b _ => by show (if j = i ∧ b = k then x else rb j b) = rb j b; rw [if_neg (fun q => hji q.1)]]
    exact this
  · show RingAt h' (if a = i ∧ b = k then x else rb a b) mb (R0 b0 P S a b) ∧ h0.size ≤ (if a = i ∧ b = k then x else rb a b)
    by_cases q : a = i ∧ b = k
    · rw [if_pos q]
      obtain ⟨rfl, rfl⟩ := q
      exact ⟨R, Nat.le_trans L.chg.size hx⟩
    · rw [if_neg q]
      obtain ⟨r1, r2⟩ := L.ring a b (old a b hi q)
      exact ⟨c.blk r1 (by first | (simp; done) | (intro p hp; simp [hp]; done) | (simp [ML]; done) | (intro p hp; simp [ML] at hp ⊢; rcases hp with h | h | h <;> simp [h]; done)), r2⟩
  · have e : (if a = i ∧ b = k then x else rb a b) = (if a' = i ∧ b' = k then x else rb a' b') := e
    by_cases q : a = i ∧ b = k
    · by_cases q' : a' = i ∧ b' = k
      · exact ⟨q.1.trans q'.1.symm, q.2.trans q'.2.symm⟩
      · rw [if_pos q, if_neg q'] at e
        have := lt a' b' (old a' b' hi' q')
        omega
    · by_cases q' : a' = i ∧ b' = k
      · rw [if_neg q, if_pos q'] at e
        have := lt a b (old a b hi q)
        omega
      · rw [if_neg q, if_neg q'] at e
        exact L.inj a b a' b' (old a b hi q) (old a' b' hi' q') e
/-- Something else of the call's own is changed. -/
theorem LayI.keep (L : LayI h0 h fb mb cb lb db pv P S b0 M RA rc rows rb i k) {A : Option Addr} {c : Nat} {xs : List Nat} {base : Nat} (K : KeepA A h h') (o : OwnA encPtr 1 141 base h A c xs) (hA : ∀ b, A = some ⟨b, 0, none⟩ → h0.size ≤ b) (sep : A = none ∨ ∀ r ∈ rows, r.a ≠ A) :
    LayI h0 h' fb mb cb lb db pv P S b0 M RA rc rows rb i k := by
  refine ⟨K.blkT o L.blk (by decide), L.own.keepO K o (.inl (by decide)), L.len, fun j r hj => ?_, fun a b hi => ?_, L.inj, L.mem.keepO K o (by decide) (by decide) (by decide), L.chg.keep K hA⟩
  · obtain ⟨e, o'⟩ := L.row j r hj
    refine ⟨e, o'.keepO K o (.inr ?_)⟩
    rcases sep with e | sep
    · cases hr : r.a with
      | none => exact .inl rfl
      | some y => right; rw [e]; simp
    · exact .inr (sep r (List.mem_of_getElem? hj))
  · obtain ⟨r1, r2⟩ := L.ring a b hi
    exact ⟨K.blkT o r1 (by decide), r2⟩
theorem LayI.ext (L : LayI h0 h fb mb cb lb db pv P S b0 M RA rc rows rb i k) (x : Ext h h') : LayI h0 h' fb mb cb lb db pv P S b0 M RA rc rows rb i k :=
  ⟨x.blk L.blk, L.own.ext x, L.len, fun j r hj => ⟨(L.row j r hj).1, (L.row j r hj).2.ext x⟩, fun a b hi => ⟨x.blk (L.ring a b hi).1, (L.ring a b hi).2⟩, L.inj, L.mem.ext x, L.chg.trans (x.chg _)⟩
end
theorem ptrInfo : (Tryz.prog.info? 141).map (fun i => (i.size, i.bytes)) = some (1, 8) := by kernel_rfl
theorem ptrZero : xzero Tryz.prog 141 = some [.pointer none] := by kernel_rfl
theorem prsInfo : (Tryz.prog.info? 140).map (fun i => (i.size, i.bytes)) = some (1, 24) := by kernel_rfl
theorem prsZero : xzero Tryz.prog 140 = some [.slice none 0 0] := by kernel_rfl
theorem cLay_spec {h : Heap} {fb mb cb lb db P S b0 : Nat} {rv vv : Value} {s : Sz} {tries normal short : Int} {M : MemS} (hb : h[fb]? = some (.cells (planV P rv vv s tries S normal short ++ [Value.pointer (some ⟨mb, 0, none⟩), Value.pointer (some ⟨db, 0, none⟩), Value.slice none 0 0]).toArray 106 (0, 0)))
    (HM : MemAt h mb cb lb M) (p1 : 2 ≤ P) (p2 : P ≤ 64) (s1 : 1 ≤ S) (s2 : S ≤ 64) (hf : b0 + P * P * (S + 2) ≤ M.cells.length) (h4 : M.cells.length < 100000000) (ht : M.t < 10000) (hz : ∀ x, b0 ≤ x → x < M.cells.length → M.cells[x]? = some 0) :
    HCalls Tryz.prog 47 #[.pointer (some ⟨fb, 0, none⟩), .int .i64 b0] h (fun v h' => v = .int .i64 0 ∧ ∃ RA rc rows rb, LayI h h' fb mb cb lb db (planV P rv vv s tries S normal short) P S b0 M RA rc rows rb P 0) := by
  refine xcalls env_cLay Tryz.func47 rfl (by kernel_rfl) rfl (by kernel_rfl) ?_
  repeat (first | refine ⟨_, cell_blk (hb) rfl, ?_⟩)
  have hPP : P * P ≤ 64 * 64 := Nat.mul_le_mul p2 p2
  refine ⟨Nat, fun i => [(0, .pointer (some ⟨fb, 0, none⟩)), (1, .int .i64 ((bs b0 P S 0 i : Nat) : Int)), (12, .int .i64 P), (13, .int .i64 i)], fun i h' => i ≤ P ∧ ∃ RA rc rows rb, LayI h h' fb mb cb lb db (planV P rv vv s tries S normal short) P S b0 M RA rc rows rb i 0, fun i => P - i, 0, ⟨rfl, ?_, rfl, rfl, trivial⟩, ⟨Nat.zero_le _, none, 0, [], fun _ _ => 0, ?_⟩, ?_⟩
  · rw [show bs b0 P S 0 0 = b0 by simp [bs]]
    rfl
  · refine ⟨hb, .inl ⟨rfl, rfl, rfl⟩, rfl, fun j r hj => by simp at hj, fun a b hi => ?_, fun a b a' b' hi => ?_, by simpa using HM, Chg.refl _ _⟩
    · rcases hi with ⟨h1, _⟩ | ⟨_, h1⟩ <;> omega
    · rcases hi with ⟨h1, _⟩ | ⟨_, h1⟩ <;> omega
  rintro i h1 ⟨hi, RA, rc, rows, rb, L1⟩
  have hb1 := L1.blk
  refine xif_of (fun q => ?_) (fun q => ?_)
  · have q : i < P := by have := of_decide_eq_true q; omega
    repeat (first | refine ⟨_, cell_blk (hb1) rfl, ?_⟩)
    refine ⟨Nat × Option Addr × Nat, fun z => [(0, .pointer (some ⟨fb, 0, none⟩)), (1, .int .i64 ((bs b0 P S z.1 i : Nat) : Int)), (5, .slice z.2.1 z.1 z.2.2), (12, .int .i64 P), (13, .int .i64 i), (19, .int .i64 P), (20, .int .i64 z.1)],
      fun z h' => z.1 ≤ P ∧ ∃ rb, LayI h h' fb mb cb lb db (planV P rv vv s tries S normal short) P S b0 M RA rc rows rb i z.1 ∧ OwnA encPtr 1 141 h.size h' z.2.1 z.2.2 ((List.range z.1).map (rb i)) ∧ (z.2.1 = none ∨ ∀ r ∈ rows, r.a ≠ z.2.1), fun z => P - z.1, (0, none, 0), ⟨rfl, rfl, rfl, rfl, rfl, rfl, rfl, trivial⟩, ⟨Nat.zero_le _, rb, L1, .inl ⟨rfl, rfl, rfl⟩, .inl rfl⟩, ?_⟩
    rintro ⟨k, LA, lc⟩ h2 ⟨hk, rb, L2, o2, sep⟩
    simp only at hk L2 o2 sep
    have hb2 := L2.blk
    refine xif_of (fun q2 => ?_) (fun q2 => ?_)
    · have q2 : k < P := by have := of_decide_eq_true q2; omega
      have bin := bs_in (b0 := b0) (S := S) (j := i) (q := k) (o := S + 1) q q2 (by omega)
      have iP : i * P + k < P * P := by
        have : (i + 1) * P ≤ P * P := Nat.mul_le_mul_right _ q
        rw [Nat.succ_mul] at this
        omega
      repeat (first | refine ⟨_, cell_blk (hb2) rfl, ?_⟩)
      refine (rNew_spec L2.mem s1 s2 (base := bs b0 P S k i) (by show _ ≤ M.cells.length; omega) h4 (by show M.t + 2 * (i * P + k) < 900000; omega)).mono ?_
      rintro v h3 ⟨x, rfl, hx, R3, M3, c3⟩
      have gk := bs_in (b0 := b0) (S := S) (j := i) (q := k) (o := 0) q q2 (by omega)
      have zs : ∀ y, b0 ≤ y → y < M.cells.length → M.cells.set y 0 = M.cells := fun y g1 g2 => set_same (hz y g1 g2)
      have M3' : MemAt h3 mb cb lb { M with t := M.t + 2 * (i * P + (k + 1)) } := by
        have e1 : (M.cells.set (bs b0 P S k i) 0).set (bs b0 P S k i + 1) 0 = M.cells := by
          rw [zs _ (by unfold bs; omega) (by omega), zs _ (by unfold bs; omega) (by omega)]
        have := M3
        simp only [e1] at this
        rw [show M.t + 2 * (i * P + (k + 1)) = M.t + 2 * (i * P + k) + 1 + 1 by omega]
        exact this
      have L3 := L2.more q2 hx (R := R3) M3' c3
      have o3 := o2.chg c3 (fun b _ => by first | (simp; done) | (intro p hp; simp [hp]; done) | (simp [ML]; done) | (intro p hp; simp [ML] at hp ⊢; rcases hp with h | h | h <;> simp [h]; done))
      have hb3 := L3.blk
      try (refine ⟨by ((repeat (first | refine ⟨cell_blk (hb3) rfl, ?_⟩)); exact trivial), ?_⟩)
      repeat (first | refine ⟨_, cell_blk (hb3) rfl, ?_⟩)
      refine (rCells_spec s1 s2).mono ?_
      rintro v h4 ⟨rfl, rfl⟩
      intro nb h5 n5
      have L5 := L3.ext n5.ext
      have o5 := o3.ext n5.ext
      have n5' : New h4 h5 nb (.cells (encPtr x).toArray 141) := n5
      refine xappend_one' ptrInfo ptrZero rfl (by decide) encPtr_len encPtr_one o3 n5' (by simp) (by omega) (by have := L3.chg.size; omega) fun A' c' h6 o6 K6 hA6 => ?_
      have L6 := L3.keep K6 o3 o3.ge sep
      refine ⟨(k + 1, A', c'), ⟨rfl, ?_, rfl, rfl, rfl, rfl, slot_inc (by omega), trivial⟩, ⟨by show k + 1 ≤ P; omega, _, L6, ?_, ?_⟩, by show P - (k + 1) < P - k; omega⟩
      · show some (Value.int .i64 (IntKind.i64.wrap (((bs b0 P S k i : Nat) : Int) + ((S + 2 : Nat) : Int)))) = some (Value.int .i64 ((bs b0 P S (k + 1) i : Nat) : Int))
        rw [wrap_add _ _ (by omega), bs_next]
      · show OwnA encPtr 1 141 h.size h6 A' c' ((List.range (k + 1)).map fun b => if i = i ∧ b = k then x else rb i b)
        have e : ((List.range (k + 1)).map fun b => if i = i ∧ b = k then x else rb i b) = (List.range k).map (rb i) ++ [x] := by
          rw [List.range_succ, List.map_append]
          congr 1
          · refine List.map_congr_left fun b hb => ?_
            have := List.mem_range.1 hb
            rw [if_neg (by omega)]
          · simp
        rw [e]
        exact o6
      · show A' = none ∨ ∀ r ∈ rows, r.a ≠ A'
        rcases hA6 with rfl | ⟨y, rfl, hy⟩
        · exact sep
        · right
          intro r hr e
          obtain ⟨j, hj⟩ := List.getElem?_of_mem hr
          obtain ⟨_, oj⟩ := L3.row j r hj
          rw [e] at oj
          obtain ⟨cs, hc⟩ := oj.block
          have := blk_lt hc
          omega
    · have e : k = P := by have : ¬ (k : Int) < P := of_decide_eq_false q2; omega
      subst e
      repeat (first | refine ⟨_, cell_blk (hb2) rfl, ?_⟩)
      intro nb h3 n3
      have n3' : New h2 h3 nb (.cells (encSl ⟨LA, k, lc⟩).toArray 140) := n3
      refine xappend_one' prsInfo prsZero rfl (by decide) encSl_len encSl_one L2.own n3' rfl (by rw [L2.len]; omega) L2.chg.size fun A' c' h4 o4 K4 hA4 => ?_
      have hb4 := K4.blkT L2.own L2.blk (by decide)
      refine ⟨rfl, rfl, canset_blk hb4 rfl, fun h5 s5 => ?_⟩
      have c45 : Chg [(fb, 106)] h4 h5 := s5.chg hb4 (.head _)
      have hb5 : h5[fb]? = some (.cells (planV k rv vv s tries S normal short ++ [Value.pointer (some ⟨mb, 0, none⟩), Value.pointer (some ⟨db, 0, none⟩), Value.slice A' (rows.length + 1) c']).toArray 106 (0, 0)) := s5.put hb4
      refine ⟨i + 1, ⟨rfl, ?_, rfl, slot_inc (by omega), trivial⟩, ⟨by omega, A', c', rows ++ [⟨LA, k, lc⟩], rb, ?_⟩, by show k - (i + 1) < k - i; omega⟩
      · show some (Value.int .i64 ((bs b0 k S k i : Nat) : Int)) = some (Value.int .i64 ((bs b0 k S 0 (i + 1) : Nat) : Int))
        rw [bs_row]
      · refine ⟨by rw [List.length_append]; exact hb5, o4.chg c45 (fun b _ => by simp), by rw [List.length_append, L2.len]; rfl, fun j r hj => ?_, fun a b hin => ?_, fun a b a' b' hin hin' e => ?_, ?_, ?_⟩
        · rcases Nat.lt_or_ge j rows.length with hlt | hge
          · rw [List.getElem?_append_left hlt] at hj
            obtain ⟨e, o⟩ := L2.row j r hj
            exact ⟨e, (o.keepO K4 L2.own (.inl (by decide))).chg c45 (fun b _ => by simp)⟩
          · rw [List.getElem?_append_right hge] at hj
            have hj0 : j - rows.length = 0 := by
              have := (List.getElem?_eq_some_iff.1 hj).1
              simp at this
              omega
            rw [hj0] at hj
            cases hj
            have : j = i := by have := L2.len; omega
            subst this
            exact ⟨rfl, (o2.keepO K4 L2.own (.inl (by decide))).chg c45 (fun b _ => by simp)⟩
        · have hin' : In k i k a b := by
            rcases hin with ⟨g1, g2⟩ | ⟨g1, g2⟩
            · rcases Nat.lt_or_ge a i with g3 | g3
              · exact .inl ⟨g3, g2⟩
              · exact .inr ⟨by omega, g2⟩
            · omega
          obtain ⟨r1, r2⟩ := L2.ring a b hin'
          exact ⟨c45.blk (K4.blkT L2.own r1 (by decide)) (by simp), r2⟩
        · have fix : ∀ a b, In k (i + 1) 0 a b → In k i k a b := by
            intro a b hin
            rcases hin with ⟨g1, g2⟩ | ⟨g1, g2⟩
            · rcases Nat.lt_or_ge a i with g3 | g3
              · exact .inl ⟨g3, g2⟩
              · exact .inr ⟨by omega, g2⟩
            · omega
          exact L2.inj a b a' b' (fix a b hin) (fix a' b' hin') e
        · have := (L2.mem.keepO K4 L2.own (by decide) (by decide) (by decide)).chg c45 (by simp) (by simp) (by simp)
          rw [show (i + 1) * k + 0 = i * k + k by rw [Nat.succ_mul]; rfl]
          exact this
        · exact (L2.chg.keep K4 L2.own.ge).trans (c45.mono (by simp))
  · have q : ¬ (i : Int) < P := of_decide_eq_false q
    have e : i = P := by omega
    subst e
    exact ⟨rfl, RA, rc, rows, rb, L1⟩
end Go.Proofs.YthoikbogkhpciaaGreatDoorE
