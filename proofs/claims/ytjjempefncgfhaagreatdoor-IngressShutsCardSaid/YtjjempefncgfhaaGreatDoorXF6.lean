/- The rings of a fabric are laid; a fabric is made. Conditions: the plan may be. -/
import Derived.Test.YtjjempefncgfhaaGreatDoorXF2
set_option linter.unusedVariables false
set_option linter.unusedSimpArgs false
set_option maxRecDepth 100000
namespace Go.Proofs.YtjjempefncgfhaaGreatDoorE
open Go Go.Proofs
def env_cLay : Nat → Ann
  | 6 => ⟨.op 0 [] <| .op 1 [] <| .op 2 [] <| .op 3 [] <| .op 4 [] <| .op 5 [] <| .op 6 [] <| .op 7 [] <| .op 8 [] <| .op 9 [] <| .op 10 [] <| .op 11 [] <| .op 12 [] <| .op 13 [] <| .op 14 [] <| .op 15 [] <| .nil, [0, 1, 3, 7, 0, 0, 32, 96, 224, 480, 1023, 2047, 4095, 4095, 8191, 32767], false⟩
  | _ => ⟨.nil, [], false⟩
def env_cMake : Nat → Ann
  | 7 => ⟨.op 0 [] <| .op 1 [] <| .op 2 [] <| .op 3 [] <| .op 4 [] <| .op 5 [] <| .op 6 [] <| .op 7 [] <| .op 8 [2, 4] <| .op 9 [] <| .op 10 [] <| .op 11 [] <| .nil, [0, 0, 2, 0, 8, 30, 0, 64, 192, 510, 1023, 2047], false⟩
  | 8 => ⟨.op 0 [] <| .op 1 [] <| .op 2 [] <| .op 3 [] <| .op 4 [] <| .op 5 [2] <| .op 6 [] <| .op 7 [] <| .op 8 [] <| .op 9 [] <| .op 10 [] <| .op 11 [] <| .op 12 [] <| .nil, [0, 0, 2, 0, 8, 24, 62, 127, 255, 511, 511, 1023, 4095], true⟩
  | 18 => ⟨.op 0 [] <| .op 1 [] <| .op 2 [] <| .op 4 [] <| .op 5 [] <| .op 3 [5] <| .op 6 [] <| .nil, [0, 0, 0, 6, 0, 16, 63], false⟩
  | 19 => ⟨.op 0 [] <| .op 1 [] <| .op 2 [] <| .op 5 [] <| .op 6 [] <| .op 3 [6] <| .op 4 [] <| .op 7 [] <| .nil, [0, 0, 0, 6, 14, 0, 32, 127], false⟩
  | _ => ⟨.nil, [], false⟩
theorem Chg.keep {l : List (Nat × TypeId)} {h0 h h' : Heap} {A : Option Addr} (x : Chg l h0 h) (k : KeepA A h h') (hA : ∀ b, A = some ⟨b, 0, none⟩ → h0.size ≤ b) : Chg l h0 h' := by
  have e : ∀ j, j < h0.size → h'[j]? = h[j]? := fun j hj => k.old j (Nat.lt_of_lt_of_le hj x.size) fun e => by have := hA j e; omega
  exact ⟨Nat.le_trans x.size k.size, fun j hj hn => (e j hj).trans (x.old j hj hn), fun j cs T f hj hn => (e j (blk_lt hj)).trans (x.oldT j cs T f hj hn)⟩
theorem Chg.stored {l : List (Nat × TypeId)} {h0 h h' : Heap} {a : Addr} {vs : List Value} (x : Chg l h0 h) (s : Stored h a vs h') (hA : h0.size ≤ a.block) : Chg l h0 h' := by
  have e : ∀ j, j < h0.size → h'[j]? = h[j]? := fun j hj => s.other j (by omega)
  exact ⟨by rw [s.size]; exact x.size, fun j hj hn => (e j hj).trans (x.old j hj hn), fun j cs T f hj hn => (e j (blk_lt hj)).trans (x.oldT j cs T f hj hn)⟩
theorem KeepA.blkT {h h' : Heap} {A : Option Addr} {α : Type} {enc : α → List Value} {sz : Nat} {T : TypeId} {base c : Nat} {xs : List α} (k : KeepA A h h') (o : OwnA enc sz T base h A c xs) {b : Nat} {cs : Array Value} {T' : TypeId} {f : Nat × Nat} (hb : h[b]? = some (.cells cs T' f)) (ne : T' ≠ T) : h'[b]? = some (.cells cs T' f) := by
  refine k.blk hb fun e => ?_
  subst e
  obtain ⟨cs', hc⟩ := o.block
  exact blk_ne hb hc ne rfl
theorem OwnA.keepO {h h' : Heap} {A A' : Option Addr} {α β : Type} {enc : α → List Value} {enc' : β → List Value} {sz sz' : Nat} {T T' : TypeId} {base base' c c' : Nat} {xs : List α} {ys : List β} (o : OwnA enc sz T base h A c xs) (k : KeepA A' h h') (o' : OwnA enc' sz' T' base' h A' c' ys) (ne : T ≠ T' ∨ A = none ∨ A ≠ A') : OwnA enc sz T base h' A c xs := by
  rcases o with ⟨a, b, d⟩ | ⟨b, rest, rfl, hg, hb, hr, hc⟩
  · exact .inl ⟨a, b, d⟩
  · refine .inr ⟨b, rest, rfl, hg, ?_, hr, hc⟩
    rcases ne with ne | ne | ne
    · exact k.blkT o' hb ne
    · cases ne
    · exact k.blk hb fun e => ne e.symm
theorem MemAt.keepO {h h' : Heap} {A' : Option Addr} {β : Type} {enc' : β → List Value} {sz' : Nat} {T' : TypeId} {base' c' : Nat} {ys : List β} {mb cb lb : Nat} {M : MemS} (H : MemAt h mb cb lb M) (k : KeepA A' h h') (o' : OwnA enc' sz' T' base' h A' c' ys) (n1 : 205 ≠ T') (n2 : 51 ≠ T') (n3 : 3 ≠ T') : MemAt h' mb cb lb M :=
  ⟨k.blkT o' H.mem n1, H.cells.keepO k o' (.inl n2), H.locks.keepO k o' (.inl n3)⟩
theorem bs_next (b0 P S i k : Nat) : bs b0 P S (k + 1) i = bs b0 P S k i + (S + 2) := by unfold bs; rw [← Nat.add_assoc, Nat.succ_mul]; omega
theorem bs_row (b0 P S i : Nat) : bs b0 P S P i = bs b0 P S 0 (i + 1) := by unfold bs; rw [Nat.succ_mul]; rfl
def R0 (b0 P S a b : Nat) : RS := ⟨bs b0 P S b a, S, 0, 0, false, 0, 0, false⟩
def In (P i k a b : Nat) : Prop := (a < i ∧ b < P) ∨ (a = i ∧ b < k)
structure LayI (h0 h : Heap) (fb mb cb lb db : Nat) (pv : List Value) (P S b0 : Nat) (M : MemS) (RA : Option Addr) (rc : Nat) (rows : List Sl) (rb : Nat → Nat → Nat) (i k : Nat) : Prop where
  blk : h[fb]? = some (.cells (pv ++ [Value.pointer (some ⟨mb, 0, none⟩), Value.pointer (some ⟨db, 0, none⟩), Value.slice RA rows.length rc]).toArray 176 (0, 0))
  own : OwnA encSl 1 179 h0.size h RA rc rows
  len : rows.length = i
  row : ∀ j r, rows[j]? = some r → r.n = P ∧ OwnA encPtr 1 180 h0.size h r.a r.c ((List.range P).map (rb j))
  ring : ∀ a b, In P i k a b → RingAt h (rb a b) mb (R0 b0 P S a b) ∧ h0.size ≤ rb a b
  inj : ∀ a b a' b', In P i k a b → In P i k a' b' → rb a b = rb a' b' → a = a' ∧ b = b'
  mem : MemAt h mb cb lb { M with t := M.t + 2 * (i * P + k) }
  chg : Chg ((fb, 176) :: ML mb cb lb) h0 h
section
variable {h0 h h' : Heap} {fb mb cb lb db P S b0 : Nat} {pv : List Value} {M : MemS} {RA : Option Addr} {rc : Nat} {rows : List Sl} {rb : Nat → Nat → Nat} {i k : Nat}
/-- One more ring. -/
theorem LayI.more (L : LayI h0 h fb mb cb lb db pv P S b0 M RA rc rows rb i k) (hk : k < P) {x : Nat} (hx : h.size ≤ x) (R : RingAt h' x mb (R0 b0 P S i k)) (hm : MemAt h' mb cb lb { M with t := M.t + 2 * (i * P + (k + 1)) }) (c : Chg (ML mb cb lb) h h') :
    LayI h0 h' fb mb cb lb db pv P S b0 M RA rc rows (fun a b => if a = i ∧ b = k then x else rb a b) i (k + 1) := by
  have old : ∀ a b, In P i (k + 1) a b → ¬ (a = i ∧ b = k) → In P i k a b := by
    intro a b h1 h2
    rcases h1 with h1 | ⟨h1, h3⟩
    · exact .inl h1
    · exact .inr ⟨h1, by omega⟩
  have lt : ∀ a b, In P i k a b → rb a b < h.size := fun a b hi => blk_lt (L.ring a b hi).1
  refine ⟨c.blk L.blk (by first | (simp; done) | (intro p hp; simp [hp]; done) | (simp [ML]; done) | (intro p hp; simp [ML] at hp ⊢; rcases hp with h | h | h <;> simp [h]; done)), L.own.chg c (fun b _ => by first | (simp; done) | (intro p hp; simp [hp]; done) | (simp [ML]; done) | (intro p hp; simp [ML] at hp ⊢; rcases hp with h | h | h <;> simp [h]; done)), L.len, fun j r hj => ?_, fun a b hi => ?_, fun a b a' b' hi hi' e => ?_, hm, L.chg.trans (c.mono (by first | (simp; done) | (intro p hp; simp [hp]; done) | (simp [ML]; done) | (intro p hp; simp [ML] at hp ⊢; rcases hp with h | h | h <;> simp [h]; done)))⟩
  · obtain ⟨e, o⟩ := L.row j r hj
    have hji : j ≠ i := by have := (List.getElem?_eq_some_iff.1 hj).1; have := L.len; omega
    refine ⟨e, ?_⟩
    have := o.chg c (fun b _ => by first | (simp; done) | (intro p hp; simp [hp]; done) | (simp [ML]; done) | (intro p hp; simp [ML] at hp ⊢; rcases hp with h | h | h <;> simp [h]; done))
    rw [show (List.range P).map ((fun a b => if a = i ∧ b = k then x else rb a b) j) = (List.range P).map (rb j) from List.map_congr_left fun b _ => by show (if j = i ∧ b = k then x else rb j b) = rb j b; rw [if_neg (fun q => hji q.1)]]
    exact this
  · show RingAt h' (if a = i ∧ b = k then x else rb a b) mb (R0 b0 P S a b) ∧ h0.size ≤ (if a = i ∧ b = k then x else rb a b)
    by_cases q : a = i ∧ b = k
    · rw [if_pos q]
      obtain ⟨rfl, rfl⟩ := q
      exact ⟨R, Nat.le_trans L.chg.size hx⟩
    · rw [if_neg q]
      obtain ⟨r1, r2⟩ := L.ring a b (old a b hi q)
      exact ⟨c.blk r1 (by first | (simp; done) | (intro p hp; simp [hp]; done) | (simp [ML]; done) | (intro p hp; simp [ML] at hp ⊢; rcases hp with h | h | h <;> simp [h]; done)), r2⟩
  · have e : (if a = i ∧ b = k then x else rb a b) = (if a' = i ∧ b' = k then x else rb a' b') := e
    by_cases q : a = i ∧ b = k
    · by_cases q' : a' = i ∧ b' = k
      · exact ⟨q.1.trans q'.1.symm, q.2.trans q'.2.symm⟩
      · rw [if_pos q, if_neg q'] at e
        have := lt a' b' (old a' b' hi' q')
        omega
    · by_cases q' : a' = i ∧ b' = k
      · rw [if_neg q, if_pos q'] at e
        have := lt a b (old a b hi q)
        omega
      · rw [if_neg q, if_neg q'] at e
        exact L.inj a b a' b' (old a b hi q) (old a' b' hi' q') e
/-- Something else of the call's own is changed. -/
theorem LayI.keep (L : LayI h0 h fb mb cb lb db pv P S b0 M RA rc rows rb i k) {A : Option Addr} {c : Nat} {xs : List Nat} {base : Nat} (K : KeepA A h h') (o : OwnA encPtr 1 180 base h A c xs) (hA : ∀ b, A = some ⟨b, 0, none⟩ → h0.size ≤ b) (sep : A = none ∨ ∀ r ∈ rows, r.a ≠ A) :
    LayI h0 h' fb mb cb lb db pv P S b0 M RA rc rows rb i k := by
  refine ⟨K.blkT o L.blk (by decide), L.own.keepO K o (.inl (by decide)), L.len, fun j r hj => ?_, fun a b hi => ?_, L.inj, L.mem.keepO K o (by decide) (by decide) (by decide), L.chg.keep K hA⟩
  · obtain ⟨e, o'⟩ := L.row j r hj
    refine ⟨e, o'.keepO K o (.inr ?_)⟩
    rcases sep with e | sep
    · cases hr : r.a with
      | none => exact .inl rfl
      | some y => right; rw [e]; simp
    · exact .inr (sep r (List.mem_of_getElem? hj))
  · obtain ⟨r1, r2⟩ := L.ring a b hi
    exact ⟨K.blkT o r1 (by decide), r2⟩
theorem LayI.ext (L : LayI h0 h fb mb cb lb db pv P S b0 M RA rc rows rb i k) (x : Ext h h') : LayI h0 h' fb mb cb lb db pv P S b0 M RA rc rows rb i k :=
  ⟨x.blk L.blk, L.own.ext x, L.len, fun j r hj => ⟨(L.row j r hj).1, (L.row j r hj).2.ext x⟩, fun a b hi => ⟨x.blk (L.ring a b hi).1, (L.ring a b hi).2⟩, L.inj, L.mem.ext x, L.chg.trans (x.chg _)⟩
end
theorem ptrInfo : (Tryz.prog.info? 180).map (fun i => (i.size, i.bytes)) = some (1, 8) := by kernel_rfl
theorem ptrZero : xzero Tryz.prog 180 = some [.pointer none] := by kernel_rfl
theorem prsInfo : (Tryz.prog.info? 179).map (fun i => (i.size, i.bytes)) = some (1, 24) := by kernel_rfl
theorem prsZero : xzero Tryz.prog 179 = some [.slice none 0 0] := by kernel_rfl
theorem cLay_spec {h : Heap} {fb mb cb lb db P S b0 : Nat} {rv vv : Value} {s : Sz} {tries normal short : Int} {M : MemS} (hb : h[fb]? = some (.cells (planV P rv vv s tries S normal short ++ [Value.pointer (some ⟨mb, 0, none⟩), Value.pointer (some ⟨db, 0, none⟩), Value.slice none 0 0]).toArray 176 (0, 0)))
    (HM : MemAt h mb cb lb M) (p1 : 2 ≤ P) (p2 : P ≤ 64) (s1 : 1 ≤ S) (s2 : S ≤ 64) (hf : b0 + P * P * (S + 2) ≤ M.cells.length) (h4 : M.cells.length < 100000000) (ht : M.t < 10000) (hz : ∀ x, b0 ≤ x → x < M.cells.length → M.cells[x]? = some 0) :
    HCalls Tryz.prog 99 #[.pointer (some ⟨fb, 0, none⟩), .int .i64 b0] h (fun v h' => v = .int .i64 0 ∧ ∃ RA rc rows rb, LayI h h' fb mb cb lb db (planV P rv vv s tries S normal short) P S b0 M RA rc rows rb P 0) := by
  refine xcalls env_cLay Tryz.func99 rfl (by kernel_rfl) rfl (by kernel_rfl) ?_
  repeat (first | refine ⟨_, cell_blk (hb) rfl, ?_⟩)
  have hPP : P * P ≤ 64 * 64 := Nat.mul_le_mul p2 p2
  refine ⟨Nat, fun i => [(0, .pointer (some ⟨fb, 0, none⟩)), (1, .int .i64 ((bs b0 P S 0 i : Nat) : Int)), (12, .int .i64 P), (13, .int .i64 i)], fun i h' => i ≤ P ∧ ∃ RA rc rows rb, LayI h h' fb mb cb lb db (planV P rv vv s tries S normal short) P S b0 M RA rc rows rb i 0, fun i => P - i, 0, ⟨rfl, ?_, rfl, rfl, trivial⟩, ⟨Nat.zero_le _, none, 0, [], fun _ _ => 0, ?_⟩, ?_⟩
  · rw [show bs b0 P S 0 0 = b0 by simp [bs]]
    rfl
  · refine ⟨hb, .inl ⟨rfl, rfl, rfl⟩, rfl, fun j r hj => by simp at hj, fun a b hi => ?_, fun a b a' b' hi => ?_, by simpa using HM, Chg.refl _ _⟩
    · rcases hi with ⟨h1, _⟩ | ⟨_, h1⟩ <;> omega
    · rcases hi with ⟨h1, _⟩ | ⟨_, h1⟩ <;> omega
  rintro i h1 ⟨hi, RA, rc, rows, rb, L1⟩
  have hb1 := L1.blk
  refine xif_of (fun q => ?_) (fun q => ?_)
  · have q : i < P := by have := of_decide_eq_true q; omega
    repeat (first | refine ⟨_, cell_blk (hb1) rfl, ?_⟩)
    refine ⟨Nat × Option Addr × Nat, fun z => [(0, .pointer (some ⟨fb, 0, none⟩)), (1, .int .i64 ((bs b0 P S z.1 i : Nat) : Int)), (5, .slice z.2.1 z.1 z.2.2), (12, .int .i64 P), (13, .int .i64 i), (19, .int .i64 P), (20, .int .i64 z.1)],
      fun z h' => z.1 ≤ P ∧ ∃ rb, LayI h h' fb mb cb lb db (planV P rv vv s tries S normal short) P S b0 M RA rc rows rb i z.1 ∧ OwnA encPtr 1 180 h.size h' z.2.1 z.2.2 ((List.range z.1).map (rb i)) ∧ (z.2.1 = none ∨ ∀ r ∈ rows, r.a ≠ z.2.1), fun z => P - z.1, (0, none, 0), ⟨rfl, rfl, rfl, rfl, rfl, rfl, rfl, trivial⟩, ⟨Nat.zero_le _, rb, L1, .inl ⟨rfl, rfl, rfl⟩, .inl rfl⟩, ?_⟩
    rintro ⟨k, LA, lc⟩ h2 ⟨hk, rb, L2, o2, sep⟩
    simp only at hk L2 o2 sep
    have hb2 := L2.blk
    refine xif_of (fun q2 => ?_) (fun q2 => ?_)
    · have q2 : k < P := by have := of_decide_eq_true q2; omega
      have bin := bs_in (b0 := b0) (S := S) (j := i) (q := k) (o := S + 1) q q2 (by omega)
      have iP : i * P + k < P * P := by
        have : (i + 1) * P ≤ P * P := Nat.mul_le_mul_right _ q
        rw [Nat.succ_mul] at this
        omega
      repeat (first | refine ⟨_, cell_blk (hb2) rfl, ?_⟩)
      refine (rNew_spec L2.mem s1 s2 (base := bs b0 P S k i) (by show _ ≤ M.cells.length; omega) h4 (by show M.t + 2 * (i * P + k) < 900000; omega)).mono ?_
      rintro v h3 ⟨x, rfl, hx, R3, M3, c3⟩
      have gk := bs_in (b0 := b0) (S := S) (j := i) (q := k) (o := 0) q q2 (by omega)
      have zs : ∀ y, b0 ≤ y → y < M.cells.length → M.cells.set y 0 = M.cells := fun y g1 g2 => set_same (hz y g1 g2)
      have M3' : MemAt h3 mb cb lb { M with t := M.t + 2 * (i * P + (k + 1)) } := by
        have e1 : (M.cells.set (bs b0 P S k i) 0).set (bs b0 P S k i + 1) 0 = M.cells := by
          rw [zs _ (by unfold bs; omega) (by omega), zs _ (by unfold bs; omega) (by omega)]
        have := M3
        simp only [e1] at this
        rw [show M.t + 2 * (i * P + (k + 1)) = M.t + 2 * (i * P + k) + 1 + 1 by omega]
        exact this
      have L3 := L2.more q2 hx (R := R3) M3' c3
      have o3 := o2.chg c3 (fun b _ => by first | (simp; done) | (intro p hp; simp [hp]; done) | (simp [ML]; done) | (intro p hp; simp [ML] at hp ⊢; rcases hp with h | h | h <;> simp [h]; done))
      have hb3 := L3.blk
      try (refine ⟨by ((repeat (first | refine ⟨cell_blk (hb3) rfl, ?_⟩)); exact trivial), ?_⟩)
      repeat (first | refine ⟨_, cell_blk (hb3) rfl, ?_⟩)
      refine (rCells_spec s1 s2).mono ?_
      rintro v h4 ⟨rfl, rfl⟩
      intro nb h5 n5
      have L5 := L3.ext n5.ext
      have o5 := o3.ext n5.ext
      have n5' : New h4 h5 nb (.cells (encPtr x).toArray 180) := n5
      refine xappend_one' ptrInfo ptrZero rfl (by decide) encPtr_len encPtr_one o3 n5' (by simp) (by omega) (by have := L3.chg.size; omega) fun A' c' h6 o6 K6 hA6 => ?_
      have L6 := L3.keep K6 o3 o3.ge sep
      refine ⟨(k + 1, A', c'), ⟨rfl, ?_, rfl, rfl, rfl, rfl, slot_inc (by omega), trivial⟩, ⟨by show k + 1 ≤ P; omega, _, L6, ?_, ?_⟩, by show P - (k + 1) < P - k; omega⟩
      · show some (Value.int .i64 (IntKind.i64.wrap (((bs b0 P S k i : Nat) : Int) + ((S + 2 : Nat) : Int)))) = some (Value.int .i64 ((bs b0 P S (k + 1) i : Nat) : Int))
        rw [wrap_add _ _ (by omega), bs_next]
      · show OwnA encPtr 1 180 h.size h6 A' c' ((List.range (k + 1)).map fun b => if i = i ∧ b = k then x else rb i b)
        have e : ((List.range (k + 1)).map fun b => if i = i ∧ b = k then x else rb i b) = (List.range k).map (rb i) ++ [x] := by
          rw [List.range_succ, List.map_append]
          congr 1
          · refine List.map_congr_left fun b hb => ?_
            have := List.mem_range.1 hb
            rw [if_neg (by omega)]
          · simp
        rw [e]
        exact o6
      · show A' = none ∨ ∀ r ∈ rows, r.a ≠ A'
        rcases hA6 with rfl | ⟨y, rfl, hy⟩
        · exact sep
        · right
          intro r hr e
          obtain ⟨j, hj⟩ := List.getElem?_of_mem hr
          obtain ⟨_, oj⟩ := L3.row j r hj
          rw [e] at oj
          obtain ⟨cs, hc⟩ := oj.block
          have := blk_lt hc
          omega
    · have e : k = P := by have : ¬ (k : Int) < P := of_decide_eq_false q2; omega
      subst e
      repeat (first | refine ⟨_, cell_blk (hb2) rfl, ?_⟩)
      intro nb h3 n3
      have n3' : New h2 h3 nb (.cells (encSl ⟨LA, k, lc⟩).toArray 179) := n3
      refine xappend_one' prsInfo prsZero rfl (by decide) encSl_len encSl_one L2.own n3' rfl (by rw [L2.len]; omega) L2.chg.size fun A' c' h4 o4 K4 hA4 => ?_
      have hb4 := K4.blkT L2.own L2.blk (by decide)
      refine ⟨rfl, rfl, canset_blk hb4 rfl, fun h5 s5 => ?_⟩
      have c45 : Chg [(fb, 176)] h4 h5 := s5.chg hb4 (.head _)
      have hb5 : h5[fb]? = some (.cells (planV k rv vv s tries S normal short ++ [Value.pointer (some ⟨mb, 0, none⟩), Value.pointer (some ⟨db, 0, none⟩), Value.slice A' (rows.length + 1) c']).toArray 176 (0, 0)) := s5.put hb4
      refine ⟨i + 1, ⟨rfl, ?_, rfl, slot_inc (by omega), trivial⟩, ⟨by omega, A', c', rows ++ [⟨LA, k, lc⟩], rb, ?_⟩, by show k - (i + 1) < k - i; omega⟩
      · show some (Value.int .i64 ((bs b0 k S k i : Nat) : Int)) = some (Value.int .i64 ((bs b0 k S 0 (i + 1) : Nat) : Int))
        rw [bs_row]
      · refine ⟨by rw [List.length_append]; exact hb5, o4.chg c45 (fun b _ => by simp), by rw [List.length_append, L2.len]; rfl, fun j r hj => ?_, fun a b hin => ?_, fun a b a' b' hin hin' e => ?_, ?_, ?_⟩
        · rcases Nat.lt_or_ge j rows.length with hlt | hge
          · rw [List.getElem?_append_left hlt] at hj
            obtain ⟨e, o⟩ := L2.row j r hj
            exact ⟨e, (o.keepO K4 L2.own (.inl (by decide))).chg c45 (fun b _ => by simp)⟩
          · rw [List.getElem?_append_right hge] at hj
            have hj0 : j - rows.length = 0 := by
              have := (List.getElem?_eq_some_iff.1 hj).1
              simp at this
              omega
            rw [hj0] at hj
            cases hj
            have : j = i := by have := L2.len; omega
            subst this
            exact ⟨rfl, (o2.keepO K4 L2.own (.inl (by decide))).chg c45 (fun b _ => by simp)⟩
        · have hin' : In k i k a b := by
            rcases hin with ⟨g1, g2⟩ | ⟨g1, g2⟩
            · rcases Nat.lt_or_ge a i with g3 | g3
              · exact .inl ⟨g3, g2⟩
              · exact .inr ⟨by omega, g2⟩
            · omega
          obtain ⟨r1, r2⟩ := L2.ring a b hin'
          exact ⟨c45.blk (K4.blkT L2.own r1 (by decide)) (by simp), r2⟩
        · have fix : ∀ a b, In k (i + 1) 0 a b → In k i k a b := by
            intro a b hin
            rcases hin with ⟨g1, g2⟩ | ⟨g1, g2⟩
            · rcases Nat.lt_or_ge a i with g3 | g3
              · exact .inl ⟨g3, g2⟩
              · exact .inr ⟨by omega, g2⟩
            · omega
          exact L2.inj a b a' b' (fix a b hin) (fix a' b' hin') e
        · have := (L2.mem.keepO K4 L2.own (by decide) (by decide) (by decide)).chg c45 (by simp) (by simp) (by simp)
          rw [show (i + 1) * k + 0 = i * k + k by rw [Nat.succ_mul]; rfl]
          exact this
        · exact (L2.chg.keep K4 L2.own.ge).trans (c45.mono (by simp))
  · have q : ¬ (i : Int) < P := of_decide_eq_false q
    have e : i = P := by omega
    subst e
    exact ⟨rfl, RA, rc, rows, rb, L1⟩
end Go.Proofs.YtjjempefncgfhaaGreatDoorE
/- A fabric is made, of a plan that may be. Conditions: the plan may be. -/
set_option linter.unusedVariables false
set_option linter.unusedSimpArgs false
set_option maxRecDepth 100000
namespace Go.Proofs.YtjjempefncgfhaaGreatDoorE
open Go Go.Proofs
def ptrO (o : Option Nat) : Value := .pointer (o.map fun b => ⟨b, 0, none⟩)
/-- A fabric as it is made: nothing waits, no port is set. -/
structure Fresh (h0 h : Heap) (F : Fb) (M : MemS) : Prop where
  fab : FabAt h F
  mem : MemAt h F.mb F.cb F.lb M
  t : M.t ≤ 20000
  low : ∀ x, x < F.P → M.cells[x]? = some 0
  high : ∀ x, F.b0 ≤ x → x < M.cells.length → M.cells[x]? = some 0
  len : F.b0 + F.P * F.P * (F.S + 2) = M.cells.length
  b0 : F.P ≤ F.b0
  bv : F.P + 2 * F.vls.length ≤ F.b0
  big : M.cells.length < 10000000
  locks : ∀ x, x < F.P → M.locks[x]? = some (-1)
  ring : ∀ a b, a < F.P → b < F.P → RingAt h (F.rb a b) F.mb (R0 F.b0 F.P F.S a b) ∧ h0.size ≤ F.rb a b
  inj : ∀ a b a' b', a < F.P → b < F.P → a' < F.P → b' < F.P → F.rb a b = F.rb a' b' → a = a' ∧ b = b'
  g1 : h0.size ≤ F.mb
  g2 : h0.size ≤ F.cb
  g3 : h0.size ≤ F.lb
  g4 : h0.size ≤ F.fb
  ext : Ext h0 h
  pr : F.prot = []
  dbk : h[F.db]? = some (.cells [.pointer (some ⟨F.mb, 0, none⟩), .int .i64 ((F.P + 2 * F.vls.length : Nat) : Int), .int .i64 F.P, .int .i64 F.s.sh, .int .i64 F.s.bk, .int .i64 F.s.sl, .int .i64 F.tries].toArray 258 (0, 0))
  sok : F.s.Ok
  vl : ∀ i v, F.vls[i]? = some v → M.cells[F.P + 2 * i]? = some v.mem ∧ M.cells[F.P + 2 * i + 1]? = some v.unt
  mid : ∀ x, F.P + 2 * F.vls.length ≤ x → x < M.cells.length → M.cells[x]? = some 0
  bz : (F.b0 : Int) = ((F.P + 2 * F.vls.length : Nat) : Int) + szCells F.s
theorem cVlanAt_spec {h : Heap} {fb P S n : Nat} {rv vv : Value} {s : Sz} {tries normal short : Int} {rest : List Value} (hb : h[fb]? = some (.cells (planV P rv vv s tries S normal short ++ rest).toArray 176 (0, 0))) (p2 : P ≤ 64) (hn : n ≤ 1000) :
    HCalls Tryz.prog 67 #[.pointer (some ⟨fb, 0, none⟩), .int .i64 n] h (fun v h' => v = .int .i64 ((P + 2 * n : Nat) : Int) ∧ h' = h) := by
  refine xcalls env0 Tryz.func67 rfl (by kernel_rfl) rfl (by kernel_rfl) ?_
  repeat (first | refine ⟨_, cell_blk (hb) rfl, ?_⟩)
  refine ⟨congrArg (Value.int .i64) ?_, rfl⟩
  rw [wrap_i64 (x := 2 * (n : Int)) (by omega) (by omega), wrap_i64 (by omega) (by omega)]
  omega
theorem mNew_at {h : Heap} {c l : Nat} {j k : Int} (hj : j = (c : Int)) (hk : k = (l : Int)) (c1 : 1 ≤ c) (c2 : c ≤ 1048576) (l2 : l ≤ 128) : HCalls Tryz.prog 95 #[.int .i64 j, .int .i64 k] h (fun v h' => ∃ mb cb lb, v = .tuple #[.pointer (some ⟨mb, 0, none⟩), .int .i64 0] ∧ MemAt h' mb cb lb ⟨List.replicate c 0, List.replicate l (-1), 0⟩ ∧ Ext h h' ∧ h.size ≤ mb ∧ h.size ≤ cb ∧ h.size ≤ lb) := by subst hj hk; exact mNew_spec c1 c2 l2
theorem cMake_specR {h : Heap} {base base' : Nat} {A B : Option Addr} {na ca nb cb P S : Nat} {rules : List Ru} {vls : List Vl} {s : Sz} {tries normal short : Int} (hra : OwnA encRu 2 221 base h A ca rules) (hla : rules.length = na) (hrb : OwnA encVl 3 165 base' h B cb vls) (hlb : vls.length = nb) (hn : na ≤ 1000) (hn2 : nb ≤ 1000)
    (wf : ∀ v ∈ vls, SetWf v.mem ∧ SetWf v.unt) (hck : mCheckM P rules vls s tries S = 0) (o : s.Ok) (t1 : 1 ≤ tries) (t2 : tries ≤ 8) (p1 : 2 ≤ P) (p2 : P ≤ 64) (s1 : 1 ≤ S) (s2 : S ≤ 64) :
    HCalls Tryz.prog 41 #[.agg (planV P (.slice A na ca) (.slice B nb cb) s tries S normal short).toArray] h (fun v h' => ∃ F M, v = .tuple #[.pointer (some ⟨F.fb, 0, none⟩), .int .i64 0] ∧ F.P = P ∧ F.S = S ∧ F.vls = vls ∧ (F.rules = rules ∧ F.s = s ∧ F.tries = tries) ∧ Fresh h h' F M) := by
  subst hla hlb
  have hPP : P * P ≤ 64 * 64 := Nat.mul_le_mul p2 p2
  have hPS : P * P * (S + 2) ≤ 4096 * 66 := Nat.mul_le_mul hPP (by omega)
  obtain ⟨q1, q2⟩ := mul_bd (a := s.sh) (b := s.bk) (m := 8) (n := 16) (by have := o.sh1; omega) o.sh2 (by have := o.bk1; omega) o.bk2
  obtain ⟨q3, q4⟩ := mul_bd (a := s.sh * s.bk) (b := 1 + 2 * s.sl) (m := 8 * 16) (n := 17) q1 q2 (by have := o.sl1; omega) (by have := o.sl2; omega)
  obtain ⟨z, hz⟩ : ∃ z : Nat, szCells s = z := ⟨(szCells s).toNat, by unfold szCells; omega⟩
  have hz2 : z ≤ 3000 := by have : szCells s ≤ 8 * 16 * 17 := q4; omega
  obtain ⟨sh, hsh⟩ : ∃ n : Nat, s.sh = n := ⟨s.sh.toNat, by have := o.sh1; omega⟩
  have hsh2 : sh ≤ 8 := by have := o.sh2; omega
  refine xcalls env_cMake Tryz.func41 rfl (by kernel_rfl) rfl (by kernel_rfl) ?_
  obtain ⟨b0, hb0⟩ : ∃ b0 : Nat, b0 = P + 2 * vls.length + z := ⟨_, rfl⟩
  obtain ⟨c, hc⟩ : ∃ c : Nat, c = b0 + P * P * (S + 2) := ⟨_, rfl⟩
  have eb : IntKind.i64.wrap (((P + 2 * vls.length : Nat) : Int) + szCells s) = (b0 : Int) := by
    rw [hz, wrap_i64 (by omega) (by omega)]
    omega
  have ec : IntKind.i64.wrap ((b0 : Int) + IntKind.i64.wrap (IntKind.i64.wrap ((P : Int) * P) * ((S + 2 : Nat) : Int))) = (c : Int) := by
    have e1 : (P : Int) * P = ((P * P : Nat) : Int) := by push_cast; rfl
    rw [e1, wrap_i64 (x := ((P * P : Nat) : Int)) (by omega) (by omega)]
    have e2 : ((P * P : Nat) : Int) * ((S + 2 : Nat) : Int) = ((P * P * (S + 2) : Nat) : Int) := by push_cast; rfl
    rw [e2, wrap_i64 (x := ((P * P * (S + 2) : Nat) : Int)) (by omega) (by omega), wrap_i64 (by omega) (by omega)]
    omega
  intro ib h1 n1
  have hib := n1.this
  refine ⟨_, rfl, reads_all hib, ?_⟩
  refine (mCheck_spec (n1.ext.row (hra.row encRu_len)) rfl (n1.ext.row (hrb.row encVl_len)) rfl (by omega) (by omega) wf).mono ?_
  rintro v h2 ⟨rfl, x2⟩
  rw [hck]
  have hib2 := x2.blk hib
  have x02 := n1.ext.trans x2
  refine ⟨_, rfl, reads_all hib2, ?_⟩
  refine (cCopied_spec (hra.ext x02) rfl (hrb.ext x02) rfl hn hn2).mono ?_
  rintro v h3 ⟨A', c', B', d', rfl, o3, o4, x3⟩
  intro fb h4 n4
  have hib4 := n4.ext.blk (x3.blk hib2)
  have hfb4 : h4[fb]? = some (.cells (planV P (.slice A' rules.length c') (.slice B' vls.length d') s tries S normal short ++ [Value.pointer none, Value.pointer none, Value.slice none 0 0]).toArray 176 (0, 0)) := n4.this
  repeat (first | refine ⟨_, cell_blk (hib4) rfl, ?_⟩)
  refine (cVlanAt_spec hfb4 p2 hn2).mono ?_
  rintro v h5 ⟨rfl, rfl⟩
  refine ⟨[.int .i64 s.sh, .int .i64 s.bk, .int .i64 s.sl], rfl, reads_at hib4 rfl, ?_⟩
  refine (dCells_spec o).mono ?_
  rintro v h6 ⟨rfl, x6⟩
  have hib6 := x6.blk hib4
  have hfb6 := x6.blk hfb4
  refine ⟨Nat × Nat × Option Addr × Nat × Option Addr × Nat, fun z => [(1, .pointer (some ⟨z.1, 0, none⟩)), (5, .pointer (some ⟨z.2.1, 0, none⟩)), (6, .int .i64 ((P + 2 * vls.length : Nat) : Int)), (7, .int .i64 (b0 : Int)), (8, .int .i64 (c : Int))],
    fun z h' => h'[z.1]? = some (.cells (planV P (.slice A rules.length ca) (.slice B vls.length cb) s tries S normal short).toArray 128 (0, 0)) ∧ h'[z.2.1]? = some (.cells (planV P (.slice z.2.2.1 rules.length z.2.2.2.1) (.slice z.2.2.2.2.1 vls.length z.2.2.2.2.2) s tries S normal short ++ [Value.pointer none, Value.pointer none, Value.slice none 0 0]).toArray 176 (0, 0)) ∧
      OwnA encRu 2 221 h.size h' z.2.2.1 z.2.2.2.1 rules ∧ OwnA encVl 3 165 h.size h' z.2.2.2.2.1 z.2.2.2.2.2 vls ∧ h.size ≤ z.1 ∧ h.size ≤ z.2.1 ∧ Ext h h', ?_, ?_⟩
  · repeat (first | refine ⟨_, cell_blk (hib6) rfl, ?_⟩)
    refine (rCells_spec s1 s2).mono ?_
    rintro v h7 ⟨rfl, rfl⟩
    try (refine ⟨by ((repeat (first | refine ⟨cell_blk (hib6) rfl, ?_⟩)); exact trivial), ?_⟩)
    refine ⟨(ib, fb, A', c', B', d'), ⟨rfl, rfl, rfl, congrArg (fun z => some (Value.int .i64 z)) eb, ?_, trivial⟩, hib6, hfb6, ((o3.ext n4.ext).ext x6).mono x02.size, ((o4.ext n4.ext).ext x6).mono x02.size, n1.ge (Ext.refl _), n4.ge (x02.trans x3), ((x02.trans x3).trans n4.ext).trans x6⟩
    show some (Value.int .i64 (IntKind.i64.wrap (IntKind.i64.wrap (((P + 2 * vls.length : Nat) : Int) + szCells s) + IntKind.i64.wrap (IntKind.i64.wrap ((P : Int) * P) * ((S + 2 : Nat) : Int))))) = _
    rw [eb, ec]
  rintro ⟨ib, fb, A', c', B', d'⟩ h1 ⟨hib, hfb, o3, o4, gi, gf, x1⟩
  simp only at hib hfb o3 o4 gi gf
  repeat (first | refine ⟨_, cell_blk (hib) rfl, ?_⟩)
  refine ⟨[.int .i64 s.sh, .int .i64 s.bk, .int .i64 s.sl], rfl, reads_at hib rfl, ?_⟩
  refine (dLocks_spec o).mono ?_
  rintro v h2 ⟨rfl, x2⟩
  have hib2 := x2.blk hib
  have hfb2 := x2.blk hfb
  try (refine ⟨by ((repeat (first | refine ⟨cell_blk (hib2) rfl, ?_⟩)); exact trivial), ?_⟩)
  refine (mNew_at (c := c) (l := P + sh) rfl (by rw [hsh, wrap_i64 (by omega) (by omega)]; omega) (by omega) (by omega) (by omega)).mono ?_
  rintro v h3 ⟨mb, cb', lb, rfl, M3, x3, gm, gc, gl⟩
  have hib3 := x3.blk hib2
  have hfb3 := x3.blk hfb2
  refine ⟨rfl, rfl, canset_blk hfb3 rfl, fun h4 s4 => ?_⟩
  have hfb4 : h4[fb]? = some (.cells (planV P (.slice A' rules.length c') (.slice B' vls.length d') s tries S normal short ++ [Value.pointer (some ⟨mb, 0, none⟩), Value.pointer none, Value.slice none 0 0]).toArray 176 (0, 0)) := s4.put hfb3
  have c34 : Chg [(fb, 176)] h3 h4 := s4.chg hfb3 (.head _)
  have hib4 := c34.blk hib3 (by simp)
  have M4 := M3.chg c34 (by simp) (by simp) (by simp)
  repeat (first | refine ⟨_, cell_blk (hib4) rfl, ?_⟩)
  refine ⟨[.int .i64 s.sh, .int .i64 s.bk, .int .i64 s.sl], rfl, reads_at hib4 rfl, ?_⟩
  repeat (first | refine ⟨_, cell_blk (hib4) rfl, ?_⟩)
  refine (dNew_spec M4 (base := P + 2 * vls.length) (lock := P) o t1 t2 ?_ ?_ ?_ ?_).mono ?_
  · show ((P + 2 * vls.length : Nat) : Int) + szCells s ≤ ((List.replicate c (0 : Int)).length : Int)
    rw [List.length_replicate, hz]
    omega
  · show (P : Int) + s.sh ≤ ((List.replicate (P + sh) (-1 : Int)).length : Int)
    rw [List.length_replicate, hsh]
    omega
  · show (List.replicate c (0 : Int)).length < 100000000
    rw [List.length_replicate]
    omega
  · show (List.replicate (P + sh) (-1 : Int)).length < 1000
    rw [List.length_replicate]
    omega
  rintro v h5 ⟨db, rfl, gd, hdb5, x5⟩
  have hfb5 := x5.blk hfb4
  refine ⟨rfl, rfl, canset_blk hfb5 rfl, fun h6 s6 => ?_⟩
  have hfb6 : h6[fb]? = some (.cells (planV P (.slice A' rules.length c') (.slice B' vls.length d') s tries S normal short ++ [Value.pointer (some ⟨mb, 0, none⟩), Value.pointer (some ⟨db, 0, none⟩), Value.slice none 0 0]).toArray 176 (0, 0)) := s6.put hfb5
  have c56 : Chg [(fb, 176)] h5 h6 := s6.chg hfb5 (.head _)
  have hib6 := c56.blk (x5.blk hib4) (by simp)
  have M6 := (M4.ext x5).chg c56 (by simp) (by simp) (by simp)
  repeat (first | refine ⟨_, cell_blk (hib6) rfl, ?_⟩)
  have x03 : Ext h h3 := (x1.trans x2).trans x3
  have x06 : Ext h h6 := ((x03.stored s4 gf).trans x5).stored s6 gf
  have gm' : h.size ≤ mb := Nat.le_trans (x1.trans x2).size gm
  have gc' : h.size ≤ cb' := Nat.le_trans (x1.trans x2).size gc
  have gl' : h.size ≤ lb := Nat.le_trans (x1.trans x2).size gl
  have inF : ∀ p ∈ (fb, 176) :: ML mb cb' lb, h.size ≤ p.1 := by
    intro p hp
    simp [ML] at hp
    rcases hp with rfl | rfl | rfl | rfl
    · exact gf
    · exact gm'
    · exact gc'
    · exact gl'
  have o3' : OwnA encRu 2 221 h.size h6 A' c' rules := ((((o3.ext x2).ext x3).chg c34 (by simp)).ext x5).chg c56 (by simp)
  have o4' : OwnA encVl 3 165 h.size h6 B' d' vls := ((((o4.ext x2).ext x3).chg c34 (by simp)).ext x5).chg c56 (by simp)
  refine ⟨Nat, fun i => [(5, .pointer (some ⟨fb, 0, none⟩)), (7, .int .i64 (b0 : Int)), (9, .pointer (some ⟨mb, 0, none⟩)), (80, .slice B vls.length cb), (81, .int .i64 vls.length), (82, .int .i64 i)],
    fun i h' => i ≤ vls.length ∧ ∃ M, MemAt h' mb cb' lb M ∧ M.locks = List.replicate (P + sh) (-1) ∧ M.t = 2 * i ∧ M.cells.length = c ∧ (∀ x, x < P → M.cells[x]? = some 0) ∧ (∀ x, P + 2 * vls.length ≤ x → x < M.cells.length → M.cells[x]? = some 0) ∧ (∀ j v, j < i → vls[j]? = some v → M.cells[P + 2 * j]? = some v.mem ∧ M.cells[P + 2 * j + 1]? = some v.unt) ∧ Chg (ML mb cb' lb) h6 h', fun i => vls.length - i, 0,
    ⟨rfl, rfl, rfl, rfl, rfl, rfl, trivial⟩, ⟨Nat.zero_le _, _, M6, rfl, rfl, List.length_replicate .., fun x hx => ?_, fun x _ hx => ?_, fun j v hj => absurd hj (Nat.not_lt_zero _), Chg.refl _ _⟩, ?_⟩
  · show (List.replicate c (0 : Int))[x]? = some 0
    rw [List.getElem?_replicate, if_pos (by omega)]
  · show (List.replicate c (0 : Int))[x]? = some 0
    have hx : x < (List.replicate c (0 : Int)).length := hx
    rw [List.length_replicate] at hx
    rw [List.getElem?_replicate, if_pos hx]
  rintro i h7 ⟨hi, M, M7, hlk, htm, hcl, hlo, hhi, hvl, c67⟩
  have x07 : Ext h h7 := c67.ext x06 fun p hp => inF p (.tail _ hp)
  have hfb7 := c67.blk hfb6 (by first | (simp; done) | (intro p hp; simp [hp]; done) | (simp [ML]; done) | (intro p hp; simp [ML] at hp ⊢; rcases hp with h | h | h <;> simp [h]; done))
  refine xif_of (fun q => ?_) (fun q => ?_)
  · have q : (i : Int) < vls.length := of_decide_eq_true q
    have qn : i < vls.length := by omega
    obtain ⟨v, hv⟩ : ∃ v, vls[i]? = some v := ⟨vls[i], List.getElem?_eq_getElem qn⟩
    obtain ⟨a, ha, hrd⟩ := (x07.row (hrb.row encVl_len)) i v hv
    refine ⟨a, ha, Int.natCast_nonneg i, q, encVl v, rfl, hrd, ?_⟩
    intro vb h8 n8
    refine ⟨rfl, rfl, canset_blk n8.this rfl, fun h9 s9 => ?_⟩
    have hvb : h9[vb]? = some (.cells (encVl v).toArray 165 (0, 0)) := n8.fill rfl s9
    have x79 : Ext h7 h9 := n8.ext.stored s9 (n8.ge (Ext.refl _))
    have M9 := M7.ext x79
    have hfb9 := x79.blk hfb7
    repeat (first | refine ⟨_, cell_blk (hvb) rfl, ?_⟩)
    refine (cVlanAt_spec hfb9 p2 (n := i) (by omega)).mono ?_
    rintro w h10 ⟨rfl, rfl⟩
    try (refine ⟨by ((repeat (first | refine ⟨cell_blk (hvb) rfl, ?_⟩)); exact trivial), ?_⟩)
    have hMc : M.t < 10000 := by omega
    refine (mStore_at M9 (i := P + 2 * i) (x := v.mem) rfl rfl (by omega) (by omega)).mono ?_
    rintro w h11 ⟨rfl, M11, c11⟩
    have hvb11 := c11.blk hvb (by first | (simp; done) | (intro p hp; simp [hp]; done) | (simp [ML]; done) | (intro p hp; simp [ML] at hp ⊢; rcases hp with h | h | h <;> simp [h]; done))
    have hfb11 := c11.blk hfb9 (by first | (simp; done) | (intro p hp; simp [hp]; done) | (simp [ML]; done) | (intro p hp; simp [ML] at hp ⊢; rcases hp with h | h | h <;> simp [h]; done))
    repeat (first | refine ⟨_, cell_blk (hvb11) rfl, ?_⟩)
    refine (cVlanAt_spec hfb11 p2 (n := i) (by omega)).mono ?_
    rintro w h12 ⟨rfl, rfl⟩
    try (refine ⟨by ((repeat (first | refine ⟨cell_blk (hvb11) rfl, ?_⟩)); exact trivial), ?_⟩)
    refine (mStore_at M11 (i := P + 2 * i + 1) (x := v.unt) (wrap_add1 _ (by omega)) rfl ?_ ?_).mono ?_
    · show P + 2 * i + 1 < (M.cells.set (P + 2 * i) v.mem).length
      rw [List.length_set]
      omega
    · show M.t + 1 < 1000000
      omega
    rintro w h13 ⟨rfl, M13, c13⟩
    refine ⟨i + 1, ⟨rfl, rfl, rfl, rfl, rfl, slot_inc (by omega), trivial⟩, ⟨by omega, _, M13, hlk, by show M.t + 1 + 1 = 2 * (i + 1); omega, ?_, fun x hx => ?_, fun x hx1 hx2 => ?_, fun j w hj hw => ?_, ((c67.trans (x79.chg _)).trans c11).trans c13⟩, by show vls.length - (i + 1) < vls.length - i; omega⟩
    · show ((M.cells.set (P + 2 * i) v.mem).set (P + 2 * i + 1) v.unt).length = c
      rw [List.length_set, List.length_set]
      exact hcl
    · show ((M.cells.set (P + 2 * i) v.mem).set (P + 2 * i + 1) v.unt)[x]? = some 0
      rw [List.getElem?_set_ne (by omega), List.getElem?_set_ne (by omega)]
      exact hlo x hx
    · have hx2 : x < ((M.cells.set (P + 2 * i) v.mem).set (P + 2 * i + 1) v.unt).length := hx2
      rw [List.length_set, List.length_set] at hx2
      show ((M.cells.set (P + 2 * i) v.mem).set (P + 2 * i + 1) v.unt)[x]? = some 0
      rw [List.getElem?_set_ne (by omega), List.getElem?_set_ne (by omega)]
      exact hhi x hx1 hx2
    · show ((M.cells.set (P + 2 * i) v.mem).set (P + 2 * i + 1) v.unt)[P + 2 * j]? = some w.mem ∧ ((M.cells.set (P + 2 * i) v.mem).set (P + 2 * i + 1) v.unt)[P + 2 * j + 1]? = some w.unt
      by_cases e : j = i
      · subst e
        rw [hv] at hw
        cases hw
        refine ⟨?_, List.getElem?_set_self (by rw [List.length_set]; omega)⟩
        rw [List.getElem?_set_ne (by omega)]
        exact List.getElem?_set_self (by omega)
      · rw [List.getElem?_set_ne (by omega), List.getElem?_set_ne (by omega), List.getElem?_set_ne (by omega), List.getElem?_set_ne (by omega)]
        exact hvl j w (by omega) hw
  · have q : ¬ (i : Int) < vls.length := of_decide_eq_false q
    refine (cLay_spec hfb7 M7 p1 p2 s1 s2 (b0 := b0) (by omega) (by omega) (by omega) (fun x h1 h2 => hhi x (by omega) h2)).mono ?_
    rintro v h8 ⟨rfl, RA, rc, rows, rb, L⟩
    have hL : rows.length = P := L.len
    have hvl' : ∀ j w, vls[j]? = some w → M.cells[P + 2 * j]? = some w.mem ∧ M.cells[P + 2 * j + 1]? = some w.unt := fun j w hw => hvl j w (by have := (List.getElem?_eq_some_iff.1 hw).1; omega) hw
    refine ⟨⟨fb, mb, cb', lb, db, rb, P, S, b0, A', c', rules, B', d', vls, s, tries, normal, short, []⟩, _, rfl, rfl, rfl, rfl, ⟨rfl, rfl, rfl⟩, ⟨⟨⟨RA, rc, ?_, ⟨rows, L.own.base0, L.len, fun j r hj => ⟨(L.row j r hj).1, (L.row j r hj).2.base0⟩⟩⟩, ?_, ?_, p1, p2, s1, s2, hn, hn2⟩, L.mem, ?_, hlo, (fun x h1 h2 => hhi x (by have h1 : b0 ≤ x := h1; omega) h2), ?_, ?_, ?_, ?_, ?_, ?_, ?_, gm', gc', gl', gf, L.chg.ext x07 inF, rfl, L.chg.blk (c67.blk (c56.blk hdb5 (by simp)) (by first | (simp; done) | (intro p hp; simp [hp]; done) | (simp [ML]; done) | (intro p hp; simp [ML] at hp ⊢; rcases hp with h | h | h <;> simp [h]; done))) (by first | (simp; done) | (intro p hp; simp [hp]; done) | (simp [ML]; done) | (intro p hp; simp [ML] at hp ⊢; rcases hp with h | h | h <;> simp [h]; done)), o, hvl', hhi, (show (b0 : Int) = ((P + 2 * vls.length : Nat) : Int) + szCells s by rw [hz]; omega)⟩⟩
    · have := L.blk
      rw [hL] at this
      exact this
    · exact ((o3'.chg c67 (fun b _ => by first | (simp; done) | (intro p hp; simp [hp]; done) | (simp [ML]; done) | (intro p hp; simp [ML] at hp ⊢; rcases hp with h | h | h <;> simp [h]; done))).chg L.chg (fun b _ => by first | (simp; done) | (intro p hp; simp [hp]; done) | (simp [ML]; done) | (intro p hp; simp [ML] at hp ⊢; rcases hp with h | h | h <;> simp [h]; done))).base0
    · exact ((o4'.chg c67 (fun b _ => by first | (simp; done) | (intro p hp; simp [hp]; done) | (simp [ML]; done) | (intro p hp; simp [ML] at hp ⊢; rcases hp with h | h | h <;> simp [h]; done))).chg L.chg (fun b _ => by first | (simp; done) | (intro p hp; simp [hp]; done) | (simp [ML]; done) | (intro p hp; simp [ML] at hp ⊢; rcases hp with h | h | h <;> simp [h]; done))).base0
    · show M.t + 2 * (P * P + 0) ≤ 20000
      omega
    · show b0 + P * P * (S + 2) = M.cells.length
      omega
    · show P ≤ b0
      omega
    · show P + 2 * vls.length ≤ b0
      omega
    · show M.cells.length < 10000000
      omega
    · intro x hx
      have hx : x < P := hx
      show M.locks[x]? = some (-1)
      rw [hlk, List.getElem?_replicate, if_pos (by omega)]
    · intro a b ha hb
      obtain ⟨r1, r2⟩ := L.ring a b (.inl ⟨ha, hb⟩)
      exact ⟨r1, Nat.le_trans x07.size r2⟩
    · intro a b a' b' ha hb ha' hb' e
      exact L.inj a b a' b' (.inl ⟨ha, hb⟩) (.inl ⟨ha', hb'⟩) e
theorem cMake_spec {h : Heap} {base base' : Nat} {A B : Option Addr} {na ca nb cb P S : Nat} {rules : List Ru} {vls : List Vl} {s : Sz} {tries normal short : Int} (hra : OwnA encRu 2 221 base h A ca rules) (hla : rules.length = na) (hrb : OwnA encVl 3 165 base' h B cb vls) (hlb : vls.length = nb) (hn : na ≤ 1000) (hn2 : nb ≤ 1000)
    (wf : ∀ v ∈ vls, SetWf v.mem ∧ SetWf v.unt) (hck : mCheckM P rules vls s tries S = 0) (o : s.Ok) (t1 : 1 ≤ tries) (t2 : tries ≤ 8) (p1 : 2 ≤ P) (p2 : P ≤ 64) (s1 : 1 ≤ S) (s2 : S ≤ 64) :
    HCalls Tryz.prog 41 #[.agg (planV P (.slice A na ca) (.slice B nb cb) s tries S normal short).toArray] h (fun v h' => ∃ F M, v = .tuple #[.pointer (some ⟨F.fb, 0, none⟩), .int .i64 0] ∧ F.P = P ∧ F.S = S ∧ F.vls = vls ∧ Fresh h h' F M) := by
  refine (cMake_specR hra hla hrb hlb hn hn2 wf hck o t1 t2 p1 p2 s1 s2).mono ?_
  rintro v h1 ⟨F, M, e, e1, e2, e3, _, H⟩
  exact ⟨F, M, e, e1, e2, e3, H⟩
theorem Fresh.mono {h0 h1 h : Heap} {F : Fb} {M : MemS} (H : Fresh h1 h F M) (x : Ext h0 h1) : Fresh h0 h F M :=
  ⟨H.fab, H.mem, H.t, H.low, H.high, H.len, H.b0, H.bv, H.big, H.locks, fun a b ha hb => ⟨(H.ring a b ha hb).1, Nat.le_trans x.size (H.ring a b ha hb).2⟩, H.inj, Nat.le_trans x.size H.g1, Nat.le_trans x.size H.g2, Nat.le_trans x.size H.g3, Nat.le_trans x.size H.g4, x.trans H.ext, H.pr, H.dbk, H.sok, H.vl, H.mid, H.bz⟩
theorem lMake_specR {h : Heap} {A B : Option Addr} {na ca nb cb P S : Nat} {rules : List Ru} {vls : List Vl} {s : Sz} {tries normal short : Int} (hra : Row encRu 2 h A rules) (hla : rules.length = na) (hrb : Row encVl 3 h B vls) (hlb : vls.length = nb) (hn : na ≤ 1000) (hn2 : nb ≤ 1000)
    (wf : ∀ v ∈ vls, SetWf v.mem ∧ SetWf v.unt) (hck : mCheckM P rules vls s tries S = 0) (o : s.Ok) (t1 : 1 ≤ tries) (t2 : tries ≤ 8) (p1 : 2 ≤ P) (p2 : P ≤ 64) (s1 : 1 ≤ S) (s2 : S ≤ 64) :
    HCalls Tryz.prog 8 #[.agg (planV P (.slice A na ca) (.slice B nb cb) s tries S normal short).toArray] h (fun v h' => ∃ F M, v = .pointer (some ⟨F.fb, 0, none⟩) ∧ F.P = P ∧ F.S = S ∧ F.vls = vls ∧ (F.rules = rules ∧ F.s = s ∧ F.tries = tries) ∧ Fresh h h' F M) := by
  subst hla hlb
  refine xcalls env0 Tryz.func8 rfl (by kernel_rfl) rfl (by kernel_rfl) ?_
  intro ib h1 n1
  refine ⟨_, rfl, reads_all n1.this, ?_⟩
  refine (l17To_spec (n1.ext.row hra) rfl (n1.ext.row hrb) rfl (by omega) (by omega)).mono ?_
  rintro v h2 ⟨A', c', B', d', rfl, o3, o4, x2⟩
  refine (cMake_specR o3 rfl o4 rfl hn hn2 wf hck o t1 t2 p1 p2 s1 s2).mono ?_
  rintro v h3 ⟨F, M, rfl, e1, e2, e3, e4, H⟩
  refine (cMem_spec H.fab).mono ?_
  rintro v h4 ⟨rfl, rfl⟩
  refine (cFdb_spec H.fab).mono ?_
  rintro v h5 ⟨rfl, rfl⟩
  exact ⟨F, M, rfl, e1, e2, e3, e4, H.mono (n1.ext.trans x2)⟩
theorem lMake_spec {h : Heap} {A B : Option Addr} {na ca nb cb P S : Nat} {rules : List Ru} {vls : List Vl} {s : Sz} {tries normal short : Int} (hra : Row encRu 2 h A rules) (hla : rules.length = na) (hrb : Row encVl 3 h B vls) (hlb : vls.length = nb) (hn : na ≤ 1000) (hn2 : nb ≤ 1000)
    (wf : ∀ v ∈ vls, SetWf v.mem ∧ SetWf v.unt) (hck : mCheckM P rules vls s tries S = 0) (o : s.Ok) (t1 : 1 ≤ tries) (t2 : tries ≤ 8) (p1 : 2 ≤ P) (p2 : P ≤ 64) (s1 : 1 ≤ S) (s2 : S ≤ 64) :
    HCalls Tryz.prog 8 #[.agg (planV P (.slice A na ca) (.slice B nb cb) s tries S normal short).toArray] h (fun v h' => ∃ F M, v = .pointer (some ⟨F.fb, 0, none⟩) ∧ F.P = P ∧ F.S = S ∧ F.vls = vls ∧ Fresh h h' F M) := by
  refine (lMake_specR hra hla hrb hlb hn hn2 wf hck o t1 t2 p1 p2 s1 s2).mono ?_
  rintro v h1 ⟨F, M, e, e1, e2, e3, _, H⟩
  exact ⟨F, M, e, e1, e2, e3, H⟩
end Go.Proofs.YtjjempefncgfhaaGreatDoorE
