/- Cells and locks that all share. Conditions: the cells and locks that are named are there. -/
import Derived.Test.YthoikbogkhpciaaGreatDoorXM12
set_option linter.unusedVariables false
set_option linter.unusedSimpArgs false
set_option maxRecDepth 100000
namespace Go.Proofs.YthoikbogkhpciaaGreatDoorE
open Go Go.Proofs
def env_mNew : Nat → Ann
  | 3 => ⟨.op 0 [] <| .op 2 [] <| .alt (.op 1 [] <| .op 3 [] <| .op 4 [] <| .op 5 [] <| .op 6 [] <| .nil) (.op 3 [] <| .op 1 [] <| .op 4 [] <| .op 5 [] <| .op 6 [] <| .nil), [0, 1, 0, 4, 15, 31, 63], false⟩
  | 4 => ⟨.nil, [], true⟩
  | _ => ⟨.nil, [], false⟩
/-- What of the heap may change: blocks of types. -/
structure Chg (l : List (Nat × TypeId)) (h h' : Heap) : Prop where
  size : h.size ≤ h'.size
  old : ∀ k, k < h.size → (∀ p ∈ l, p.1 ≠ k) → h'[k]? = h[k]?
  oldT : ∀ k cs T f, h[k]? = some (.cells cs T f) → (k, T) ∉ l → h'[k]? = some (.cells cs T f)
section
variable {l l' : List (Nat × TypeId)} {h0 h h' h'' : Heap}
theorem Ext.chg (x : Ext h h') (l : List (Nat × TypeId)) : Chg l h h' := ⟨x.size, fun k hk _ => x.old k hk, fun k cs T f hk _ => x.blk hk⟩
theorem Chg.refl (l : List (Nat × TypeId)) (h : Heap) : Chg l h h := (Ext.refl h).chg l
theorem Chg.trans (x : Chg l h h') (y : Chg l h' h'') : Chg l h h'' :=
  ⟨Nat.le_trans x.size y.size, fun k hk hn => (y.old k (Nat.lt_of_lt_of_le hk x.size) hn).trans (x.old k hk hn), fun k cs T f hk hn => y.oldT k cs T f (x.oldT k cs T f hk hn) hn⟩
theorem Chg.mono (x : Chg l h h') (hl : ∀ p ∈ l, p ∈ l') : Chg l' h h' :=
  ⟨x.size, fun k hk hn => x.old k hk fun p hp => hn p (hl p hp), fun k cs T f hk hn => x.oldT k cs T f hk fun hm => hn (hl _ hm)⟩
theorem Chg.ext (x : Chg l h h') (e : Ext h0 h) (hl : ∀ p ∈ l, h0.size ≤ p.1) : Ext h0 h' :=
  ⟨Nat.le_trans e.size x.size, fun k hk => (x.old k (Nat.lt_of_lt_of_le hk e.size) fun p hp e' => by have := hl p hp; omega).trans (e.old k hk)⟩
theorem Chg.blk (x : Chg l h h') {k : Nat} {cs : Array Value} {T : TypeId} {f : Nat × Nat} (hk : h[k]? = some (.cells cs T f)) (hn : (k, T) ∉ l) : h'[k]? = some (.cells cs T f) := x.oldT k cs T f hk hn
theorem Stored.chg {a : Addr} {vs : List Value} {c : Array Value} {T : TypeId} {f : Nat × Nat} (s : Stored h a vs h') (hb : h[a.block]? = some (.cells c T f)) (hm : (a.block, T) ∈ l) : Chg l h h' := by
  refine ⟨Nat.le_of_eq s.size.symm, fun k hk hn => s.other k fun e => hn _ hm e.symm, fun k cs T' f' hk hn => ?_⟩
  by_cases e : k = a.block
  · subst e
    rw [hb] at hk
    injection hk with e1
    injection e1 with _ e2
    subst e2
    exact absurd hm hn
  · exact s.blk hk e
theorem OwnA.chg {α : Type} {enc : α → List Value} {sz : Nat} {T : TypeId} {base : Nat} {A : Option Addr} {c : Nat} {xs : List α} (o : OwnA enc sz T base h A c xs) (x : Chg l h h') (hn : ∀ b, A = some ⟨b, 0, none⟩ → (b, T) ∉ l) : OwnA enc sz T base h' A c xs := by
  rcases o with ⟨a, b, d⟩ | ⟨b, rest, rfl, hg, hb, hr, hc⟩
  · exact .inl ⟨a, b, d⟩
  · exact .inr ⟨b, rest, rfl, hg, x.blk hb (hn b rfl), hr, hc⟩
theorem OwnA.base0 {α : Type} {enc : α → List Value} {sz : Nat} {T : TypeId} {base : Nat} {A : Option Addr} {c : Nat} {xs : List α} (o : OwnA enc sz T base h A c xs) : OwnA enc sz T 0 h A c xs := o.mono (Nat.zero_le _)
/-- The block of a list of the call's own. -/
theorem OwnA.block {α : Type} {enc : α → List Value} {sz : Nat} {T : TypeId} {base b : Nat} {c : Nat} {xs : List α} (o : OwnA enc sz T base h (some ⟨b, 0, none⟩) c xs) : ∃ cs, h[b]? = some (.cells cs T (0, 0)) := by
  rcases o with ⟨a, _, _⟩ | ⟨b', rest, e, _, hb, _, _⟩
  · cases a
  · cases e; exact ⟨_, hb⟩
theorem blk_ne {a b : Nat} {c1 c2 : Array Value} {T1 T2 : TypeId} {f1 f2 : Nat × Nat} (h1 : h[a]? = some (.cells c1 T1 f1)) (h2 : h[b]? = some (.cells c2 T2 f2)) (ne : T1 ≠ T2) : a ≠ b := fun e => by
  subst e
  rw [h1] at h2
  injection h2 with e1
  injection e1 with _ e2
  exact ne e2
end
def encU64 (x : Int) : List Value := [.int .u64 x]
theorem encU64_len (x : Int) : (encU64 x).length = 1 := rfl
theorem encU64_one (x : Int) : (encU64 x).all Value.oneCell' = true := rfl
/-- A memory: its cells, who has its locks (-1: nobody), its time. -/
structure MemS where
  cells : List Int
  locks : List Int
  t : Nat
def encMem (cb lb : Nat) (M : MemS) : List Value := [.slice (some ⟨cb, 0, none⟩) M.cells.length M.cells.length, .slice (some ⟨lb, 0, none⟩) M.locks.length M.locks.length, .int .i64 (M.t : Int)]
structure MemAt (h : Heap) (mb cb lb : Nat) (M : MemS) : Prop where
  mem : h[mb]? = some (.cells (encMem cb lb M).toArray 134 (0, 0))
  cells : OwnA encU64 1 57 0 h (some ⟨cb, 0, none⟩) M.cells.length M.cells
  locks : OwnA encI 1 3 0 h (some ⟨lb, 0, none⟩) M.locks.length M.locks
def ML (mb cb lb : Nat) : List (Nat × TypeId) := [(mb, 134), (cb, 57), (lb, 3)]
theorem MemAt.ext {h h' : Heap} {mb cb lb : Nat} {M : MemS} (H : MemAt h mb cb lb M) (x : Ext h h') : MemAt h' mb cb lb M := ⟨x.blk H.mem, H.cells.ext x, H.locks.ext x⟩
theorem MemAt.chg {l : List (Nat × TypeId)} {h h' : Heap} {mb cb lb : Nat} {M : MemS} (H : MemAt h mb cb lb M) (x : Chg l h h') (n1 : (mb, 134) ∉ l) (n2 : (cb, 57) ∉ l) (n3 : (lb, 3) ∉ l) : MemAt h' mb cb lb M :=
  ⟨x.blk H.mem n1, H.cells.chg x fun b e => by cases e; exact n2, H.locks.chg x fun b e => by cases e; exact n3⟩
section
variable {h : Heap} {mb cb lb : Nat} {M : MemS}
theorem MemAt.lenc (H : MemAt h mb cb lb M) : ∃ cs, h[cb]? = some (.cells cs 57 (0, 0)) := H.cells.block
theorem MemAt.lenl (H : MemAt h mb cb lb M) : ∃ cs, h[lb]? = some (.cells cs 3 (0, 0)) := H.locks.block
theorem MemAt.ne1 (H : MemAt h mb cb lb M) : mb ≠ cb := by obtain ⟨_, hc⟩ := H.lenc; exact blk_ne H.mem hc (by decide)
theorem MemAt.ne2 (H : MemAt h mb cb lb M) : mb ≠ lb := by obtain ⟨_, hc⟩ := H.lenl; exact blk_ne H.mem hc (by decide)
theorem MemAt.ne3 (H : MemAt h mb cb lb M) : cb ≠ lb := by obtain ⟨_, hc⟩ := H.lenc; obtain ⟨_, hl⟩ := H.lenl; exact blk_ne hc hl (by decide)
theorem MemAt.get (H : MemAt h mb cb lb M) {i : Nat} {x : Int} (hx : M.cells[i]? = some x) : cell h (⟨cb, i, none⟩ : Addr) = some (.int .u64 x) := by
  obtain ⟨a, ha, hr⟩ := H.cells.row encU64_len i x hx
  cases ha
  have := hr.cons
  rw [add_lit] at this
  simpa using this
theorem MemAt.lockd (H : MemAt h mb cb lb M) {i : Nat} {x : Int} (hx : M.locks[i]? = some x) : cell h (⟨lb, i, none⟩ : Addr) = some (.int .i64 x) := by
  obtain ⟨a, ha, hr⟩ := H.locks.row encI_len i x hx
  cases ha
  have := hr.cons
  rw [add_lit] at this
  simpa using this
theorem MemAt.get' (H : MemAt h mb cb lb M) {i : Nat} {x : Int} (hx : M.cells[i]? = some x) : cell h ((⟨cb, 0, none⟩ : Addr).add ((i : Int).toNat * 1)) = some (.int .u64 x) := by
  rw [add_lit, Int.toNat_natCast, Nat.mul_one, Nat.zero_add]; exact H.get hx
theorem MemAt.lockd' (H : MemAt h mb cb lb M) {i : Nat} {x : Int} (hx : M.locks[i]? = some x) : cell h ((⟨lb, 0, none⟩ : Addr).add ((i : Int).toNat * 1)) = some (.int .i64 x) := by
  rw [add_lit, Int.toNat_natCast, Nat.mul_one, Nat.zero_add]; exact H.lockd hx
theorem idx_lit (b i : Nat) : (⟨b, 0, none⟩ : Addr).add ((i : Int).toNat * 1) = ⟨b, i, none⟩ := by rw [add_lit, Int.toNat_natCast, Nat.mul_one, Nat.zero_add]
/-- Time goes on. -/
theorem MemAt.tick (H : MemAt h mb cb lb M) (ht : M.t < 1000000) {h' : Heap} (s : Stored h ⟨mb, 2, none⟩ [.int .i64 (IntKind.i64.wrap ((M.t : Int) + 1))] h') :
    MemAt h' mb cb lb { M with t := M.t + 1 } ∧ Chg [(mb, 134)] h h' := by
  have c := s.chg (l := [(mb, 134)]) H.mem (by simp)
  refine ⟨⟨?_, H.cells.other s (fun b e => by cases e; exact (Ne.symm H.ne1)), H.locks.other s (fun b e => by cases e; exact (Ne.symm H.ne2))⟩, c⟩
  rw [s.put H.mem]
  rw [show IntKind.i64.wrap ((M.t : Int) + 1) = ((M.t + 1 : Nat) : Int) by rw [wrap_i64 (by omega) (by omega)]; omega]
  rfl
theorem MemAt.setc0 (H : MemAt h mb cb lb M) {i : Nat} (hi : i < M.cells.length) {x : Int} {h' : Heap} (s : Stored h ⟨cb, i, none⟩ [.int .u64 x] h') :
    MemAt h' mb cb lb { M with cells := M.cells.set i x } ∧ Chg [(cb, 57)] h h' := by
  obtain ⟨cs, hc⟩ := H.lenc
  have c := s.chg (l := [(cb, 57)]) hc (by simp)
  have s' : Stored h ⟨cb, i * 1 + 0, none⟩ [.int .u64 x] h' := by simpa using s
  have o := H.cells.put encU64_len (x' := x) rfl s' (List.getElem?_eq_getElem hi) (by simp) rfl
  refine ⟨⟨?_, ?_, H.locks.other s (fun b e => by cases e; exact Ne.symm H.ne3)⟩, c⟩
  · have := s.blk H.mem H.ne1
    rw [this]
    simp [encMem]
  · simpa using o
theorem MemAt.setl0 (H : MemAt h mb cb lb M) {i : Nat} (hi : i < M.locks.length) {x : Int} {h' : Heap} (s : Stored h ⟨lb, i, none⟩ [.int .i64 x] h') :
    MemAt h' mb cb lb { M with locks := M.locks.set i x } ∧ Chg [(lb, 3)] h h' := by
  obtain ⟨cs, hc⟩ := H.lenl
  have c := s.chg (l := [(lb, 3)]) hc (by simp)
  have s' : Stored h ⟨lb, i * 1 + 0, none⟩ [.int .i64 x] h' := by simpa using s
  have o := H.locks.put encI_len (x' := x) rfl s' (List.getElem?_eq_getElem hi) (by simp) rfl
  refine ⟨⟨?_, H.cells.other s (fun b e => by cases e; exact H.ne3), ?_⟩, c⟩
  · have := s.blk H.mem H.ne2
    rw [this]
    simp [encMem]
  · simpa using o
theorem MemAt.csetc0 (H : MemAt h mb cb lb M) {i : Nat} (hi : i < M.cells.length) : CanSet h ⟨cb, i, none⟩ 1 := by
  obtain ⟨b, e, _, hcs⟩ := H.cells.canset encU64_len (i := i) (j := 0) (n := 1) hi (by omega)
  cases e
  simpa using hcs
theorem MemAt.csetl0 (H : MemAt h mb cb lb M) {i : Nat} (hi : i < M.locks.length) : CanSet h ⟨lb, i, none⟩ 1 := by
  obtain ⟨b, e, _, hcs⟩ := H.locks.canset encI_len (i := i) (j := 0) (n := 1) hi (by omega)
  cases e
  simpa using hcs
theorem MemAt.csetc (H : MemAt h mb cb lb M) {i : Nat} (hi : i < M.cells.length) : CanSet h ((⟨cb, 0, none⟩ : Addr).add ((i : Int).toNat * 1)) 1 := by rw [idx_lit]; exact H.csetc0 hi
theorem MemAt.csetl (H : MemAt h mb cb lb M) {i : Nat} (hi : i < M.locks.length) : CanSet h ((⟨lb, 0, none⟩ : Addr).add ((i : Int).toNat * 1)) 1 := by rw [idx_lit]; exact H.csetl0 hi
theorem MemAt.setc (H : MemAt h mb cb lb M) {i : Nat} (hi : i < M.cells.length) {x : Int} {h' : Heap} (s : Stored h ((⟨cb, 0, none⟩ : Addr).add ((i : Int).toNat * 1)) [.int .u64 x] h') :
    MemAt h' mb cb lb { M with cells := M.cells.set i x } ∧ Chg [(cb, 57)] h h' := by rw [idx_lit] at s; exact H.setc0 hi s
theorem MemAt.setl (H : MemAt h mb cb lb M) {i : Nat} (hi : i < M.locks.length) {x : Int} {h' : Heap} (s : Stored h ((⟨lb, 0, none⟩ : Addr).add ((i : Int).toNat * 1)) [.int .i64 x] h') :
    MemAt h' mb cb lb { M with locks := M.locks.set i x } ∧ Chg [(lb, 3)] h h' := by rw [idx_lit] at s; exact H.setl0 hi s
theorem mCell_spec (H : MemAt h mb cb lb M) (i : Int) : HCalls Tryz.prog 66 #[.pointer (some ⟨mb, 0, none⟩), .int .i64 i] h (fun v h' => v = .bool (decide (0 ≤ i) && decide (i < M.cells.length)) ∧ h' = h) := by
  refine xcalls env0 Tryz.func66 rfl (by kernel_rfl) rfl (by kernel_rfl) ?_
  refine xif_of (fun q => ?_) (fun q => ?_)
  · have q : i ≥ 0 := of_decide_eq_true q
    refine ⟨_, cell_blk H.mem rfl, congrArg Value.bool ?_, rfl⟩
    rw [decide_eq_true (show 0 ≤ i from q), Bool.true_and]
  · have q : ¬ i ≥ 0 := of_decide_eq_false q
    refine ⟨congrArg Value.bool ?_, rfl⟩
    rw [decide_eq_false (show ¬ 0 ≤ i from q), Bool.false_and]
theorem mLock_spec (H : MemAt h mb cb lb M) (i : Int) : HCalls Tryz.prog 167 #[.pointer (some ⟨mb, 0, none⟩), .int .i64 i] h (fun v h' => v = .bool (decide (0 ≤ i) && decide (i < M.locks.length)) ∧ h' = h) := by
  refine xcalls env0 Tryz.func167 rfl (by kernel_rfl) rfl (by kernel_rfl) ?_
  refine xif_of (fun q => ?_) (fun q => ?_)
  · have q : i ≥ 0 := of_decide_eq_true q
    refine ⟨_, cell_blk H.mem rfl, congrArg Value.bool ?_, rfl⟩
    rw [decide_eq_true (show 0 ≤ i from q), Bool.true_and]
  · have q : ¬ i ≥ 0 := of_decide_eq_false q
    refine ⟨congrArg Value.bool ?_, rfl⟩
    rw [decide_eq_false (show ¬ 0 ≤ i from q), Bool.false_and]
theorem mLoad_spec (H : MemAt h mb cb lb M) {i : Nat} {x : Int} (hx : M.cells[i]? = some x) (ht : M.t < 1000000) : HCalls Tryz.prog 89 #[.pointer (some ⟨mb, 0, none⟩), .int .i64 i] h (fun v h' => v = .int .u64 x ∧ MemAt h' mb cb lb { M with t := M.t + 1 } ∧ Chg [(mb, 134)] h h') := by
  have hi : i < M.cells.length := (List.getElem?_eq_some_iff.1 hx).1
  refine xcalls env0 Tryz.func89 rfl (by kernel_rfl) rfl (by kernel_rfl) ?_
  refine (mCell_spec H i).mono ?_
  rintro v h1 ⟨rfl, rfl⟩
  have e : (!(decide (0 ≤ (i : Int)) && decide ((i : Int) < M.cells.length))) = false := by
    rw [decide_eq_true (by omega), decide_eq_true (by omega)]; rfl
  refine xif_false e ?_
  refine ⟨_, cell_blk H.mem rfl, rfl, rfl, canset_blk H.mem rfl, fun h2 s2 => ?_⟩
  obtain ⟨H2, c2⟩ := H.tick ht s2
  exact ⟨_, cell_blk H2.mem rfl, _, rfl, Int.natCast_nonneg i, Int.ofNat_lt.2 hi, _, H2.get' hx, rfl, H2, c2⟩
theorem mStore_spec (H : MemAt h mb cb lb M) {i : Nat} {x : Int} (hi : i < M.cells.length) (ht : M.t < 1000000) : HCalls Tryz.prog 46 #[.pointer (some ⟨mb, 0, none⟩), .int .i64 i, .int .u64 x] h (fun v h' => v = .tuple #[] ∧ MemAt h' mb cb lb { M with cells := M.cells.set i x, t := M.t + 1 } ∧ Chg (ML mb cb lb) h h') := by
  refine xcalls env0 Tryz.func46 rfl (by kernel_rfl) rfl (by kernel_rfl) ?_
  refine (mCell_spec H i).mono ?_
  rintro v h1 ⟨rfl, rfl⟩
  have e : (decide (0 ≤ (i : Int)) && decide ((i : Int) < M.cells.length)) = true := by
    rw [decide_eq_true (by omega), decide_eq_true (by omega)]; rfl
  refine xif_true e ?_
  refine ⟨_, cell_blk H.mem rfl, rfl, rfl, canset_blk H.mem rfl, fun h2 s2 => ?_⟩
  obtain ⟨H2, c2⟩ := H.tick ht s2
  refine ⟨_, cell_blk H2.mem rfl, _, rfl, Int.natCast_nonneg i, Int.ofNat_lt.2 hi, rfl, rfl, H2.csetc hi, fun h3 s3 => ?_⟩
  obtain ⟨H3, c3⟩ := H2.setc hi s3
  exact ⟨rfl, H3, (c2.mono (by first | (simp; done) | (intro p hp; simp [hp]; done) | (simp [ML]; done) | (intro p hp; simp [ML] at hp ⊢; rcases hp with h | h | h <;> simp [h]; done))).trans (c3.mono (by first | (simp; done) | (intro p hp; simp [hp]; done) | (simp [ML]; done) | (intro p hp; simp [ML] at hp ⊢; rcases hp with h | h | h <;> simp [h]; done)))⟩
theorem mPass_spec (H : MemAt h mb cb lb M) {i : Nat} {a b : Int} (hx : M.locks[i]? = some a) (ht : M.t < 1000000) : HCalls Tryz.prog 168 #[.pointer (some ⟨mb, 0, none⟩), .int .i64 i, .int .i64 a, .int .i64 b] h (fun v h' => v = .bool true ∧ MemAt h' mb cb lb { M with locks := M.locks.set i b, t := M.t + 1 } ∧ Chg (ML mb cb lb) h h') := by
  refine xcalls env0 Tryz.func168 rfl (by kernel_rfl) rfl (by kernel_rfl) ?_
  have hi : i < M.locks.length := (List.getElem?_eq_some_iff.1 hx).1
  refine ⟨_, cell_blk H.mem rfl, rfl, rfl, canset_blk H.mem rfl, fun h2 s2 => ?_⟩
  obtain ⟨H2, c2⟩ := H.tick ht s2
  refine ⟨_, cell_blk H2.mem rfl, _, rfl, Int.natCast_nonneg i, Int.ofNat_lt.2 hi, _, H2.lockd' hx, ?_⟩
  refine xif_false (by simp) ?_
  refine ⟨_, cell_blk H2.mem rfl, _, rfl, Int.natCast_nonneg i, Int.ofNat_lt.2 hi, rfl, rfl, H2.csetl hi, fun h3 s3 => ?_⟩
  obtain ⟨H3, c3⟩ := H2.setl hi s3
  exact ⟨rfl, H3, (c2.mono (by first | (simp; done) | (intro p hp; simp [hp]; done) | (simp [ML]; done) | (intro p hp; simp [ML] at hp ⊢; rcases hp with h | h | h <;> simp [h]; done))).trans (c3.mono (by first | (simp; done) | (intro p hp; simp [hp]; done) | (simp [ML]; done) | (intro p hp; simp [ML] at hp ⊢; rcases hp with h | h | h <;> simp [h]; done)))⟩
theorem mTake_spec (H : MemAt h mb cb lb M) {i : Nat} {who : Int} (hx : M.locks[i]? = some (-1)) (hw : 0 ≤ who) (ht : M.t < 1000000) : HCalls Tryz.prog 160 #[.pointer (some ⟨mb, 0, none⟩), .int .i64 i, .int .i64 who] h (fun v h' => v = .bool true ∧ MemAt h' mb cb lb { M with locks := M.locks.set i who, t := M.t + 1 } ∧ Chg (ML mb cb lb) h h') := by
  refine xcalls env0 Tryz.func160 rfl (by kernel_rfl) rfl (by kernel_rfl) ?_
  have hi : i < M.locks.length := (List.getElem?_eq_some_iff.1 hx).1
  refine (mLock_spec H i).mono ?_
  rintro v h1 ⟨rfl, rfl⟩
  have e : (decide (0 ≤ (i : Int)) && decide ((i : Int) < M.locks.length)) = true := by
    rw [decide_eq_true (by omega), decide_eq_true (by omega)]; rfl
  refine xif_true e ?_
  refine xif_true (decide_eq_true ?_) ?_
  · exact hw
  refine (mPass_spec H hx ht).mono ?_
  rintro v h2 ⟨rfl, r⟩
  exact ⟨rfl, r⟩
theorem mFree_spec (H : MemAt h mb cb lb M) {i : Nat} {who : Int} (hx : M.locks[i]? = some who) (hw : 0 ≤ who) (ht : M.t < 1000000) : HCalls Tryz.prog 170 #[.pointer (some ⟨mb, 0, none⟩), .int .i64 i, .int .i64 who] h (fun v h' => v = .bool true ∧ MemAt h' mb cb lb { M with locks := M.locks.set i (-1), t := M.t + 1 } ∧ Chg (ML mb cb lb) h h') := by
  refine xcalls env0 Tryz.func170 rfl (by kernel_rfl) rfl (by kernel_rfl) ?_
  have hi : i < M.locks.length := (List.getElem?_eq_some_iff.1 hx).1
  refine (mLock_spec H i).mono ?_
  rintro v h1 ⟨rfl, rfl⟩
  have e : (decide (0 ≤ (i : Int)) && decide ((i : Int) < M.locks.length)) = true := by
    rw [decide_eq_true (by omega), decide_eq_true (by omega)]; rfl
  refine xif_true e ?_
  refine xif_true (decide_eq_true ?_) ?_
  · exact hw
  refine (mPass_spec H hx ht).mono ?_
  rintro v h2 ⟨rfl, r⟩
  exact ⟨rfl, r⟩
theorem mTime_spec (H : MemAt h mb cb lb M) : HCalls Tryz.prog 80 #[.pointer (some ⟨mb, 0, none⟩)] h (fun v h' => v = .int .i64 M.t ∧ h' = h) := by
  refine xcalls env0 Tryz.func80 rfl (by kernel_rfl) rfl (by kernel_rfl) ?_
  exact ⟨_, cell_blk H.mem rfl, rfl, rfl⟩
theorem mCells_spec (H : MemAt h mb cb lb M) : HCalls Tryz.prog 64 #[.pointer (some ⟨mb, 0, none⟩)] h (fun v h' => v = .int .i64 M.cells.length ∧ h' = h) := by
  refine xcalls env0 Tryz.func64 rfl (by kernel_rfl) rfl (by kernel_rfl) ?_
  exact ⟨_, cell_blk H.mem rfl, rfl, rfl⟩
theorem mLocks_spec (H : MemAt h mb cb lb M) : HCalls Tryz.prog 65 #[.pointer (some ⟨mb, 0, none⟩)] h (fun v h' => v = .int .i64 M.locks.length ∧ h' = h) := by
  refine xcalls env0 Tryz.func65 rfl (by kernel_rfl) rfl (by kernel_rfl) ?_
  exact ⟨_, cell_blk H.mem rfl, rfl, rfl⟩
theorem mLoad_at (H : MemAt h mb cb lb M) {i : Nat} {j x : Int} (hj : j = (i : Int)) (hx : M.cells[i]? = some x) (ht : M.t < 1000000) : HCalls Tryz.prog 89 #[.pointer (some ⟨mb, 0, none⟩), .int .i64 j] h (fun v h' => v = .int .u64 x ∧ MemAt h' mb cb lb { M with t := M.t + 1 } ∧ Chg [(mb, 134)] h h') := by subst hj; exact mLoad_spec H hx ht
theorem mStore_at (H : MemAt h mb cb lb M) {i : Nat} {j x y : Int} (hj : j = (i : Int)) (hy : y = x) (hi : i < M.cells.length) (ht : M.t < 1000000) : HCalls Tryz.prog 46 #[.pointer (some ⟨mb, 0, none⟩), .int .i64 j, .int .u64 y] h (fun v h' => v = .tuple #[] ∧ MemAt h' mb cb lb { M with cells := M.cells.set i x, t := M.t + 1 } ∧ Chg (ML mb cb lb) h h') := by subst hj hy; exact mStore_spec H hi ht
end
theorem locks_set {l i : Nat} (hi : i < l) : (List.replicate i (-1 : Int) ++ List.replicate (l - i) 0).set i (-1) = List.replicate (i + 1) (-1) ++ List.replicate (l - (i + 1)) 0 := by
  rw [List.set_append_right _ _ (by simp), List.length_replicate, Nat.sub_self, show l - i = (l - (i + 1)) + 1 by omega, List.replicate_succ, List.set_cons_zero, List.replicate_succ', List.append_assoc]
  rfl
theorem mNew_spec {h : Heap} {c l : Nat} (c1 : 1 ≤ c) (c2 : c ≤ 1048576) (l2 : l ≤ 128) : HCalls Tryz.prog 43 #[.int .i64 c, .int .i64 l] h (fun v h' => ∃ mb cb lb, v = .tuple #[.pointer (some ⟨mb, 0, none⟩), .int .i64 0] ∧ MemAt h' mb cb lb ⟨List.replicate c 0, List.replicate l (-1), 0⟩ ∧ Ext h h' ∧ h.size ≤ mb ∧ h.size ≤ cb ∧ h.size ≤ lb) := by
  refine xcalls env_mNew Tryz.func43 rfl (by kernel_rfl) rfl (by kernel_rfl) ?_
  refine xif_false (decide_eq_false ?_) ?_
  · show ¬ (c : Int) < 1
    omega
  refine xif_false (decide_eq_false ?_) ?_
  · show ¬ (c : Int) > 1048576
    omega
  refine xif_false (decide_eq_false ?_) ?_
  · show ¬ (l : Int) > 128
    omega
  refine ⟨Nat × Nat × Nat, fun z => [(6, .pointer (some ⟨z.1, 0, none⟩))], fun z h' => MemAt h' z.1 z.2.1 z.2.2 ⟨List.replicate c 0, List.replicate l 0, 0⟩ ∧ Ext h h' ∧ h.size ≤ z.1 ∧ h.size ≤ z.2.1 ∧ h.size ≤ z.2.2, ?_, ?_⟩
  · have a1 : (0 : Int) ≤ c := Int.natCast_nonneg c
    have a2 : ((8 : Nat) : Int) * c ≤ 140737488355328 := by omega
    have a3 : (c : Int) ≤ 9223372036854775807 := by omega
    have b1 : (0 : Int) ≤ l := Int.natCast_nonneg l
    have b2 : ((8 : Nat) : Int) * l ≤ 140737488355328 := by omega
    have b3 : (l : Int) ≤ 9223372036854775807 := by omega
    have key : ∀ (hc hl h3 : Heap) (mb cb lb : Nat) , Ext h hc → Ext h hl → OwnA encU64 1 57 h.size hc (some ⟨cb, 0, none⟩) c (List.replicate c 0) → OwnA encI 1 3 h.size hl (some ⟨lb, 0, none⟩) l (List.replicate l 0) → ∀ hm, Ext hc hm → Ext hl hm → New hm h3 mb (.cells [.slice (some ⟨cb, 0, none⟩) c c, .slice (some ⟨lb, 0, none⟩) l l, .int .i64 0].toArray 134) → 
        MemAt h3 mb cb lb ⟨List.replicate c 0, List.replicate l 0, 0⟩ ∧ Ext h h3 ∧ h.size ≤ mb ∧ h.size ≤ cb ∧ h.size ≤ lb := by
      intro hc hl h3 mb cb lb xc xl oc ol hm yc yl n3
      refine ⟨⟨?_, ?_, ?_⟩, (xc.trans yc).trans n3.ext, n3.ge (xc.trans yc), oc.ge _ rfl, ol.ge _ rfl⟩
      · rw [n3.this]
        simp [encMem]
      · simpa using (oc.ext (yc.trans n3.ext)).base0
      · simpa using (ol.ext (yl.trans n3.ext)).base0
    refine ⟨?_, ?_⟩
    · refine ⟨a1, Int.le_refl _, a2, a3, ?_⟩
      intro cb h1 m1
      refine ⟨b1, Int.le_refl _, b2, b3, ?_⟩
      intro lb h2 m2
      intro mb h3 n3
      rw [Int.toNat_natCast] at m1 m2
      rw [show (c : Int).toNat = c from Int.toNat_natCast c, show (l : Int).toNat = l from Int.toNat_natCast l] at n3
      exact ⟨(mb, cb, lb), ⟨rfl, trivial⟩, key h1 h2 h3 mb cb lb m1.ext (m1.ext.trans m2.ext) (OwnA.made (z := (0 : Int)) c m1 rfl (Nat.le_refl _)) (OwnA.made (z := (0 : Int)) l m2 rfl m1.ext.size) h2 m2.ext (Ext.refl _) n3⟩
    · refine ⟨b1, Int.le_refl _, b2, b3, ?_⟩
      intro lb h1 m1
      refine ⟨a1, Int.le_refl _, a2, a3, ?_⟩
      intro cb h2 m2
      intro mb h3 n3
      rw [Int.toNat_natCast] at m1 m2
      rw [show (c : Int).toNat = c from Int.toNat_natCast c, show (l : Int).toNat = l from Int.toNat_natCast l] at n3
      exact ⟨(mb, cb, lb), ⟨rfl, trivial⟩, key h2 h1 h3 mb cb lb (m1.ext.trans m2.ext) m1.ext (OwnA.made (z := (0 : Int)) c m2 rfl m1.ext.size) (OwnA.made (z := (0 : Int)) l m1 rfl (Nat.le_refl _)) h2 (Ext.refl _) m2.ext n3⟩
  rintro ⟨mb, cb, lb⟩ h3 ⟨M3, x3, g1, g2, g3⟩
  simp only at M3 g1 g2 g3
  refine ⟨_, cell_blk M3.mem rfl, ?_⟩
  refine ⟨Nat, fun i => [(6, .pointer (some ⟨mb, 0, none⟩)), (32, .int .i64 l), (33, .int .i64 i)], fun i h' => i ≤ l ∧ MemAt h' mb cb lb ⟨List.replicate c 0, List.replicate i (-1) ++ List.replicate (l - i) 0, 0⟩ ∧ Ext h h', fun i => l - i, 0, ⟨rfl, ?_, rfl, trivial⟩, ⟨Nat.zero_le _, by simpa using M3, x3⟩, ?_⟩
  · show some (Value.int .i64 ((List.replicate l (0 : Int)).length : Int)) = _
    rw [List.length_replicate]
  rintro i h4 ⟨hi, M4, x4⟩
  refine xif_of (fun hlt => ?_) (fun hge => ?_)
  · have hlt : i < l := by have := of_decide_eq_true hlt; omega
    have hl4 : i < (List.replicate i (-1 : Int) ++ List.replicate (l - i) 0).length := by simp; omega
    refine ⟨_, cell_blk M4.mem rfl, _, rfl, Int.natCast_nonneg i, Int.ofNat_lt.2 hl4, rfl, rfl, M4.csetl hl4, fun h5 s5 => ?_⟩
    obtain ⟨M5, c5⟩ := M4.setl hl4 s5
    refine ⟨i + 1, ⟨rfl, rfl, slot_inc (by omega), trivial⟩, ⟨by omega, ?_, c5.ext x4 ?_⟩, by show l - (i + 1) < l - i; omega⟩
    · simp only [locks_set hlt] at M5
      exact M5
    · intro p hp
      simp at hp
      subst hp
      exact g3
  · have hge : ¬ (i : Int) < l := of_decide_eq_false hge
    have e : i = l := by omega
    subst e
    rw [Nat.sub_self, List.replicate_zero, List.append_nil] at M4
    exact ⟨mb, cb, lb, rfl, M4, x4, g1, g2, g3⟩
end Go.Proofs.YthoikbogkhpciaaGreatDoorE
