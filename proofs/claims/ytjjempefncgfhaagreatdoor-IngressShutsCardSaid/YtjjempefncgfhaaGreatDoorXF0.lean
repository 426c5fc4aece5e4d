/- Cells and locks that all share. Conditions: the cells and locks that are named are there. -/
import Derived.Test.YtjjempefncgfhaaGreatDoorXM12
set_option linter.unusedVariables false
set_option linter.unusedSimpArgs false
set_option maxRecDepth 100000
namespace Go.Proofs.YtjjempefncgfhaaGreatDoorE
open Go Go.Proofs
def env_gRoom : Nat → Ann
  | 1 => ⟨.op 0 [] <| .op 1 [] <| .op 2 [] <| .op 3 [] <| .op 4 [] <| .op 5 [] <| .op 6 [] <| .op 7 [] <| .op 8 [] <| .op 9 [] <| .op 10 [] <| .op 11 [] <| .op 12 [] <| .op 13 [] <| .op 14 [] <| .op 15 [] <| .op 16 [] <| .op 17 [] <| .op 18 [] <| .op 19 [] <| .op 20 [] <| .op 21 [] <| .op 24 [] <| .op 25 [] <| .op 26 [] <| .op 27 [] <| .op 28 [] <| .op 29 [] <| .op 30 [] <| .op 31 [] <| .op 22 [3, 6, 27, 30] <| .op 23 [] <| .op 32 [] <| .nil, [0, 1, 3, 7, 15, 31, 63, 0, 128, 384, 896, 1920, 3968, 8064, 0, 16384, 49152, 114688, 245760, 507904, 1032192, 2080768, 4194176, 8388607, 0, 16777216, 50331648, 117440512, 251658240, 520093696, 1056964608, 2130706432, 4294967295], false⟩
  | _ => ⟨.nil, [], false⟩
def env_rLay : Nat → Ann
  | 1 => ⟨.op 0 [] <| .op 1 [] <| .op 2 [] <| .op 3 [] <| .op 4 [] <| .op 5 [] <| .op 6 [] <| .op 7 [] <| .op 8 [] <| .op 9 [] <| .op 10 [] <| .op 11 [] <| .op 12 [] <| .op 13 [] <| .op 14 [] <| .op 15 [] <| .op 16 [] <| .op 17 [] <| .op 18 [] <| .op 19 [] <| .op 20 [] <| .op 21 [] <| .op 22 [] <| .op 23 [] <| .op 24 [] <| .op 25 [] <| .op 26 [] <| .op 27 [] <| .nil, [0, 1, 3, 7, 15, 31, 63, 0, 128, 384, 896, 1920, 3968, 8064, 16256, 0, 32768, 98304, 229376, 491520, 1015808, 2064384, 4194176, 0, 8388608, 25165824, 58720256, 134217727], false⟩
  | _ => ⟨.nil, [], false⟩
def env_rTell : Nat → Ann
  | 1 => ⟨.op 0 [] <| .op 1 [] <| .op 2 [] <| .op 3 [] <| .op 4 [] <| .op 5 [] <| .op 6 [] <| .op 7 [] <| .op 8 [] <| .op 9 [] <| .op 10 [] <| .op 11 [] <| .nil, [0, 1, 3, 7, 0, 16, 48, 112, 240, 496, 1008, 2047], false⟩
  | 2 => ⟨.op 0 [] <| .op 1 [] <| .op 2 [] <| .op 3 [] <| .op 4 [] <| .op 5 [] <| .op 6 [] <| .op 7 [] <| .op 8 [] <| .op 9 [] <| .op 10 [] <| .op 11 [] <| .op 12 [] <| .op 13 [] <| .op 14 [] <| .op 15 [] <| .op 16 [] <| .op 17 [] <| .op 18 [] <| .op 19 [] <| .op 20 [] <| .op 21 [] <| .op 22 [] <| .nil, [0, 1, 3, 7, 15, 31, 63, 0, 128, 384, 896, 1920, 3968, 8064, 16256, 0, 32768, 98304, 229376, 491520, 1015808, 2064384, 4194303], false⟩
  | _ => ⟨.nil, [], false⟩
def env_rSome : Nat → Ann
  | 1 => ⟨.op 0 [] <| .op 1 [] <| .op 2 [] <| .op 3 [] <| .op 4 [] <| .op 5 [] <| .op 6 [] <| .op 7 [] <| .op 8 [] <| .op 9 [] <| .op 10 [] <| .op 11 [] <| .op 12 [] <| .op 13 [] <| .op 14 [] <| .op 16 [] <| .op 17 [] <| .op 18 [] <| .op 19 [] <| .op 20 [] <| .op 21 [] <| .op 22 [] <| .op 15 [19, 22] <| .op 23 [] <| .nil, [0, 1, 3, 7, 15, 31, 63, 0, 128, 384, 896, 1920, 3968, 8064, 16256, 32767, 0, 65536, 196608, 458752, 983040, 2031616, 4128768, 8388607], false⟩
  | _ => ⟨.nil, [], false⟩
def env_rGet : Nat → Ann
  | 1 => ⟨.op 0 [] <| .op 1 [] <| .op 2 [] <| .op 3 [] <| .op 4 [] <| .op 5 [] <| .op 6 [] <| .op 7 [] <| .op 8 [] <| .op 9 [] <| .op 10 [] <| .op 11 [] <| .op 12 [] <| .op 13 [] <| .op 14 [] <| .op 15 [] <| .op 16 [] <| .op 17 [] <| .op 18 [] <| .op 19 [] <| .op 20 [] <| .op 21 [] <| .op 22 [] <| .op 23 [] <| .op 24 [] <| .op 25 [] <| .op 26 [] <| .op 27 [] <| .nil, [0, 0, 2, 6, 14, 30, 62, 126, 0, 256, 768, 1792, 3840, 7936, 16128, 32512, 0, 65536, 196608, 458752, 983040, 2031616, 4128768, 8388352, 16777214, 33554431, 67108863, 134217727], false⟩
  | _ => ⟨.nil, [], false⟩
def env_rLeave : Nat → Ann
  | 1 => ⟨.op 0 [] <| .op 1 [] <| .op 2 [] <| .op 3 [] <| .op 4 [] <| .op 5 [] <| .op 6 [] <| .op 7 [] <| .op 8 [] <| .op 9 [] <| .op 10 [] <| .op 11 [] <| .nil, [0, 1, 3, 7, 0, 16, 48, 112, 240, 496, 1008, 2047], false⟩
  | 2 => ⟨.op 0 [] <| .op 1 [] <| .op 2 [] <| .op 3 [] <| .op 4 [] <| .op 5 [] <| .op 6 [] <| .op 7 [] <| .op 8 [] <| .op 9 [] <| .op 10 [] <| .op 11 [] <| .op 12 [] <| .op 13 [] <| .op 14 [] <| .op 15 [] <| .op 16 [] <| .op 17 [] <| .op 18 [] <| .op 19 [] <| .op 20 [] <| .op 21 [] <| .op 22 [] <| .nil, [0, 1, 3, 7, 15, 31, 63, 0, 128, 384, 896, 1920, 3968, 8064, 16256, 0, 32768, 98304, 229376, 491520, 1015808, 2064384, 4194303], false⟩
  | _ => ⟨.nil, [], false⟩
def env_rLen : Nat → Ann
  | 3 => ⟨.op 0 [] <| .op 1 [] <| .op 2 [] <| .op 3 [] <| .op 4 [] <| .op 5 [] <| .op 6 [] <| .op 7 [] <| .op 8 [] <| .op 10 [] <| .op 11 [] <| .op 12 [] <| .op 13 [] <| .op 14 [] <| .op 15 [] <| .op 16 [] <| .op 17 [] <| .op 18 [] <| .op 9 [13, 17] <| .op 19 [] <| .op 20 [] <| .op 21 [] <| .op 22 [] <| .nil, [0, 1, 3, 7, 0, 16, 48, 112, 240, 511, 0, 1024, 3072, 7168, 0, 16384, 49152, 114688, 245760, 524287, 1048575, 2097151, 4194303], false⟩
  | _ => ⟨.nil, [], false⟩
def env_mNew : Nat → Ann
  | 3 => ⟨.op 0 [] <| .op 2 [] <| .alt (.op 1 [] <| .op 3 [] <| .op 4 [] <| .op 5 [] <| .op 6 [] <| .nil) (.op 3 [] <| .op 1 [] <| .op 4 [] <| .op 5 [] <| .op 6 [] <| .nil), [0, 1, 0, 4, 15, 31, 63], false⟩
  | 4 => ⟨.nil, [], true⟩
  | _ => ⟨.nil, [], false⟩
/-- What of the heap may change: blocks of types. -/
structure Chg (l : List (Nat × TypeId)) (h h' : Heap) : Prop where
  size : h.size ≤ h'.size
  old : ∀ k, k < h.size → (∀ p ∈ l, p.1 ≠ k) → h'[k]? = h[k]?
  oldT : ∀ k cs T f, h[k]? = some (.cells cs T f) → (k, T) ∉ l → h'[k]? = some (.cells cs T f)
section
variable {l l' : List (Nat × TypeId)} {h0 h h' h'' : Heap}
theorem Ext.chg (x : Ext h h') (l : List (Nat × TypeId)) : Chg l h h' := ⟨x.size, fun k hk _ => x.old k hk, fun k cs T f hk _ => x.blk hk⟩
theorem Chg.refl (l : List (Nat × TypeId)) (h : Heap) : Chg l h h := (Ext.refl h).chg l
theorem Chg.trans (x : Chg l h h') (y : Chg l h' h'') : Chg l h h'' :=
  ⟨Nat.le_trans x.size y.size, fun k hk hn => (y.old k (Nat.lt_of_lt_of_le hk x.size) hn).trans (x.old k hk hn), fun k cs T f hk hn => y.oldT k cs T f (x.oldT k cs T f hk hn) hn⟩
theorem Chg.mono (x : Chg l h h') (hl : ∀ p ∈ l, p ∈ l') : Chg l' h h' :=
  ⟨x.size, fun k hk hn => x.old k hk fun p hp => hn p (hl p hp), fun k cs T f hk hn => x.oldT k cs T f hk fun hm => hn (hl _ hm)⟩
theorem Chg.ext (x : Chg l h h') (e : Ext h0 h) (hl : ∀ p ∈ l, h0.size ≤ p.1) : Ext h0 h' :=
  ⟨Nat.le_trans e.size x.size, fun k hk => (x.old k (Nat.lt_of_lt_of_le hk e.size) fun p hp e' => by have := hl p hp; omega).trans (e.old k hk)⟩
theorem Chg.blk (x : Chg l h h') {k : Nat} {cs : Array Value} {T : TypeId} {f : Nat × Nat} (hk : h[k]? = some (.cells cs T f)) (hn : (k, T) ∉ l) : h'[k]? = some (.cells cs T f) := x.oldT k cs T f hk hn
theorem Stored.chg {a : Addr} {vs : List Value} {c : Array Value} {T : TypeId} {f : Nat × Nat} (s : Stored h a vs h') (hb : h[a.block]? = some (.cells c T f)) (hm : (a.block, T) ∈ l) : Chg l h h' := by
  refine ⟨Nat.le_of_eq s.size.symm, fun k hk hn => s.other k fun e => hn _ hm e.symm, fun k cs T' f' hk hn => ?_⟩
  by_cases e : k = a.block
  · subst e
    rw [hb] at hk
    injection hk with e1
    injection e1 with _ e2
    subst e2
    exact absurd hm hn
  · exact s.blk hk e
theorem OwnA.chg {α : Type} {enc : α → List Value} {sz : Nat} {T : TypeId} {base : Nat} {A : Option Addr} {c : Nat} {xs : List α} (o : OwnA enc sz T base h A c xs) (x : Chg l h h') (hn : ∀ b, A = some ⟨b, 0, none⟩ → (b, T) ∉ l) : OwnA enc sz T base h' A c xs := by
  rcases o with ⟨a, b, d⟩ | ⟨b, rest, rfl, hg, hb, hr, hc⟩
  · exact .inl ⟨a, b, d⟩
  · exact .inr ⟨b, rest, rfl, hg, x.blk hb (hn b rfl), hr, hc⟩
theorem OwnA.base0 {α : Type} {enc : α → List Value} {sz : Nat} {T : TypeId} {base : Nat} {A : Option Addr} {c : Nat} {xs : List α} (o : OwnA enc sz T base h A c xs) : OwnA enc sz T 0 h A c xs := o.mono (Nat.zero_le _)
/-- The block of a list of the call's own. -/
theorem OwnA.block {α : Type} {enc : α → List Value} {sz : Nat} {T : TypeId} {base b : Nat} {c : Nat} {xs : List α} (o : OwnA enc sz T base h (some ⟨b, 0, none⟩) c xs) : ∃ cs, h[b]? = some (.cells cs T (0, 0)) := by
  rcases o with ⟨a, _, _⟩ | ⟨b', rest, e, _, hb, _, _⟩
  · cases a
  · cases e; exact ⟨_, hb⟩
theorem blk_ne {a b : Nat} {c1 c2 : Array Value} {T1 T2 : TypeId} {f1 f2 : Nat × Nat} (h1 : h[a]? = some (.cells c1 T1 f1)) (h2 : h[b]? = some (.cells c2 T2 f2)) (ne : T1 ≠ T2) : a ≠ b := fun e => by
  subst e
  rw [h1] at h2
  injection h2 with e1
  injection e1 with _ e2
  exact ne e2
end
def encU64 (x : Int) : List Value := [.int .u64 x]
theorem encU64_len (x : Int) : (encU64 x).length = 1 := rfl
theorem encU64_one (x : Int) : (encU64 x).all Value.oneCell' = true := rfl
/-- A memory: its cells, who has its locks (-1: nobody), its time. -/
structure MemS where
  cells : List Int
  locks : List Int
  t : Nat
def encMem (cb lb : Nat) (M : MemS) : List Value := [.slice (some ⟨cb, 0, none⟩) M.cells.length M.cells.length, .slice (some ⟨lb, 0, none⟩) M.locks.length M.locks.length, .int .i64 (M.t : Int)]
structure MemAt (h : Heap) (mb cb lb : Nat) (M : MemS) : Prop where
  mem : h[mb]? = some (.cells (encMem cb lb M).toArray 205 (0, 0))
  cells : OwnA encU64 1 51 0 h (some ⟨cb, 0, none⟩) M.cells.length M.cells
  locks : OwnA encI 1 3 0 h (some ⟨lb, 0, none⟩) M.locks.length M.locks
def ML (mb cb lb : Nat) : List (Nat × TypeId) := [(mb, 205), (cb, 51), (lb, 3)]
theorem MemAt.ext {h h' : Heap} {mb cb lb : Nat} {M : MemS} (H : MemAt h mb cb lb M) (x : Ext h h') : MemAt h' mb cb lb M := ⟨x.blk H.mem, H.cells.ext x, H.locks.ext x⟩
theorem MemAt.chg {l : List (Nat × TypeId)} {h h' : Heap} {mb cb lb : Nat} {M : MemS} (H : MemAt h mb cb lb M) (x : Chg l h h') (n1 : (mb, 205) ∉ l) (n2 : (cb, 51) ∉ l) (n3 : (lb, 3) ∉ l) : MemAt h' mb cb lb M :=
  ⟨x.blk H.mem n1, H.cells.chg x fun b e => by cases e; exact n2, H.locks.chg x fun b e => by cases e; exact n3⟩
section
variable {h : Heap} {mb cb lb : Nat} {M : MemS}
theorem MemAt.lenc (H : MemAt h mb cb lb M) : ∃ cs, h[cb]? = some (.cells cs 51 (0, 0)) := H.cells.block
theorem MemAt.lenl (H : MemAt h mb cb lb M) : ∃ cs, h[lb]? = some (.cells cs 3 (0, 0)) := H.locks.block
theorem MemAt.ne1 (H : MemAt h mb cb lb M) : mb ≠ cb := by obtain ⟨_, hc⟩ := H.lenc; exact blk_ne H.mem hc (by decide)
theorem MemAt.ne2 (H : MemAt h mb cb lb M) : mb ≠ lb := by obtain ⟨_, hc⟩ := H.lenl; exact blk_ne H.mem hc (by decide)
theorem MemAt.ne3 (H : MemAt h mb cb lb M) : cb ≠ lb := by obtain ⟨_, hc⟩ := H.lenc; obtain ⟨_, hl⟩ := H.lenl; exact blk_ne hc hl (by decide)
theorem MemAt.get (H : MemAt h mb cb lb M) {i : Nat} {x : Int} (hx : M.cells[i]? = some x) : cell h (⟨cb, i, none⟩ : Addr) = some (.int .u64 x) := by
  obtain ⟨a, ha, hr⟩ := H.cells.row encU64_len i x hx
  cases ha
  have := hr.cons
  rw [add_lit] at this
  simpa using this
theorem MemAt.lockd (H : MemAt h mb cb lb M) {i : Nat} {x : Int} (hx : M.locks[i]? = some x) : cell h (⟨lb, i, none⟩ : Addr) = some (.int .i64 x) := by
  obtain ⟨a, ha, hr⟩ := H.locks.row encI_len i x hx
  cases ha
  have := hr.cons
  rw [add_lit] at this
  simpa using this
theorem MemAt.get' (H : MemAt h mb cb lb M) {i : Nat} {x : Int} (hx : M.cells[i]? = some x) : cell h ((⟨cb, 0, none⟩ : Addr).add ((i : Int).toNat * 1)) = some (.int .u64 x) := by
  rw [add_lit, Int.toNat_natCast, Nat.mul_one, Nat.zero_add]; exact H.get hx
theorem MemAt.lockd' (H : MemAt h mb cb lb M) {i : Nat} {x : Int} (hx : M.locks[i]? = some x) : cell h ((⟨lb, 0, none⟩ : Addr).add ((i : Int).toNat * 1)) = some (.int .i64 x) := by
  rw [add_lit, Int.toNat_natCast, Nat.mul_one, Nat.zero_add]; exact H.lockd hx
theorem idx_lit (b i : Nat) : (⟨b, 0, none⟩ : Addr).add ((i : Int).toNat * 1) = ⟨b, i, none⟩ := by rw [add_lit, Int.toNat_natCast, Nat.mul_one, Nat.zero_add]
/-- Time goes on. -/
theorem MemAt.tick (H : MemAt h mb cb lb M) (ht : M.t < 1000000) {h' : Heap} (s : Stored h ⟨mb, 2, none⟩ [.int .i64 (IntKind.i64.wrap ((M.t : Int) + 1))] h') :
    MemAt h' mb cb lb { M with t := M.t + 1 } ∧ Chg [(mb, 205)] h h' := by
  have c := s.chg (l := [(mb, 205)]) H.mem (by simp)
  refine ⟨⟨?_, H.cells.other s (fun b e => by cases e; exact (Ne.symm H.ne1)), H.locks.other s (fun b e => by cases e; exact (Ne.symm H.ne2))⟩, c⟩
  rw [s.put H.mem]
  rw [show IntKind.i64.wrap ((M.t : Int) + 1) = ((M.t + 1 : Nat) : Int) by rw [wrap_i64 (by omega) (by omega)]; omega]
  rfl
theorem MemAt.setc0 (H : MemAt h mb cb lb M) {i : Nat} (hi : i < M.cells.length) {x : Int} {h' : Heap} (s : Stored h ⟨cb, i, none⟩ [.int .u64 x] h') :
    MemAt h' mb cb lb { M with cells := M.cells.set i x } ∧ Chg [(cb, 51)] h h' := by
  obtain ⟨cs, hc⟩ := H.lenc
  have c := s.chg (l := [(cb, 51)]) hc (by simp)
  have s' : Stored h ⟨cb, i * 1 + 0, none⟩ [.int .u64 x] h' := by simpa using s
  have o := H.cells.put encU64_len (x' := x) rfl s' (List.getElem?_eq_getElem hi) (by simp) rfl
  refine ⟨⟨?_, ?_, H.locks.other s (fun b e => by cases e; exact Ne.symm H.ne3)⟩, c⟩
  · have := s.blk H.mem H.ne1
    rw [this]
    simp [encMem]
  · simpa using o
theorem MemAt.setl0 (H : MemAt h mb cb lb M) {i : Nat} (hi : i < M.locks.length) {x : Int} {h' : Heap} (s : Stored h ⟨lb, i, none⟩ [.int .i64 x] h') :
    MemAt h' mb cb lb { M with locks := M.locks.set i x } ∧ Chg [(lb, 3)] h h' := by
  obtain ⟨cs, hc⟩ := H.lenl
  have c := s.chg (l := [(lb, 3)]) hc (by simp)
  have s' : Stored h ⟨lb, i * 1 + 0, none⟩ [.int .i64 x] h' := by simpa using s
  have o := H.locks.put encI_len (x' := x) rfl s' (List.getElem?_eq_getElem hi) (by simp) rfl
  refine ⟨⟨?_, H.cells.other s (fun b e => by cases e; exact H.ne3), ?_⟩, c⟩
  · have := s.blk H.mem H.ne2
    rw [this]
    simp [encMem]
  · simpa using o
theorem MemAt.csetc0 (H : MemAt h mb cb lb M) {i : Nat} (hi : i < M.cells.length) : CanSet h ⟨cb, i, none⟩ 1 := by
  obtain ⟨b, e, _, hcs⟩ := H.cells.canset encU64_len (i := i) (j := 0) (n := 1) hi (by omega)
  cases e
  simpa using hcs
theorem MemAt.csetl0 (H : MemAt h mb cb lb M) {i : Nat} (hi : i < M.locks.length) : CanSet h ⟨lb, i, none⟩ 1 := by
  obtain ⟨b, e, _, hcs⟩ := H.locks.canset encI_len (i := i) (j := 0) (n := 1) hi (by omega)
  cases e
  simpa using hcs
theorem MemAt.csetc (H : MemAt h mb cb lb M) {i : Nat} (hi : i < M.cells.length) : CanSet h ((⟨cb, 0, none⟩ : Addr).add ((i : Int).toNat * 1)) 1 := by rw [idx_lit]; exact H.csetc0 hi
theorem MemAt.csetl (H : MemAt h mb cb lb M) {i : Nat} (hi : i < M.locks.length) : CanSet h ((⟨lb, 0, none⟩ : Addr).add ((i : Int).toNat * 1)) 1 := by rw [idx_lit]; exact H.csetl0 hi
theorem MemAt.setc (H : MemAt h mb cb lb M) {i : Nat} (hi : i < M.cells.length) {x : Int} {h' : Heap} (s : Stored h ((⟨cb, 0, none⟩ : Addr).add ((i : Int).toNat * 1)) [.int .u64 x] h') :
    MemAt h' mb cb lb { M with cells := M.cells.set i x } ∧ Chg [(cb, 51)] h h' := by rw [idx_lit] at s; exact H.setc0 hi s
theorem MemAt.setl (H : MemAt h mb cb lb M) {i : Nat} (hi : i < M.locks.length) {x : Int} {h' : Heap} (s : Stored h ((⟨lb, 0, none⟩ : Addr).add ((i : Int).toNat * 1)) [.int .i64 x] h') :
    MemAt h' mb cb lb { M with locks := M.locks.set i x } ∧ Chg [(lb, 3)] h h' := by rw [idx_lit] at s; exact H.setl0 hi s
theorem mCell_spec (H : MemAt h mb cb lb M) (i : Int) : HCalls Tryz.prog 119 #[.pointer (some ⟨mb, 0, none⟩), .int .i64 i] h (fun v h' => v = .bool (decide (0 ≤ i) && decide (i < M.cells.length)) ∧ h' = h) := by
  refine xcalls env0 Tryz.func119 rfl (by kernel_rfl) rfl (by kernel_rfl) ?_
  refine xif_of (fun q => ?_) (fun q => ?_)
  · have q : i ≥ 0 := of_decide_eq_true q
    refine ⟨_, cell_blk H.mem rfl, congrArg Value.bool ?_, rfl⟩
    rw [decide_eq_true (show 0 ≤ i from q), Bool.true_and]
  · have q : ¬ i ≥ 0 := of_decide_eq_false q
    refine ⟨congrArg Value.bool ?_, rfl⟩
    rw [decide_eq_false (show ¬ 0 ≤ i from q), Bool.false_and]
theorem mLock_spec (H : MemAt h mb cb lb M) (i : Int) : HCalls Tryz.prog 221 #[.pointer (some ⟨mb, 0, none⟩), .int .i64 i] h (fun v h' => v = .bool (decide (0 ≤ i) && decide (i < M.locks.length)) ∧ h' = h) := by
  refine xcalls env0 Tryz.func221 rfl (by kernel_rfl) rfl (by kernel_rfl) ?_
  refine xif_of (fun q => ?_) (fun q => ?_)
  · have q : i ≥ 0 := of_decide_eq_true q
    refine ⟨_, cell_blk H.mem rfl, congrArg Value.bool ?_, rfl⟩
    rw [decide_eq_true (show 0 ≤ i from q), Bool.true_and]
  · have q : ¬ i ≥ 0 := of_decide_eq_false q
    refine ⟨congrArg Value.bool ?_, rfl⟩
    rw [decide_eq_false (show ¬ 0 ≤ i from q), Bool.false_and]
theorem mLoad_spec (H : MemAt h mb cb lb M) {i : Nat} {x : Int} (hx : M.cells[i]? = some x) (ht : M.t < 1000000) : HCalls Tryz.prog 206 #[.pointer (some ⟨mb, 0, none⟩), .int .i64 i] h (fun v h' => v = .int .u64 x ∧ MemAt h' mb cb lb { M with t := M.t + 1 } ∧ Chg [(mb, 205)] h h') := by
  have hi : i < M.cells.length := (List.getElem?_eq_some_iff.1 hx).1
  refine xcalls env0 Tryz.func206 rfl (by kernel_rfl) rfl (by kernel_rfl) ?_
  refine (mCell_spec H i).mono ?_
  rintro v h1 ⟨rfl, rfl⟩
  have e : (!(decide (0 ≤ (i : Int)) && decide ((i : Int) < M.cells.length))) = false := by
    rw [decide_eq_true (by omega), decide_eq_true (by omega)]; rfl
  refine xif_false e ?_
  refine ⟨_, cell_blk H.mem rfl, rfl, rfl, canset_blk H.mem rfl, fun h2 s2 => ?_⟩
  obtain ⟨H2, c2⟩ := H.tick ht s2
  exact ⟨_, cell_blk H2.mem rfl, _, rfl, Int.natCast_nonneg i, Int.ofNat_lt.2 hi, _, H2.get' hx, rfl, H2, c2⟩
theorem mStore_spec (H : MemAt h mb cb lb M) {i : Nat} {x : Int} (hi : i < M.cells.length) (ht : M.t < 1000000) : HCalls Tryz.prog 98 #[.pointer (some ⟨mb, 0, none⟩), .int .i64 i, .int .u64 x] h (fun v h' => v = .tuple #[] ∧ MemAt h' mb cb lb { M with cells := M.cells.set i x, t := M.t + 1 } ∧ Chg (ML mb cb lb) h h') := by
  refine xcalls env0 Tryz.func98 rfl (by kernel_rfl) rfl (by kernel_rfl) ?_
  refine (mCell_spec H i).mono ?_
  rintro v h1 ⟨rfl, rfl⟩
  have e : (decide (0 ≤ (i : Int)) && decide ((i : Int) < M.cells.length)) = true := by
    rw [decide_eq_true (by omega), decide_eq_true (by omega)]; rfl
  refine xif_true e ?_
  refine ⟨_, cell_blk H.mem rfl, rfl, rfl, canset_blk H.mem rfl, fun h2 s2 => ?_⟩
  obtain ⟨H2, c2⟩ := H.tick ht s2
  refine ⟨_, cell_blk H2.mem rfl, _, rfl, Int.natCast_nonneg i, Int.ofNat_lt.2 hi, rfl, rfl, H2.csetc hi, fun h3 s3 => ?_⟩
  obtain ⟨H3, c3⟩ := H2.setc hi s3
  exact ⟨rfl, H3, (c2.mono (by first | (simp; done) | (intro p hp; simp [hp]; done) | (simp [ML]; done) | (intro p hp; simp [ML] at hp ⊢; rcases hp with h | h | h <;> simp [h]; done))).trans (c3.mono (by first | (simp; done) | (intro p hp; simp [hp]; done) | (simp [ML]; done) | (intro p hp; simp [ML] at hp ⊢; rcases hp with h | h | h <;> simp [h]; done)))⟩
theorem mPass_spec (H : MemAt h mb cb lb M) {i : Nat} {a b : Int} (hx : M.locks[i]? = some a) (ht : M.t < 1000000) : HCalls Tryz.prog 222 #[.pointer (some ⟨mb, 0, none⟩), .int .i64 i, .int .i64 a, .int .i64 b] h (fun v h' => v = .bool true ∧ MemAt h' mb cb lb { M with locks := M.locks.set i b, t := M.t + 1 } ∧ Chg (ML mb cb lb) h h') := by
  refine xcalls env0 Tryz.func222 rfl (by kernel_rfl) rfl (by kernel_rfl) ?_
  have hi : i < M.locks.length := (List.getElem?_eq_some_iff.1 hx).1
  refine ⟨_, cell_blk H.mem rfl, rfl, rfl, canset_blk H.mem rfl, fun h2 s2 => ?_⟩
  obtain ⟨H2, c2⟩ := H.tick ht s2
  refine ⟨_, cell_blk H2.mem rfl, _, rfl, Int.natCast_nonneg i, Int.ofNat_lt.2 hi, _, H2.lockd' hx, ?_⟩
  refine xif_false (by simp) ?_
  refine ⟨_, cell_blk H2.mem rfl, _, rfl, Int.natCast_nonneg i, Int.ofNat_lt.2 hi, rfl, rfl, H2.csetl hi, fun h3 s3 => ?_⟩
  obtain ⟨H3, c3⟩ := H2.setl hi s3
  exact ⟨rfl, H3, (c2.mono (by first | (simp; done) | (intro p hp; simp [hp]; done) | (simp [ML]; done) | (intro p hp; simp [ML] at hp ⊢; rcases hp with h | h | h <;> simp [h]; done))).trans (c3.mono (by first | (simp; done) | (intro p hp; simp [hp]; done) | (simp [ML]; done) | (intro p hp; simp [ML] at hp ⊢; rcases hp with h | h | h <;> simp [h]; done)))⟩
theorem mTake_spec (H : MemAt h mb cb lb M) {i : Nat} {who : Int} (hx : M.locks[i]? = some (-1)) (hw : 0 ≤ who) (ht : M.t < 1000000) : HCalls Tryz.prog 185 #[.pointer (some ⟨mb, 0, none⟩), .int .i64 i, .int .i64 who] h (fun v h' => v = .bool true ∧ MemAt h' mb cb lb { M with locks := M.locks.set i who, t := M.t + 1 } ∧ Chg (ML mb cb lb) h h') := by
  refine xcalls env0 Tryz.func185 rfl (by kernel_rfl) rfl (by kernel_rfl) ?_
  have hi : i < M.locks.length := (List.getElem?_eq_some_iff.1 hx).1
  refine (mLock_spec H i).mono ?_
  rintro v h1 ⟨rfl, rfl⟩
  have e : (decide (0 ≤ (i : Int)) && decide ((i : Int) < M.locks.length)) = true := by
    rw [decide_eq_true (by omega), decide_eq_true (by omega)]; rfl
  refine xif_true e ?_
  refine xif_true (decide_eq_true ?_) ?_
  · exact hw
  refine (mPass_spec H hx ht).mono ?_
  rintro v h2 ⟨rfl, r⟩
  exact ⟨rfl, r⟩
theorem mFree_spec (H : MemAt h mb cb lb M) {i : Nat} {who : Int} (hx : M.locks[i]? = some who) (hw : 0 ≤ who) (ht : M.t < 1000000) : HCalls Tryz.prog 271 #[.pointer (some ⟨mb, 0, none⟩), .int .i64 i, .int .i64 who] h (fun v h' => v = .bool true ∧ MemAt h' mb cb lb { M with locks := M.locks.set i (-1), t := M.t + 1 } ∧ Chg (ML mb cb lb) h h') := by
  refine xcalls env0 Tryz.func271 rfl (by kernel_rfl) rfl (by kernel_rfl) ?_
  have hi : i < M.locks.length := (List.getElem?_eq_some_iff.1 hx).1
  refine (mLock_spec H i).mono ?_
  rintro v h1 ⟨rfl, rfl⟩
  have e : (decide (0 ≤ (i : Int)) && decide ((i : Int) < M.locks.length)) = true := by
    rw [decide_eq_true (by omega), decide_eq_true (by omega)]; rfl
  refine xif_true e ?_
  refine xif_true (decide_eq_true ?_) ?_
  · exact hw
  refine (mPass_spec H hx ht).mono ?_
  rintro v h2 ⟨rfl, r⟩
  exact ⟨rfl, r⟩
theorem mTime_spec (H : MemAt h mb cb lb M) : HCalls Tryz.prog 33 #[.pointer (some ⟨mb, 0, none⟩)] h (fun v h' => v = .int .i64 M.t ∧ h' = h) := by
  refine xcalls env0 Tryz.func33 rfl (by kernel_rfl) rfl (by kernel_rfl) ?_
  exact ⟨_, cell_blk H.mem rfl, rfl, rfl⟩
theorem mPeek_spec (H : MemAt h mb cb lb M) {i : Nat} {x : Int} (hx : M.cells[i]? = some x) : HCalls Tryz.prog 64 #[.pointer (some ⟨mb, 0, none⟩), .int .i64 i] h (fun v h' => v = .int .u64 x ∧ h' = h) := by
  have hi : i < M.cells.length := (List.getElem?_eq_some_iff.1 hx).1
  refine xcalls env0 Tryz.func64 rfl (by kernel_rfl) rfl (by kernel_rfl) ?_
  refine (mCell_spec H i).mono ?_
  rintro v h1 ⟨rfl, rfl⟩
  have e : (!(decide (0 ≤ (i : Int)) && decide ((i : Int) < M.cells.length))) = false := by
    rw [decide_eq_true (by omega), decide_eq_true (by omega)]; rfl
  refine xif_false e ?_
  exact ⟨_, cell_blk H.mem rfl, _, rfl, Int.natCast_nonneg i, Int.ofNat_lt.2 hi, _, H.get' hx, rfl, rfl⟩
theorem mCells_spec (H : MemAt h mb cb lb M) : HCalls Tryz.prog 155 #[.pointer (some ⟨mb, 0, none⟩)] h (fun v h' => v = .int .i64 M.cells.length ∧ h' = h) := by
  refine xcalls env0 Tryz.func155 rfl (by kernel_rfl) rfl (by kernel_rfl) ?_
  exact ⟨_, cell_blk H.mem rfl, rfl, rfl⟩
theorem mLocks_spec (H : MemAt h mb cb lb M) : HCalls Tryz.prog 156 #[.pointer (some ⟨mb, 0, none⟩)] h (fun v h' => v = .int .i64 M.locks.length ∧ h' = h) := by
  refine xcalls env0 Tryz.func156 rfl (by kernel_rfl) rfl (by kernel_rfl) ?_
  exact ⟨_, cell_blk H.mem rfl, rfl, rfl⟩
theorem mLoad_at (H : MemAt h mb cb lb M) {i : Nat} {j x : Int} (hj : j = (i : Int)) (hx : M.cells[i]? = some x) (ht : M.t < 1000000) : HCalls Tryz.prog 206 #[.pointer (some ⟨mb, 0, none⟩), .int .i64 j] h (fun v h' => v = .int .u64 x ∧ MemAt h' mb cb lb { M with t := M.t + 1 } ∧ Chg [(mb, 205)] h h') := by subst hj; exact mLoad_spec H hx ht
theorem mStore_at (H : MemAt h mb cb lb M) {i : Nat} {j x y : Int} (hj : j = (i : Int)) (hy : y = x) (hi : i < M.cells.length) (ht : M.t < 1000000) : HCalls Tryz.prog 98 #[.pointer (some ⟨mb, 0, none⟩), .int .i64 j, .int .u64 y] h (fun v h' => v = .tuple #[] ∧ MemAt h' mb cb lb { M with cells := M.cells.set i x, t := M.t + 1 } ∧ Chg (ML mb cb lb) h h') := by subst hj hy; exact mStore_spec H hi ht
theorem mPeek_at (H : MemAt h mb cb lb M) {i : Nat} {j x : Int} (hj : j = (i : Int)) (hx : M.cells[i]? = some x) : HCalls Tryz.prog 64 #[.pointer (some ⟨mb, 0, none⟩), .int .i64 j] h (fun v h' => v = .int .u64 x ∧ h' = h) := by subst hj; exact mPeek_spec H hx
end
theorem locks_set {l i : Nat} (hi : i < l) : (List.replicate i (-1 : Int) ++ List.replicate (l - i) 0).set i (-1) = List.replicate (i + 1) (-1) ++ List.replicate (l - (i + 1)) 0 := by
  rw [List.set_append_right _ _ (by simp), List.length_replicate, Nat.sub_self, show l - i = (l - (i + 1)) + 1 by omega, List.replicate_succ, List.set_cons_zero, List.replicate_succ', List.append_assoc]
  rfl
theorem mNew_spec {h : Heap} {c l : Nat} (c1 : 1 ≤ c) (c2 : c ≤ 1048576) (l2 : l ≤ 128) : HCalls Tryz.prog 95 #[.int .i64 c, .int .i64 l] h (fun v h' => ∃ mb cb lb, v = .tuple #[.pointer (some ⟨mb, 0, none⟩), .int .i64 0] ∧ MemAt h' mb cb lb ⟨List.replicate c 0, List.replicate l (-1), 0⟩ ∧ Ext h h' ∧ h.size ≤ mb ∧ h.size ≤ cb ∧ h.size ≤ lb) := by
  refine xcalls env_mNew Tryz.func95 rfl (by kernel_rfl) rfl (by kernel_rfl) ?_
  refine xif_false (decide_eq_false ?_) ?_
  · show ¬ (c : Int) < 1
    omega
  refine xif_false (decide_eq_false ?_) ?_
  · show ¬ (c : Int) > 1048576
    omega
  refine xif_false (decide_eq_false ?_) ?_
  · show ¬ (l : Int) > 128
    omega
  refine ⟨Nat × Nat × Nat, fun z => [(6, .pointer (some ⟨z.1, 0, none⟩))], fun z h' => MemAt h' z.1 z.2.1 z.2.2 ⟨List.replicate c 0, List.replicate l 0, 0⟩ ∧ Ext h h' ∧ h.size ≤ z.1 ∧ h.size ≤ z.2.1 ∧ h.size ≤ z.2.2, ?_, ?_⟩
  · have a1 : (0 : Int) ≤ c := Int.natCast_nonneg c
    have a2 : ((8 : Nat) : Int) * c ≤ 140737488355328 := by omega
    have a3 : (c : Int) ≤ 9223372036854775807 := by omega
    have b1 : (0 : Int) ≤ l := Int.natCast_nonneg l
    have b2 : ((8 : Nat) : Int) * l ≤ 140737488355328 := by omega
    have b3 : (l : Int) ≤ 9223372036854775807 := by omega
    have key : ∀ (hc hl h3 : Heap) (mb cb lb : Nat) , Ext h hc → Ext h hl → OwnA encU64 1 51 h.size hc (some ⟨cb, 0, none⟩) c (List.replicate c 0) → OwnA encI 1 3 h.size hl (some ⟨lb, 0, none⟩) l (List.replicate l 0) → ∀ hm, Ext hc hm → Ext hl hm → New hm h3 mb (.cells [.slice (some ⟨cb, 0, none⟩) c c, .slice (some ⟨lb, 0, none⟩) l l, .int .i64 0].toArray 205) → 
        MemAt h3 mb cb lb ⟨List.replicate c 0, List.replicate l 0, 0⟩ ∧ Ext h h3 ∧ h.size ≤ mb ∧ h.size ≤ cb ∧ h.size ≤ lb := by
      intro hc hl h3 mb cb lb xc xl oc ol hm yc yl n3
      refine ⟨⟨?_, ?_, ?_⟩, (xc.trans yc).trans n3.ext, n3.ge (xc.trans yc), oc.ge _ rfl, ol.ge _ rfl⟩
      · rw [n3.this]
        simp [encMem]
      · simpa using (oc.ext (yc.trans n3.ext)).base0
      · simpa using (ol.ext (yl.trans n3.ext)).base0
    refine ⟨?_, ?_⟩
    · refine ⟨a1, Int.le_refl _, a2, a3, ?_⟩
      intro cb h1 m1
      refine ⟨b1, Int.le_refl _, b2, b3, ?_⟩
      intro lb h2 m2
      intro mb h3 n3
      rw [Int.toNat_natCast] at m1 m2
      rw [show (c : Int).toNat = c from Int.toNat_natCast c, show (l : Int).toNat = l from Int.toNat_natCast l] at n3
      exact ⟨(mb, cb, lb), ⟨rfl, trivial⟩, key h1 h2 h3 mb cb lb m1.ext (m1.ext.trans m2.ext) (OwnA.made (z := (0 : Int)) c m1 rfl (Nat.le_refl _)) (OwnA.made (z := (0 : Int)) l m2 rfl m1.ext.size) h2 m2.ext (Ext.refl _) n3⟩
    · refine ⟨b1, Int.le_refl _, b2, b3, ?_⟩
      intro lb h1 m1
      refine ⟨a1, Int.le_refl _, a2, a3, ?_⟩
      intro cb h2 m2
      intro mb h3 n3
      rw [Int.toNat_natCast] at m1 m2
      rw [show (c : Int).toNat = c from Int.toNat_natCast c, show (l : Int).toNat = l from Int.toNat_natCast l] at n3
      exact ⟨(mb, cb, lb), ⟨rfl, trivial⟩, key h2 h1 h3 mb cb lb (m1.ext.trans m2.ext) m1.ext (OwnA.made (z := (0 : Int)) c m2 rfl m1.ext.size) (OwnA.made (z := (0 : Int)) l m1 rfl (Nat.le_refl _)) h2 (Ext.refl _) m2.ext n3⟩
  rintro ⟨mb, cb, lb⟩ h3 ⟨M3, x3, g1, g2, g3⟩
  simp only at M3 g1 g2 g3
  refine ⟨_, cell_blk M3.mem rfl, ?_⟩
  refine ⟨Nat, fun i => [(6, .pointer (some ⟨mb, 0, none⟩)), (32, .int .i64 l), (33, .int .i64 i)], fun i h' => i ≤ l ∧ MemAt h' mb cb lb ⟨List.replicate c 0, List.replicate i (-1) ++ List.replicate (l - i) 0, 0⟩ ∧ Ext h h', fun i => l - i, 0, ⟨rfl, ?_, rfl, trivial⟩, ⟨Nat.zero_le _, by simpa using M3, x3⟩, ?_⟩
  · show some (Value.int .i64 ((List.replicate l (0 : Int)).length : Int)) = _
    rw [List.length_replicate]
  rintro i h4 ⟨hi, M4, x4⟩
  refine xif_of (fun hlt => ?_) (fun hge => ?_)
  · have hlt : i < l := by have := of_decide_eq_true hlt; omega
    have hl4 : i < (List.replicate i (-1 : Int) ++ List.replicate (l - i) 0).length := by simp; omega
    refine ⟨_, cell_blk M4.mem rfl, _, rfl, Int.natCast_nonneg i, Int.ofNat_lt.2 hl4, rfl, rfl, M4.csetl hl4, fun h5 s5 => ?_⟩
    obtain ⟨M5, c5⟩ := M4.setl hl4 s5
    refine ⟨i + 1, ⟨rfl, rfl, slot_inc (by omega), trivial⟩, ⟨by omega, ?_, c5.ext x4 ?_⟩, by show l - (i + 1) < l - i; omega⟩
    · simp only [locks_set hlt] at M5
      exact M5
    · intro p hp
      simp at hp
      subst hp
      exact g3
  · have hge : ¬ (i : Int) < l := of_decide_eq_false hge
    have e : i = l := by omega
    subst e
    rw [Nat.sub_self, List.replicate_zero, List.append_nil] at M4
    exact ⟨mb, cb, lb, rfl, M4, x4, g1, g2, g3⟩
end Go.Proofs.YtjjempefncgfhaaGreatDoorE
/- Numbers that wait in rings: how a ring and an act lie in memory; one step of a put, one of a taking. Conditions: the ring is as it is told, and has room, or a number. -/
set_option linter.unusedVariables false
set_option linter.unusedSimpArgs false
set_option maxRecDepth 100000
namespace Go.Proofs.YtjjempefncgfhaaGreatDoorE
open Go Go.Proofs
/-- A ring: where its cells are, and of what size; what its two ends know. -/
structure RS where
  base : Nat
  size : Nat
  ic : Nat
  ia : Nat
  ib : Bool
  oc : Nat
  oa : Nat
  ob : Bool
def encRing (mb : Nat) (R : RS) : List Value := [.pointer (some ⟨mb, 0, none⟩), .int .i64 (R.base : Int), .int .i64 (R.size : Int), .int .u64 (R.ic : Int), .int .i64 (R.ia : Int), .bool R.ib, .int .u64 (R.oc : Int), .int .i64 (R.oa : Int), .bool R.ob]
def RingAt (h : Heap) (rb mb : Nat) (R : RS) : Prop := h[rb]? = some (.cells (encRing mb R).toArray 252 (0, 0))
/-- An act at one end (e) of a ring. -/
structure AS where
  rb : Nat
  e : Nat
  next : Nat
  value : Int
  ok : Bool
  mark : Int
  over : Bool
def encAct (A : AS) : List Value := [.pointer (some ⟨A.rb, 0, none⟩), .pointer (some ⟨A.rb, A.e, none⟩), .func (.func A.next) #[] #[], .int .u64 A.value, .bool A.ok, .int .i64 A.mark, .bool A.over]
def ActAt (h : Heap) (ab : Nat) (A : AS) : Prop := h[ab]? = some (.cells (encAct A).toArray 380 (0, 0))
section
variable {h : Heap} {mb cb lb rb ab : Nat} {M : MemS} {R : RS} {A : AS}
theorem rCells_spec {s : Nat} (s1 : 1 ≤ s) (s2 : s ≤ 64) : HCalls Tryz.prog 94 #[.int .i64 s] h (fun v h' => v = .int .i64 ((s + 2 : Nat) : Int) ∧ h' = h) := by
  refine xcalls env0 Tryz.func94 rfl (by kernel_rfl) rfl (by kernel_rfl) ?_
  refine xif_false (decide_eq_false ?_) ?_
  · show ¬ (s : Int) < 1
    omega
  refine xif_false (decide_eq_false ?_) ?_
  · show ¬ (s : Int) > 64
    omega
  refine ⟨?_, rfl⟩
  show Value.int .i64 (IntKind.i64.wrap ((s : Int) + 2)) = _
  rw [wrap_i64 (by omega) (by omega)]
  rfl
theorem rBegin_in (H : RingAt h rb mb R) (hb : R.ib = false) (x : Int) (f : Nat) : HCalls Tryz.prog 272 #[.pointer (some ⟨rb, 0, none⟩), .pointer (some ⟨rb, 3, none⟩), .int .u64 x, .func (.func f) #[] #[]] h (fun v h' => ∃ ab, v = .pointer (some ⟨ab, 0, none⟩) ∧ h.size ≤ ab ∧ ActAt h' ab ⟨rb, 3, f, x, false, 0, false⟩ ∧ RingAt h' rb mb { R with ib := true } ∧ Chg [(rb, 252)] h h') := by
  refine xcalls env0 Tryz.func272 rfl (by kernel_rfl) rfl (by kernel_rfl) ?_
  refine ⟨_, cell_blk H rfl, ?_⟩
  refine xif_false hb ?_
  refine ⟨rfl, rfl, canset_blk H rfl, fun h1 s1 => ?_⟩
  have c1 := s1.chg (l := [(rb, 252)]) H (.head _)
  have H1 : RingAt h1 rb mb { R with ib := true } := s1.put H
  intro ab h2 n2
  have := c1.size
  exact ⟨ab, rfl, by rw [n2.at_]; exact this, n2.this, n2.ext.blk H1, c1.trans (n2.ext.chg _)⟩
theorem rBegin_out (H : RingAt h rb mb R) (hb : R.ob = false) (x : Int) (f : Nat) : HCalls Tryz.prog 272 #[.pointer (some ⟨rb, 0, none⟩), .pointer (some ⟨rb, 6, none⟩), .int .u64 x, .func (.func f) #[] #[]] h (fun v h' => ∃ ab, v = .pointer (some ⟨ab, 0, none⟩) ∧ h.size ≤ ab ∧ ActAt h' ab ⟨rb, 6, f, x, false, 0, false⟩ ∧ RingAt h' rb mb { R with ob := true } ∧ Chg [(rb, 252)] h h') := by
  refine xcalls env0 Tryz.func272 rfl (by kernel_rfl) rfl (by kernel_rfl) ?_
  refine ⟨_, cell_blk H rfl, ?_⟩
  refine xif_false hb ?_
  refine ⟨rfl, rfl, canset_blk H rfl, fun h1 s1 => ?_⟩
  have c1 := s1.chg (l := [(rb, 252)]) H (.head _)
  have H1 : RingAt h1 rb mb { R with ob := true } := s1.put H
  intro ab h2 n2
  have := c1.size
  exact ⟨ab, rfl, by rw [n2.at_]; exact this, n2.this, n2.ext.blk H1, c1.trans (n2.ext.chg _)⟩
theorem rPush_spec (H : RingAt h rb mb R) (hb : R.ib = false) (x : Int) : HCalls Tryz.prog 267 #[.pointer (some ⟨rb, 0, none⟩), .int .u64 x] h (fun v h' => ∃ ab, v = .pointer (some ⟨ab, 0, none⟩) ∧ h.size ≤ ab ∧ ActAt h' ab ⟨rb, 3, 281, x, false, 0, false⟩ ∧ RingAt h' rb mb { R with ib := true } ∧ Chg [(rb, 252)] h h') := by
  refine xcalls env0 Tryz.func267 rfl (by kernel_rfl) rfl (by kernel_rfl) ?_
  refine (rBegin_in H hb x _).mono ?_
  exact fun v h' r => r
theorem rPop_spec (H : RingAt h rb mb R) (hb : R.ob = false) : HCalls Tryz.prog 254 #[.pointer (some ⟨rb, 0, none⟩)] h (fun v h' => ∃ ab, v = .pointer (some ⟨ab, 0, none⟩) ∧ h.size ≤ ab ∧ ActAt h' ab ⟨rb, 6, 273, 0, false, 0, false⟩ ∧ RingAt h' rb mb { R with ob := true } ∧ Chg [(rb, 252)] h h') := by
  refine xcalls env0 Tryz.func254 rfl (by kernel_rfl) rfl (by kernel_rfl) ?_
  refine (rBegin_out H hb 0 _).mono ?_
  exact fun v h' r => r
theorem rOver_spec (H : ActAt h ab A) : HCalls Tryz.prog 274 #[.pointer (some ⟨ab, 0, none⟩)] h (fun v h' => v = .bool A.over ∧ h' = h) := by
  refine xcalls env0 Tryz.func274 rfl (by kernel_rfl) rfl (by kernel_rfl) ?_
  exact ⟨_, cell_blk H rfl, rfl, rfl⟩
theorem rMark_spec (H : ActAt h ab A) : HCalls Tryz.prog 257 #[.pointer (some ⟨ab, 0, none⟩)] h (fun v h' => v = .int .i64 A.mark ∧ h' = h) := by
  refine xcalls env0 Tryz.func257 rfl (by kernel_rfl) rfl (by kernel_rfl) ?_
  exact ⟨_, cell_blk H rfl, rfl, rfl⟩
theorem rOk_spec (H : ActAt h ab A) : HCalls Tryz.prog 256 #[.pointer (some ⟨ab, 0, none⟩)] h (fun v h' => v = .bool A.ok ∧ h' = h) := by
  refine xcalls env0 Tryz.func256 rfl (by kernel_rfl) rfl (by kernel_rfl) ?_
  exact ⟨_, cell_blk H rfl, rfl, rfl⟩
theorem rValue_spec (H : ActAt h ab A) : HCalls Tryz.prog 258 #[.pointer (some ⟨ab, 0, none⟩)] h (fun v h' => v = .int .u64 (if A.ok then A.value else 0) ∧ h' = h) := by
  refine xcalls env0 Tryz.func258 rfl (by kernel_rfl) rfl (by kernel_rfl) ?_
  refine ⟨_, cell_blk H rfl, ?_⟩
  cases hk : A.ok
  · exact ⟨rfl, rfl⟩
  · exact ⟨_, cell_blk H rfl, rfl, rfl⟩
theorem MemAt.base_lt (HM : MemAt h mb cb lb M) {i : Nat} {x : Int} (hx : M.cells[i]? = some x) : i < M.cells.length := (List.getElem?_eq_some_iff.1 hx).1
theorem wrap_add (a b : Nat) (h : a + b < 1000000000) : IntKind.i64.wrap ((a : Int) + (b : Int)) = ((a + b : Nat) : Int) := by rw [wrap_i64 (by omega) (by omega)]; omega
theorem wrap_add1 (a : Nat) (h : a < 1000000000) : IntKind.i64.wrap ((a : Int) + 1) = ((a + 1 : Nat) : Int) := by rw [wrap_i64 (by omega) (by omega)]; omega
theorem wrap_add0 (a : Nat) (h : a < 1000000000) : IntKind.i64.wrap ((a : Int) + 0) = (a : Int) := by rw [wrap_i64 (by omega) (by omega)]; omega
theorem rLen_spec (H : RingAt h rb mb R) (HM : MemAt h mb cb lb M) {a b : Nat} (ha : M.cells[R.base]? = some (a : Int)) (hb : M.cells[R.base + 1]? = some (b : Int)) (hab : b ≤ a) (h2 : a < 1000000) (h4 : M.cells.length < 100000000) : HCalls Tryz.prog 120 #[.pointer (some ⟨rb, 0, none⟩)] h (fun v h' => v = .int .i64 ((a - b : Nat) : Int) ∧ h' = h) := by
  refine xcalls env_rLen Tryz.func120 rfl (by kernel_rfl) rfl (by kernel_rfl) ?_
  have b1 := HM.base_lt ha
  refine ⟨_, cell_blk H rfl, _, cell_blk H rfl, _, cell_blk H rfl, _, cell_blk H rfl, ?_⟩
  refine (mPeek_at HM (wrap_add0 R.base (by omega)) ha).mono ?_
  rintro v h1 ⟨rfl, rfl⟩
  try (refine ⟨by ((repeat (first | refine ⟨cell_blk (H) rfl, ?_⟩)); exact trivial), ?_⟩)
  refine (mPeek_at HM (wrap_add1 R.base (by omega)) hb).mono ?_
  rintro v h1 ⟨rfl, rfl⟩
  refine ⟨?_, rfl⟩
  show Value.int .i64 (IntKind.i64.wrap (IntKind.u64.wrap ((a : Int) - b))) = _
  rw [wrap_u64 (by omega) (by omega), wrap_i64 (by omega) (by omega)]
  congr 1
  omega
theorem rDone_spec (H : ActAt h ab A) (HR : RingAt h A.rb mb R) (HM : MemAt h mb cb lb M) (ok : Bool) : HCalls Tryz.prog 282 #[.pointer (some ⟨ab, 0, none⟩), .bool ok] h (fun v h' => v = .bool true ∧ ActAt h' ab { A with ok := ok, mark := M.t } ∧ Chg [(ab, 380)] h h') := by
  refine xcalls env0 Tryz.func282 rfl (by kernel_rfl) rfl (by kernel_rfl) ?_
  refine ⟨_, cell_blk H rfl, _, cell_blk HR rfl, ?_⟩
  refine (mTime_spec HM).mono ?_
  rintro v h1 ⟨rfl, rfl⟩
  refine ⟨rfl, rfl, canset_blk H rfl, fun h2 s2 => ?_⟩
  have c2 := s2.chg (l := [(ab, 380)]) H (.head _)
  have H2 : ActAt h2 ab { A with mark := M.t } := s2.put H
  refine ⟨rfl, rfl, canset_blk H2 rfl, fun h3 s3 => ?_⟩
  have c3 := s3.chg (l := [(ab, 380)]) H2 (.head _)
  have H3 : ActAt h3 ab { A with mark := M.t, ok := ok } := s3.put H2
  exact ⟨rfl, H3, c2.trans c3⟩
theorem gRoom_spec (H : ActAt h ab A) (HR : RingAt h A.rb mb R) (HM : MemAt h mb cb lb M) (he : A.e = 3) {b : Nat} (hb : M.cells[R.base + 1]? = some (b : Int)) (h1 : b ≤ R.ic) (h2 : R.ic < b + R.size) (h3 : R.ic < 1000000) (h7 : R.size < 1000000) (h4 : M.cells.length < 100000000) (ht : M.t < 1000000) :
    HCalls Tryz.prog 281 #[.pointer (some ⟨ab, 0, none⟩)] h (fun v h' => v = .bool false ∧ ActAt h' ab { A with next := 291 } ∧ MemAt h' mb cb lb { M with t := M.t + 1 } ∧ Chg [(ab, 380), (mb, 205)] h h') := by
  refine xcalls env_gRoom Tryz.func281 rfl (by kernel_rfl) rfl (by kernel_rfl) ?_
  obtain ⟨rb', e', nx, vl, ok', mk, ov⟩ := A
  simp only at he
  subst he
  have b1 := HM.base_lt hb
  repeat (first | refine ⟨_, cell_blk (H) rfl, ?_⟩ | refine ⟨_, cell_blk (HR) rfl, ?_⟩)
  refine (mLoad_at HM (wrap_add1 R.base (by omega)) hb ht).mono ?_
  rintro v h1 ⟨rfl, M1, c1⟩
  have H1 := c1.blk H (by simp)
  have R1 := c1.blk HR (by simp)
  try (refine ⟨by ((repeat (first | refine ⟨cell_blk (H1) rfl, ?_⟩ | refine ⟨cell_blk (R1) rfl, ?_⟩)); exact trivial), ?_⟩)
  repeat (first | refine ⟨_, cell_blk (H1) rfl, ?_⟩ | refine ⟨_, cell_blk (R1) rfl, ?_⟩)
  refine xif_false (decide_eq_false ?_) ?_
  · show ¬ (IntKind.u64.wrap ((R.ic : Int) - b) ≥ IntKind.u64.wrap (R.size : Int))
    rw [wrap_u64 (by omega) (by omega), wrap_u64 (by omega) (by omega)]
    omega
  refine ⟨rfl, rfl, canset_blk H1 rfl, fun h2 s2 => ?_⟩
  have H2 : ActAt h2 ab ⟨rb', 3, 291, vl, ok', mk, ov⟩ := s2.put H1
  have c2 := s2.chg (l := [(ab, 380), (mb, 205)]) H1 (.head _)
  exact ⟨rfl, H2, M1.chg (s2.chg (l := [(ab, 380)]) H1 (.head _)) (by simp) (by simp) (by simp), (c1.mono (by first | (simp; done) | (intro p hp; simp [hp]; done) | (simp [ML]; done) | (intro p hp; simp [ML] at hp ⊢; rcases hp with h | h | h <;> simp [h]; done))).trans c2⟩
theorem rLay_spec (H : ActAt h ab A) (HR : RingAt h A.rb mb R) (HM : MemAt h mb cb lb M) (he : A.e = 3) (hi : R.base + (2 + R.ia) < M.cells.length) (h4 : M.cells.length < 100000000) (ht : M.t < 1000000) :
    HCalls Tryz.prog 291 #[.pointer (some ⟨ab, 0, none⟩)] h (fun v h' => v = .bool false ∧ ActAt h' ab { A with next := 300 } ∧ MemAt h' mb cb lb { M with cells := M.cells.set (R.base + (2 + R.ia)) A.value, t := M.t + 1 } ∧ Chg ((ab, 380) :: ML mb cb lb) h h') := by
  refine xcalls env_rLay Tryz.func291 rfl (by kernel_rfl) rfl (by kernel_rfl) ?_
  obtain ⟨rb', e', nx, vl, ok', mk, ov⟩ := A
  simp only at he
  subst he
  repeat (first | refine ⟨_, cell_blk (H) rfl, ?_⟩ | refine ⟨_, cell_blk (HR) rfl, ?_⟩)
  refine (mStore_at HM (i := R.base + (2 + R.ia)) ?_ rfl hi ht).mono ?_
  · rw [wrap_i64 (x := (R.base : Int) + 2) (by omega) (by omega), wrap_i64 (by omega) (by omega)]
    omega
  rintro v h1 ⟨rfl, M1, c1⟩
  have H1 := c1.blk H (by simp [ML])
  have R1 := c1.blk HR (by simp [ML])
  try (refine ⟨by ((repeat (first | refine ⟨cell_blk (H1) rfl, ?_⟩ | refine ⟨cell_blk (R1) rfl, ?_⟩)); exact trivial), ?_⟩)
  refine ⟨rfl, rfl, canset_blk H1 rfl, fun h2 s2 => ?_⟩
  have H2 : ActAt h2 ab ⟨rb', 3, 300, vl, ok', mk, ov⟩ := s2.put H1
  have c2 := s2.chg (l := [(ab, 380)]) H1 (.head _)
  exact ⟨rfl, H2, M1.chg c2 (by simp) (by simp) (by simp), (c1.mono (by first | (simp; done) | (intro p hp; simp [hp]; done) | (simp [ML]; done) | (intro p hp; simp [ML] at hp ⊢; rcases hp with h | h | h <;> simp [h]; done))).trans (c2.mono (by first | (simp; done) | (intro p hp; simp [hp]; done) | (simp [ML]; done) | (intro p hp; simp [ML] at hp ⊢; rcases hp with h | h | h <;> simp [h]; done)))⟩
theorem rMove_in (H : RingAt h rb mb R) (h3 : R.ic < 1000000) (h5 : R.ia < 1000000) (h6 : 0 < R.size) (h7 : R.size < 1000000) : HCalls Tryz.prog 301 #[.pointer (some ⟨rb, 3, none⟩), .int .i64 R.size] h (fun v h' => v = .tuple #[] ∧ RingAt h' rb mb { R with ic := R.ic + 1, ia := (R.ia + 1) % R.size } ∧ Chg [(rb, 252)] h h') := by
  refine xcalls env0 Tryz.func301 rfl (by kernel_rfl) rfl (by kernel_rfl) ?_
  repeat (first | refine ⟨_, cell_blk (H) rfl, ?_⟩)
  refine ⟨rfl, rfl, canset_blk H rfl, fun h1 s1 => ?_⟩
  have H1 : RingAt h1 rb mb { R with ic := R.ic + 1 } := by
    have := s1.put H
    rw [show IntKind.u64.wrap ((R.ic : Int) + 1) = ((R.ic + 1 : Nat) : Int) by rw [wrap_u64 (by omega) (by omega)]; omega] at this
    exact this
  repeat (first | refine ⟨_, cell_blk (H1) rfl, ?_⟩)
  refine ⟨by show (R.size : Int) ≠ 0; omega, ?_⟩
  refine ⟨rfl, rfl, canset_blk H1 rfl, fun h2 s2 => ?_⟩
  have H2 : RingAt h2 rb mb { R with ic := R.ic + 1, ia := (R.ia + 1) % R.size } := by
    have := s2.put H1
    rw [wrap_add1 R.ia (by omega), Int.tmod_eq_emod_of_nonneg (by omega), ← Int.natCast_emod] at this
    exact this
  exact ⟨rfl, H2, (s1.chg H (.head _)).trans (s2.chg H1 (.head _))⟩
theorem rMove_out (H : RingAt h rb mb R) (h3 : R.oc < 1000000) (h5 : R.oa < 1000000) (h6 : 0 < R.size) (h7 : R.size < 1000000) : HCalls Tryz.prog 301 #[.pointer (some ⟨rb, 6, none⟩), .int .i64 R.size] h (fun v h' => v = .tuple #[] ∧ RingAt h' rb mb { R with oc := R.oc + 1, oa := (R.oa + 1) % R.size } ∧ Chg [(rb, 252)] h h') := by
  refine xcalls env0 Tryz.func301 rfl (by kernel_rfl) rfl (by kernel_rfl) ?_
  repeat (first | refine ⟨_, cell_blk (H) rfl, ?_⟩)
  refine ⟨rfl, rfl, canset_blk H rfl, fun h1 s1 => ?_⟩
  have H1 : RingAt h1 rb mb { R with oc := R.oc + 1 } := by
    have := s1.put H
    rw [show IntKind.u64.wrap ((R.oc : Int) + 1) = ((R.oc + 1 : Nat) : Int) by rw [wrap_u64 (by omega) (by omega)]; omega] at this
    exact this
  repeat (first | refine ⟨_, cell_blk (H1) rfl, ?_⟩)
  refine ⟨by show (R.size : Int) ≠ 0; omega, ?_⟩
  refine ⟨rfl, rfl, canset_blk H1 rfl, fun h2 s2 => ?_⟩
  have H2 : RingAt h2 rb mb { R with oc := R.oc + 1, oa := (R.oa + 1) % R.size } := by
    have := s2.put H1
    rw [wrap_add1 R.oa (by omega), Int.tmod_eq_emod_of_nonneg (by omega), ← Int.natCast_emod] at this
    exact this
  exact ⟨rfl, H2, (s1.chg H (.head _)).trans (s2.chg H1 (.head _))⟩
theorem rTell_spec (H : ActAt h ab A) (HR : RingAt h A.rb mb R) (HM : MemAt h mb cb lb M) (he : A.e = 3) (hi : R.base < M.cells.length) (h3 : R.ic < 1000000) (h5 : R.ia < 1000000) (h6 : 0 < R.size) (h7 : R.size < 1000000) (h4 : M.cells.length < 100000000) (ht : M.t < 1000000) :
    HCalls Tryz.prog 300 #[.pointer (some ⟨ab, 0, none⟩)] h (fun v h' => v = .bool true ∧ ActAt h' ab { A with ok := true, mark := (M.t + 1 : Nat) } ∧ RingAt h' A.rb mb { R with ic := R.ic + 1, ia := (R.ia + 1) % R.size } ∧ MemAt h' mb cb lb { M with cells := M.cells.set R.base ((R.ic + 1 : Nat) : Int), t := M.t + 1 } ∧ Chg ((ab, 380) :: (A.rb, 252) :: ML mb cb lb) h h') := by
  refine xcalls env_rTell Tryz.func300 rfl (by kernel_rfl) rfl (by kernel_rfl) ?_
  obtain ⟨rb', e', nx, vl, ok', mk, ov⟩ := A
  simp only at he
  subst he
  have nr : ab ≠ rb' := blk_ne H HR (by decide)
  repeat (first | refine ⟨_, cell_blk (H) rfl, ?_⟩ | refine ⟨_, cell_blk (HR) rfl, ?_⟩)
  refine (rMove_in HR h3 h5 h6 h7).mono ?_
  rintro v h1 ⟨rfl, R1, c1⟩
  have H1 := c1.blk H (by simp)
  have M1 := HM.chg c1 (by simp) (by simp) (by simp)
  try (refine ⟨by ((repeat (first | refine ⟨cell_blk (H1) rfl, ?_⟩ | refine ⟨cell_blk (R1) rfl, ?_⟩)); exact trivial), ?_⟩)
  repeat (first | refine ⟨_, cell_blk (H1) rfl, ?_⟩ | refine ⟨_, cell_blk (R1) rfl, ?_⟩)
  refine (mStore_at M1 (i := R.base) (wrap_add0 R.base (by omega)) rfl hi ht).mono ?_
  rintro v h2 ⟨rfl, M2, c2⟩
  have H2 := c2.blk H1 (by simp [ML])
  have R2 := c2.blk R1 (by simp [ML])
  try (refine ⟨by ((repeat (first | refine ⟨cell_blk (H2) rfl, ?_⟩ | refine ⟨cell_blk (R2) rfl, ?_⟩)); exact trivial), ?_⟩)
  refine (rDone_spec H2 R2 M2 true).mono ?_
  rintro v h3 ⟨rfl, H3, c3⟩
  exact ⟨rfl, H3, c3.blk R2 (by simp), M2.chg c3 (by simp) (by simp) (by simp), ((c1.mono (by first | (simp; done) | (intro p hp; simp [hp]; done) | (simp [ML]; done) | (intro p hp; simp [ML] at hp ⊢; rcases hp with h | h | h <;> simp [h]; done))).trans (c2.mono (by first | (simp; done) | (intro p hp; simp [hp]; done) | (simp [ML]; done) | (intro p hp; simp [ML] at hp ⊢; rcases hp with h | h | h <;> simp [h]; done)))).trans (c3.mono (by first | (simp; done) | (intro p hp; simp [hp]; done) | (simp [ML]; done) | (intro p hp; simp [ML] at hp ⊢; rcases hp with h | h | h <;> simp [h]; done)))⟩
theorem rSome_spec (H : ActAt h ab A) (HR : RingAt h A.rb mb R) (HM : MemAt h mb cb lb M) (he : A.e = 6) {a : Nat} (ha : M.cells[R.base]? = some (a : Int)) (h1 : R.oc < a) (h4 : M.cells.length < 100000000) (ht : M.t < 1000000) :
    HCalls Tryz.prog 273 #[.pointer (some ⟨ab, 0, none⟩)] h (fun v h' => v = .bool false ∧ ActAt h' ab { A with next := 283 } ∧ MemAt h' mb cb lb { M with t := M.t + 1 } ∧ Chg [(ab, 380), (mb, 205)] h h') := by
  refine xcalls env_rSome Tryz.func273 rfl (by kernel_rfl) rfl (by kernel_rfl) ?_
  obtain ⟨rb', e', nx, vl, ok', mk, ov⟩ := A
  simp only at he
  subst he
  have b1 := HM.base_lt ha
  repeat (first | refine ⟨_, cell_blk (H) rfl, ?_⟩ | refine ⟨_, cell_blk (HR) rfl, ?_⟩)
  refine (mLoad_at HM (wrap_add0 R.base (by omega)) ha ht).mono ?_
  rintro v h1 ⟨rfl, M1, c1⟩
  have H1 := c1.blk H (by simp)
  have R1 := c1.blk HR (by simp)
  try (refine ⟨by ((repeat (first | refine ⟨cell_blk (H1) rfl, ?_⟩ | refine ⟨cell_blk (R1) rfl, ?_⟩)); exact trivial), ?_⟩)
  repeat (first | refine ⟨_, cell_blk (H1) rfl, ?_⟩ | refine ⟨_, cell_blk (R1) rfl, ?_⟩)
  refine xif_false ?_ ?_
  · show ((a : Int) == (R.oc : Int)) = false
    rw [beq_eq_false_iff_ne]
    omega
  refine ⟨rfl, rfl, canset_blk H1 rfl, fun h2 s2 => ?_⟩
  have H2 : ActAt h2 ab ⟨rb', 6, 283, vl, ok', mk, ov⟩ := s2.put H1
  have c2 := s2.chg (l := [(ab, 380), (mb, 205)]) H1 (.head _)
  exact ⟨rfl, H2, M1.chg (s2.chg (l := [(ab, 380)]) H1 (.head _)) (by simp) (by simp) (by simp), (c1.mono (by first | (simp; done) | (intro p hp; simp [hp]; done) | (simp [ML]; done) | (intro p hp; simp [ML] at hp ⊢; rcases hp with h | h | h <;> simp [h]; done))).trans c2⟩
theorem rGet_spec (H : ActAt h ab A) (HR : RingAt h A.rb mb R) (HM : MemAt h mb cb lb M) (he : A.e = 6) {x : Int} (hx : M.cells[R.base + (2 + R.oa)]? = some x) (h4 : M.cells.length < 100000000) (ht : M.t < 1000000) :
    HCalls Tryz.prog 283 #[.pointer (some ⟨ab, 0, none⟩)] h (fun v h' => v = .bool false ∧ ActAt h' ab { A with next := 292, value := x } ∧ MemAt h' mb cb lb { M with t := M.t + 1 } ∧ Chg [(ab, 380), (mb, 205)] h h') := by
  refine xcalls env_rGet Tryz.func283 rfl (by kernel_rfl) rfl (by kernel_rfl) ?_
  obtain ⟨rb', e', nx, vl, ok', mk, ov⟩ := A
  simp only at he
  subst he
  have b1 := HM.base_lt hx
  repeat (first | refine ⟨_, cell_blk (H) rfl, ?_⟩ | refine ⟨_, cell_blk (HR) rfl, ?_⟩)
  refine (mLoad_at HM (i := R.base + (2 + R.oa)) ?_ hx ht).mono ?_
  · rw [wrap_i64 (x := (R.base : Int) + 2) (by omega) (by omega), wrap_i64 (by omega) (by omega)]
    omega
  rintro v h1 ⟨rfl, M1, c1⟩
  have H1 := c1.blk H (by simp)
  have R1 := c1.blk HR (by simp)
  try (refine ⟨by ((repeat (first | refine ⟨cell_blk (H1) rfl, ?_⟩ | refine ⟨cell_blk (R1) rfl, ?_⟩)); exact trivial), ?_⟩)
  refine ⟨rfl, rfl, canset_blk H1 rfl, fun h2 s2 => ?_⟩
  have H2 : ActAt h2 ab ⟨rb', 6, nx, x, ok', mk, ov⟩ := s2.put H1
  have c2 := s2.chg (l := [(ab, 380)]) H1 (.head _)
  refine ⟨rfl, rfl, canset_blk H2 rfl, fun h3 s3 => ?_⟩
  have H3 : ActAt h3 ab ⟨rb', 6, 292, x, ok', mk, ov⟩ := s3.put H2
  have c3 := s3.chg (l := [(ab, 380)]) H2 (.head _)
  have c4 := c2.trans c3
  exact ⟨rfl, H3, M1.chg c4 (by simp) (by simp) (by simp), (c1.mono (by first | (simp; done) | (intro p hp; simp [hp]; done) | (simp [ML]; done) | (intro p hp; simp [ML] at hp ⊢; rcases hp with h | h | h <;> simp [h]; done))).trans (c4.mono (by first | (simp; done) | (intro p hp; simp [hp]; done) | (simp [ML]; done) | (intro p hp; simp [ML] at hp ⊢; rcases hp with h | h | h <;> simp [h]; done)))⟩
theorem rLeave_spec (H : ActAt h ab A) (HR : RingAt h A.rb mb R) (HM : MemAt h mb cb lb M) (he : A.e = 6) (hi : R.base + 1 < M.cells.length) (h4 : M.cells.length < 100000000) (h3 : R.oc < 1000000) (h5 : R.oa < 1000000) (h6 : 0 < R.size) (h7 : R.size < 1000000) (ht : M.t < 1000000) :
    HCalls Tryz.prog 292 #[.pointer (some ⟨ab, 0, none⟩)] h (fun v h' => v = .bool true ∧ ActAt h' ab { A with ok := true, mark := (M.t + 1 : Nat) } ∧ RingAt h' A.rb mb { R with oc := R.oc + 1, oa := (R.oa + 1) % R.size } ∧ MemAt h' mb cb lb { M with cells := M.cells.set (R.base + 1) ((R.oc + 1 : Nat) : Int), t := M.t + 1 } ∧ Chg ((ab, 380) :: (A.rb, 252) :: ML mb cb lb) h h') := by
  refine xcalls env_rLeave Tryz.func292 rfl (by kernel_rfl) rfl (by kernel_rfl) ?_
  obtain ⟨rb', e', nx, vl, ok', mk, ov⟩ := A
  simp only at he
  subst he
  repeat (first | refine ⟨_, cell_blk (H) rfl, ?_⟩ | refine ⟨_, cell_blk (HR) rfl, ?_⟩)
  refine (rMove_out HR h3 h5 h6 h7).mono ?_
  rintro v h1 ⟨rfl, R1, c1⟩
  have H1 := c1.blk H (by simp)
  have M1 := HM.chg c1 (by simp) (by simp) (by simp)
  try (refine ⟨by ((repeat (first | refine ⟨cell_blk (H1) rfl, ?_⟩ | refine ⟨cell_blk (R1) rfl, ?_⟩)); exact trivial), ?_⟩)
  repeat (first | refine ⟨_, cell_blk (H1) rfl, ?_⟩ | refine ⟨_, cell_blk (R1) rfl, ?_⟩)
  refine (mStore_at M1 (i := R.base + 1) (wrap_add1 R.base (by omega)) rfl hi ht).mono ?_
  rintro v h2 ⟨rfl, M2, c2⟩
  have H2 := c2.blk H1 (by simp [ML])
  have R2 := c2.blk R1 (by simp [ML])
  try (refine ⟨by ((repeat (first | refine ⟨cell_blk (H2) rfl, ?_⟩ | refine ⟨cell_blk (R2) rfl, ?_⟩)); exact trivial), ?_⟩)
  refine (rDone_spec H2 R2 M2 true).mono ?_
  rintro v h3 ⟨rfl, H3, c3⟩
  exact ⟨rfl, H3, c3.blk R2 (by simp), M2.chg c3 (by simp) (by simp) (by simp), ((c1.mono (by first | (simp; done) | (intro p hp; simp [hp]; done) | (simp [ML]; done) | (intro p hp; simp [ML] at hp ⊢; rcases hp with h | h | h <;> simp [h]; done))).trans (c2.mono (by first | (simp; done) | (intro p hp; simp [hp]; done) | (simp [ML]; done) | (intro p hp; simp [ML] at hp ⊢; rcases hp with h | h | h <;> simp [h]; done)))).trans (c3.mono (by first | (simp; done) | (intro p hp; simp [hp]; done) | (simp [ML]; done) | (intro p hp; simp [ML] at hp ⊢; rcases hp with h | h | h <;> simp [h]; done)))⟩
theorem Stored.same {a : Addr} {vs ws : List Value} {T : TypeId} {h h' : Heap} (s : Stored h a vs h') (hb : h[a.block]? = some (.cells ws.toArray T (0, 0))) (e : lset ws a.off vs = ws) : h' = h := by
  refine Array.ext s.size fun i h1 h2 => ?_
  have hk : h'[i]? = h[i]? := by
    by_cases e' : i = a.block
    · subst e'
      rw [s.this _ _ _ hb, wr_list, e, hb]
    · exact s.other i e'
  rw [Array.getElem?_eq_getElem h1, Array.getElem?_eq_getElem h2] at hk
  exact Option.some.inj hk
/-- A step that isn't the last one. -/
theorem rStep_go {K : Heap → Prop} (H : ActAt h ab A) (ho : A.over = false) (hn : HCalls Tryz.prog A.next #[.pointer (some ⟨ab, 0, none⟩)] h (fun v h' => v = .bool false ∧ (∃ A' : AS, A'.over = false ∧ ActAt h' ab A') ∧ K h')) :
    HCalls Tryz.prog 255 #[.pointer (some ⟨ab, 0, none⟩)] h (fun v h' => v = .bool false ∧ K h') := by
  refine xcalls env0 Tryz.func255 rfl (by kernel_rfl) rfl (by kernel_rfl) ?_
  refine (rOver_spec H).mono ?_
  rintro v h1 ⟨rfl, rfl⟩
  refine xif_false ho ?_
  repeat (first | refine ⟨_, cell_blk (H) rfl, ?_⟩)
  refine hn.mono ?_
  rintro v h2 ⟨rfl, ⟨A', ho', H2⟩, k⟩
  obtain ⟨rb', e', nx, vl, ok', mk, ov⟩ := A'
  simp only at ho'
  subst ho'
  refine ⟨rfl, rfl, canset_blk H2 rfl, fun h3 s3 => ?_⟩
  have e : h3 = h2 := s3.same H2 rfl
  subst e
  repeat (first | refine ⟨_, cell_blk (H2) rfl, ?_⟩)
  exact ⟨rfl, k⟩
/-- The last step of a put. -/
theorem rStep_put {K : AS → RS → Heap → Prop} (H : ActAt h ab A) (ho : A.over = false) (hn : HCalls Tryz.prog A.next #[.pointer (some ⟨ab, 0, none⟩)] h (fun v h' => v = .bool true ∧ ∃ A' R', A'.over = false ∧ A'.e = 3 ∧ ActAt h' ab A' ∧ RingAt h' A'.rb mb R' ∧ K A' R' h')) :
    HCalls Tryz.prog 255 #[.pointer (some ⟨ab, 0, none⟩)] h (fun v h' => v = .bool true ∧ ∃ A' R' h1, K A' R' h1 ∧ ActAt h' ab { A' with over := true } ∧ RingAt h' A'.rb mb { R' with ib := false } ∧ Chg [(ab, 380), (A'.rb, 252)] h1 h') := by
  refine xcalls env0 Tryz.func255 rfl (by kernel_rfl) rfl (by kernel_rfl) ?_
  refine (rOver_spec H).mono ?_
  rintro v h1 ⟨rfl, rfl⟩
  refine xif_false ho ?_
  repeat (first | refine ⟨_, cell_blk (H) rfl, ?_⟩)
  refine hn.mono ?_
  rintro v h2 ⟨rfl, A', R', ho', he', H2, R2, k⟩
  obtain ⟨rb', e', nx, vl, ok', mk, ov⟩ := A'
  simp only at ho' he'
  subst ho'
  subst he'
  refine ⟨rfl, rfl, canset_blk H2 rfl, fun h3 s3 => ?_⟩
  have H3 : ActAt h3 ab ⟨rb', 3, nx, vl, ok', mk, true⟩ := s3.put H2
  have c3 := s3.chg (l := [(ab, 380)]) H2 (.head _)
  have R3 := c3.blk R2 (by simp)
  repeat (first | refine ⟨_, cell_blk (H3) rfl, ?_⟩)
  refine ⟨rfl, rfl, canset_blk R3 rfl, fun h4 s4 => ?_⟩
  have R4 : RingAt h4 rb' mb { R' with ib := false } := s4.put R3
  have c4 := s4.chg (l := [(rb', 252)]) R3 (.head _)
  have H4 := c4.blk H3 (by simp)
  repeat (first | refine ⟨_, cell_blk (H4) rfl, ?_⟩)
  exact ⟨rfl, _, R', h2, k, H4, R4, (c3.mono (by first | (simp; done) | (intro p hp; simp [hp]; done) | (simp [ML]; done) | (intro p hp; simp [ML] at hp ⊢; rcases hp with h | h | h <;> simp [h]; done))).trans (c4.mono (by first | (simp; done) | (intro p hp; simp [hp]; done) | (simp [ML]; done) | (intro p hp; simp [ML] at hp ⊢; rcases hp with h | h | h <;> simp [h]; done)))⟩
/-- The last step of a taking. -/
theorem rStep_got {K : AS → RS → Heap → Prop} (H : ActAt h ab A) (ho : A.over = false) (hn : HCalls Tryz.prog A.next #[.pointer (some ⟨ab, 0, none⟩)] h (fun v h' => v = .bool true ∧ ∃ A' R', A'.over = false ∧ A'.e = 6 ∧ ActAt h' ab A' ∧ RingAt h' A'.rb mb R' ∧ K A' R' h')) :
    HCalls Tryz.prog 255 #[.pointer (some ⟨ab, 0, none⟩)] h (fun v h' => v = .bool true ∧ ∃ A' R' h1, K A' R' h1 ∧ ActAt h' ab { A' with over := true } ∧ RingAt h' A'.rb mb { R' with ob := false } ∧ Chg [(ab, 380), (A'.rb, 252)] h1 h') := by
  refine xcalls env0 Tryz.func255 rfl (by kernel_rfl) rfl (by kernel_rfl) ?_
  refine (rOver_spec H).mono ?_
  rintro v h1 ⟨rfl, rfl⟩
  refine xif_false ho ?_
  repeat (first | refine ⟨_, cell_blk (H) rfl, ?_⟩)
  refine hn.mono ?_
  rintro v h2 ⟨rfl, A', R', ho', he', H2, R2, k⟩
  obtain ⟨rb', e', nx, vl, ok', mk, ov⟩ := A'
  simp only at ho' he'
  subst ho'
  subst he'
  refine ⟨rfl, rfl, canset_blk H2 rfl, fun h3 s3 => ?_⟩
  have H3 : ActAt h3 ab ⟨rb', 6, nx, vl, ok', mk, true⟩ := s3.put H2
  have c3 := s3.chg (l := [(ab, 380)]) H2 (.head _)
  have R3 := c3.blk R2 (by simp)
  repeat (first | refine ⟨_, cell_blk (H3) rfl, ?_⟩)
  refine ⟨rfl, rfl, canset_blk R3 rfl, fun h4 s4 => ?_⟩
  have R4 : RingAt h4 rb' mb { R' with ob := false } := s4.put R3
  have c4 := s4.chg (l := [(rb', 252)]) R3 (.head _)
  have H4 := c4.blk H3 (by simp)
  repeat (first | refine ⟨_, cell_blk (H4) rfl, ?_⟩)
  exact ⟨rfl, _, R', h2, k, H4, R4, (c3.mono (by first | (simp; done) | (intro p hp; simp [hp]; done) | (simp [ML]; done) | (intro p hp; simp [ML] at hp ⊢; rcases hp with h | h | h <;> simp [h]; done))).trans (c4.mono (by first | (simp; done) | (intro p hp; simp [hp]; done) | (simp [ML]; done) | (intro p hp; simp [ML] at hp ⊢; rcases hp with h | h | h <;> simp [h]; done)))⟩
end
end Go.Proofs.YtjjempefncgfhaaGreatDoorE
