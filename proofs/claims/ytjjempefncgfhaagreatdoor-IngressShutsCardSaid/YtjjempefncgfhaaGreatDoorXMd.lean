/- How a model lies in memory: its block, stands, VLANs, book, queues. Conditions: none. -/
import Derived.Test.YtjjempefncgfhaaGreatDoorXBk
import Derived.Test.YtjjempefncgfhaaGreatDoorXMap
import Derived.Test.YtjjempefncgfhaaGreatDoorXM12
set_option linter.unusedVariables false
set_option linter.unusedSimpArgs false
namespace Go.Proofs.YtjjempefncgfhaaGreatDoorE
open Go
/-! ### What is changed: some blocks, no others -/
structure Fr (X : Nat → Prop) (h h' : Heap) : Prop where
  size : h.size ≤ h'.size
  old : ∀ k, k < h.size → ¬ X k → h'[k]? = h[k]?
section
variable {X Y : Nat → Prop} {h0 h h' h'' : Heap}
theorem Ext.fr (x : Ext h h') (X : Nat → Prop) : Fr X h h' := ⟨x.size, fun k hk _ => x.old k hk⟩
theorem Fr.trans (f : Fr X h h') (g : Fr Y h' h'') (hy : ∀ k, k < h.size → Y k → X k) : Fr X h h'' :=
  ⟨Nat.le_trans f.size g.size, fun k hk hx => (g.old k (Nat.lt_of_lt_of_le hk f.size) fun y => hx (hy k hk y)).trans (f.old k hk hx)⟩
theorem Fr.mono (f : Fr X h h') (hx : ∀ k, k < h.size → X k → Y k) : Fr Y h h' := ⟨f.size, fun k hk hy => f.old k hk fun x => hy (hx k hk x)⟩
theorem KeepA.fr {b : Nat} (k : KeepA (some ⟨b, 0, none⟩) h h') (hb : X b) : Fr X h h' := ⟨k.size, fun j hj hx => k.old j hj fun e => by cases e; exact hx hb⟩
theorem KeepA.fr' {A : Option Addr} (k : KeepA A h h') (hb : ∀ b, A = some ⟨b, 0, none⟩ → X b) : Fr X h h' := ⟨k.size, fun j hj hx => k.old j hj fun e => hx (hb j e)⟩
theorem Remapped.fr {b : Nat} (r : Remapped h b h') (hb : X b) : Fr X h h' := ⟨Nat.le_of_eq r.size.symm, fun k hk hx => r.other k fun e => hx (e ▸ hb)⟩
theorem Stored.fr {a : Addr} {vs : List Value} (s : Stored h a vs h') (hb : X a.block) : Fr X h h' := ⟨Nat.le_of_eq s.size.symm, fun k hk hx => s.other k fun e => hx (e ▸ hb)⟩
theorem Fr.blk (f : Fr X h h') {b : Nat} {o : Obj} (H : h[b]? = some o) (hb : ¬ X b) : h'[b]? = some o := (f.old b (blk_lt H) hb).trans H
theorem Fr.ext (f : Fr X h h') (x : Ext h0 h) (hX : ∀ k, X k → h0.size ≤ k) : Ext h0 h' :=
  ⟨Nat.le_trans x.size f.size, fun k hk => (f.old k (Nat.lt_of_lt_of_le hk x.size) fun hx => by have := hX k hx; omega).trans (x.old k hk)⟩
theorem OwnA.fr {α : Type} {enc : α → List Value} {sz : Nat} {T : TypeId} {base c : Nat} {A : Option Addr} {xs : List α} (H : OwnA enc sz T base h A c xs) (f : Fr X h h') (hX : ∀ b, A = some ⟨b, 0, none⟩ → ¬ X b) : OwnA enc sz T base h' A c xs := by
  rcases H with H | ⟨b, rest, e, hg, hb, r⟩
  · exact .inl H
  · exact .inr ⟨b, rest, e, hg, f.blk hb (hX b e), r⟩
/-- No block of type T is among those that are changed. -/
def Off (X : Nat → Prop) (h : Heap) (T : TypeId) : Prop := ∀ k c e g, X k → h[k]? = some (.cells c e g) → e ≠ T
theorem Off.not {T : TypeId} (o : Off X h T) {b : Nat} {c : Array Value} {g : Nat × Nat} (H : h[b]? = some (.cells c T g)) : ¬ X b := fun hx => o b c T g hx H rfl
theorem OwnA.frT {α : Type} {enc : α → List Value} {sz : Nat} {T : TypeId} {base c : Nat} {A : Option Addr} {xs : List α} (H : OwnA enc sz T base h A c xs) (f : Fr X h h') (o : Off X h T) : OwnA enc sz T base h' A c xs := by
  rcases H with H | ⟨b, rest, e, hg, hb, r⟩
  · exact .inl H
  · exact .inr ⟨b, rest, e, hg, f.blk hb (o.not hb), r⟩
theorem BkAt.frT {tB tS tP : TypeId} {base b tb : Nat} {s : Sz} {L : List (List Place)} (H : BkAt tB tS tP base h b tb s L) (f : Fr X h h') (o1 : Off X h tB) (o2 : Off X h tS) (o3 : Off X h tP) : BkAt tB tS tP base h' b tb s L := by
  obtain ⟨cap, R, hb, ho, hk⟩ := H.holds
  exact ⟨H.ge, cap, R, f.blk hb (o1.not hb), ho.frT f o2, hk.1, fun i r l hr hl => ⟨(hk.2 i r l hr hl).1, (hk.2 i r l hr hl).2.frT f o3⟩⟩
end
/-! ### Lists elsewhere, as they are read -/
theorem reads_app {h : Heap} {a : Addr} {us vs : List Value} (h1 : Reads h a us) (h2 : Reads h (a.add us.length) vs) : Reads h a (us ++ vs) := by
  intro j v hj
  rcases Nat.lt_or_ge j us.length with hlt | hge
  · rw [List.getElem?_append_left hlt] at hj
    exact h1 j v hj
  · rw [List.getElem?_append_right hge] at hj
    have := h2 _ v hj
    rw [add_add] at this
    have e : us.length + (j - us.length) = j := by omega
    rw [e] at this
    exact this
theorem add_zero' (a : Addr) : a.add 0 = a := by simp [Addr.add]
theorem row_tail {α : Type} {enc : α → List Value} {sz : Nat} {h : Heap} {a : Addr} {x : α} {xs : List α} (H : Row enc sz h (some a) (x :: xs)) : Reads h a (enc x) ∧ Row enc sz h (some (a.add sz)) xs := by
  constructor
  · obtain ⟨b, hb, hr⟩ := H 0 x rfl
    cases hb
    rw [Nat.zero_mul, add_zero'] at hr
    exact hr
  · intro i y hy
    obtain ⟨b, hb, hr⟩ := H (i + 1) y (by simpa using hy)
    cases hb
    refine ⟨_, rfl, ?_⟩
    rw [add_add, show sz + i * sz = (i + 1) * sz from by rw [Nat.succ_mul]; omega]
    exact hr
theorem row_reads {α : Type} {enc : α → List Value} {sz : Nat} {h : Heap} (hl : ∀ x, (enc x).length = sz) : ∀ {a : Addr} {xs : List α}, Row enc sz h (some a) xs → Reads h a (xs.flatMap enc)
  | a, [], _ => fun j v hj => by simp at hj
  | a, x :: xs, H => by
    obtain ⟨h1, h2⟩ := row_tail H
    rw [List.flatMap_cons]
    exact reads_app h1 (by rw [hl]; exact row_reads hl h2)
theorem row_readsOf {α : Type} {enc : α → List Value} {sz : Nat} {h : Heap} (hl : ∀ x, (enc x).length = sz) {A : Option Addr} {xs : List α} (H : Row enc sz h A xs) : readsOf h A (xs.flatMap enc) := by
  cases A with
  | none =>
    cases xs with
    | nil => rfl
    | cons x xs => obtain ⟨b, hb, _⟩ := H 0 x rfl; cases hb
  | some a => exact row_reads hl H
/-- One more element behind a list of one's own: in its block, or in a new one. -/
theorem xappend_one' {α : Type} {enc : α → List Value} {sz bytes base b n : Nat} {P : Program} {T : TypeId} {zs : List Value} {h h1 : Heap} {A : Option Addr} {c : Nat} {xs : List α} {x : α} {K : Value → Heap → Prop}
    (hi : (P.info? T).map (fun i => (i.size, i.bytes)) = some (sz, bytes)) (hz : xzero P T = some zs) (hzl : zs.length = sz) (hpos : 0 < bytes) (hl : ∀ x, (enc x).length = sz) (hone : ∀ x, (enc x).all Value.oneCell' = true)
    (own : OwnA enc sz T base h A c xs) (n1 : New h h1 b (.cells (enc x).toArray T)) (hn : xs.length = n) (fit : (n + 1) * bytes ≤ 140737488355328) (hbase : base ≤ h.size)
    (hk : ∀ A' c' h', OwnA enc sz T base h' A' c' (xs ++ [x]) → KeepA A h h' → (A' = A ∨ ∃ b, A' = some ⟨b, 0, none⟩ ∧ h.size ≤ b) → K (.slice A' (n + 1) c') h') : XAppend P T h1 A n c (some ⟨b, 0, none⟩) 1 K := by
  subst hn
  cases hinf : P.info? T with
  | none => rw [hinf] at hi; cases hi
  | some i =>
    rw [hinf] at hi
    simp only [Option.map_some, Option.some.injEq, Prod.mk.injEq] at hi
    obtain ⟨rfl, rfl⟩ := hi
    have own1 := own.ext n1.ext
    have hfm : [x].flatMap enc = enc x := by simp
    refine ⟨i, zs, xs.flatMap enc, [x].flatMap enc, hinf, hz, own1.appendOk hl rfl fit hpos (by rw [hfm]; exact reads_all n1.this) (by rw [hfm]; exact hone x), ?_, ?_, ?_⟩
    · intro hroom hA
      rcases own with ⟨_, rfl, rfl⟩ | ⟨b', _, e, _⟩
      · simp at hroom
      · rw [hA] at e; cases e
    · intro hroom a h' hA s
      refine hA ▸ hk A c h' (own1.appended hl rfl hA hroom s) ?_ (.inl rfl)
      rcases own with ⟨e, _⟩ | ⟨b', _, e, _⟩
      · rw [hA] at e; cases e
      · rw [hA] at e; cases e
        rw [add_lit] at s
        rw [hA]
        exact (n1.ext.keepA _).trans s.keepA
    · intro hlt cap b' h' hcap n2
      exact hk _ cap h' (OwnA.grown rfl rfl hzl hcap n2 (Nat.le_trans hbase n1.ext.size)) ((n1.ext.trans n2.ext).keepA _) (.inr ⟨b', rfl, n2.ge n1.ext⟩)
theorem xappend_own {α : Type} {enc : α → List Value} {sz bytes base n m : Nat} {P : Program} {T : TypeId} {zs : List Value} {h : Heap} {A B : Option Addr} {c : Nat} {xs ys : List α} {K : Value → Heap → Prop}
    (hi : (P.info? T).map (fun i => (i.size, i.bytes)) = some (sz, bytes)) (hz : xzero P T = some zs) (hzl : zs.length = sz) (hpos : 0 < bytes) (hl : ∀ x, (enc x).length = sz) (hone : ∀ x, (enc x).all Value.oneCell' = true)
    (own : OwnA enc sz T base h A c xs) (hn : xs.length = n) (hm : ys.length = m) (hm0 : 0 < m) (ry : readsOf h B (ys.flatMap enc)) (fit : (n + m) * bytes ≤ 140737488355328) (hbase : base ≤ h.size)
    (hk : ∀ A' c' h', OwnA enc sz T base h' A' c' (xs ++ ys) → KeepA A h h' → (A' = A ∨ ∃ b, A' = some ⟨b, 0, none⟩ ∧ h.size ≤ b) → K (.slice A' (n + m) c') h') : XAppend P T h A n c B m K := by
  subst hn
  subst hm
  cases hinf : P.info? T with
  | none => rw [hinf] at hi; cases hi
  | some i =>
    rw [hinf] at hi
    simp only [Option.map_some, Option.some.injEq, Prod.mk.injEq] at hi
    obtain ⟨rfl, rfl⟩ := hi
    have hall : (ys.flatMap enc).all Value.oneCell' = true := by
      rw [List.all_flatMap, List.all_eq_true]
      exact fun x _ => hone x
    refine ⟨i, zs, xs.flatMap enc, ys.flatMap enc, hinf, hz, own.appendOk hl rfl fit hpos ry hall, ?_, ?_, ?_⟩
    · intro hroom hA
      rcases own with ⟨_, rfl, rfl⟩ | ⟨b', _, e, _⟩
      · simp at hroom; subst hroom; simp at hm0
      · rw [hA] at e; cases e
    · intro hroom a h' hA s
      refine hA ▸ hk A c h' (own.appended hl rfl hA hroom s) ?_ (.inl rfl)
      rcases own with ⟨e, _⟩ | ⟨b', _, e, _⟩
      · rw [hA] at e; cases e
      · rw [hA] at e; cases e
        rw [add_lit] at s
        rw [hA]
        exact s.keepA
    · intro hlt cap b' h' hcap n2
      exact hk _ cap h' (OwnA.grown rfl rfl hzl hcap n2 hbase) (n2.ext.keepA _) (.inr ⟨b', rfl, n2.ge (Ext.refl _)⟩)
/-! ### Maps -/
section
variable {α β : Type} [DecidableEq α]
theorem get_put (k k' : α) (v : β) : ∀ es : List (α × β), getE k' (putE k v es) = if k' = k then some v else getE k' es
  | [] => by simp only [putE, getE]
  | e :: es => by
    simp only [putE]
    by_cases h : k = e.1
    · rw [if_pos h]
      simp only [getE]
      by_cases h' : k' = k
      · rw [if_pos h', if_pos h']
      · rw [if_neg h', if_neg h', if_neg (by rw [← h]; exact h')]
    · rw [if_neg h]
      simp only [getE]
      by_cases h' : k' = e.1
      · rw [if_pos h', if_pos h', if_neg (by rw [h']; exact fun e' => h e'.symm)]
      · rw [if_neg h', if_neg h', get_put k k' v es]
theorem put_keys {k : α} {v : β} : ∀ {es : List (α × β)}, (∀ x, x ∈ (putE k v es).map (·.1) → x = k ∨ x ∈ es.map (·.1))
  | [], x, hx => by simp [putE] at hx; exact .inl hx
  | e :: es, x, hx => by
    simp only [putE] at hx
    split at hx
    · rename_i h
      rw [List.map_cons, List.mem_cons] at hx
      rcases hx with hx | hx
      · exact .inl hx
      · exact .inr (List.mem_cons_of_mem _ hx)
    · rw [List.map_cons, List.mem_cons] at hx
      rcases hx with hx | hx
      · exact .inr (by rw [hx]; exact List.mem_cons_self)
      · exact (put_keys x hx).imp id fun h => List.mem_cons_of_mem _ h
theorem put_nodup {k : α} {v : β} : ∀ {es : List (α × β)}, (es.map (·.1)).Nodup → ((putE k v es).map (·.1)).Nodup
  | [], _ => by simp [putE]
  | e :: es, h => by
    rw [List.map_cons, List.nodup_cons] at h
    simp only [putE]
    split
    · rename_i hk
      rw [List.map_cons, List.nodup_cons]
      exact ⟨by rw [hk]; exact h.1, h.2⟩
    · rename_i hk
      rw [List.map_cons, List.nodup_cons]
      exact ⟨fun hx => (put_keys _ hx).elim (fun e' => hk e'.symm) h.1, put_nodup h.2⟩
theorem getE_mem {k : α} {v : β} : ∀ {es : List (α × β)}, getE k es = some v → (k, v) ∈ es
  | [], h => by cases h
  | e :: es, h => by
    simp only [getE] at h
    split at h
    · rename_i hk
      cases h
      subst hk
      exact List.mem_cons_self
    · exact List.mem_cons_of_mem _ (getE_mem h)
theorem mem_getE {k : α} {v : β} : ∀ {es : List (α × β)}, (es.map (·.1)).Nodup → (k, v) ∈ es → getE k es = some v
  | e :: es, hn, h => by
    rw [List.map_cons, List.nodup_cons] at hn
    simp only [getE]
    rcases List.mem_cons.1 h with h | h
    · rw [← h, if_pos rfl]
    · rw [if_neg (by rintro rfl; exact hn.1 (List.mem_map.2 ⟨_, h, rfl⟩))]
      exact mem_getE hn.2 h
theorem xlookup_one {encK : α → Value} {encV : β → Value} {P : Program} {T : TypeId} (L : KeyLaw P T encK) {kind : TypeDesc} {M V : TypeId} {z : Value} {h : Heap} {b : Nat} {es : List (α × β)} {K : Value → (Heap → Prop) → Prop} (hu : P.underlying T = some kind) (hM : P.underlying M = some (.map T V))
    (hz : ∀ w, (zeroValue V).run P w = .ok z w) (hm : MapAt encK encV h b es) (k : α) (hk : ∀ F, (∀ h', MapAt encK encV h' b es → h'[b]? = h[b]? → F h') → K (match getE k es with | some v => encV v | none => z) F) :
    XGet P (Instr.lookup M (.map (some b)) (encK k) false) h K := by
  obtain ⟨E, clock, hb, hE, hS⟩ := hm
  refine ⟨_, fun h' => h'[b]? = some (.map E.toArray clock), hb, fun w hw => ?_, hk _ fun h' _ e => by rw [e]; exact hb⟩
  have hf := findKey_run L hu k hE w
  have hg := findE_get k es 0
  simp only [Instr.lookup, Sem.run_bind, run_underlying hM, Result.andThen_ok, getObj_run hw, Sem.run_pure, L.check, hf]
  cases hfe : findE k es 0 with
  | none =>
    rw [hfe] at hg
    simp only [Option.map_none] at hg ⊢
    simp [hz, ← hg]
  | some r =>
    rw [hfe] at hg
    simp only [Option.map_some] at hg ⊢
    simp [← hg]
end
/-! ### The model -/
def encPr (k : Int × Int) : Value := .agg #[.int .i64 k.1, .int .i64 k.2]
def encQv (r : Sl) : Value := .slice r.a r.n r.c
structure QEnts (base : Nat) (F : Nat → Prop) (h : Heap) (es : List ((Int × Int) × Sl)) (q : Int → Int → List Int) : Prop where
  some : ∀ k r, getE k es = some r → r.n = (q k.1 k.2).length ∧ OwnA encI 1 3 base h r.a r.c (q k.1 k.2) ∧ ∀ b, r.a = Option.some ⟨b, 0, Option.none⟩ → F b
  none : ∀ k, getE k es = none → q k.1 k.2 = []
  apart : ∀ k k' r r' b, getE k es = Option.some r → getE k' es = Option.some r' → r.a = Option.some ⟨b, 0, Option.none⟩ → r'.a = Option.some ⟨b, 0, Option.none⟩ → k = k'
  nd : (es.map (·.1)).Nodup
/-- What never changes of a model: where its parts are. -/
structure Dat where
  rules : Value
  pvl : Value
  sb : Nat
  cs : Nat
  va : Option Addr
  cv : Nat
  b : Nat
  tb : Nat
  mb : Nat
  cq : Nat
  rb : Nat → Nat
section
variable (tM tS tV tB tT tP : TypeId)
structure MdAt (base : Nat) (F : Nat → Prop) (h : Heap) (m : Nat) (D : Dat) (p : Pl) (M : Md) : Prop where
  ge : base ≤ m
  geF : ∀ b, F b → base ≤ b
  tyF : ∀ b, F b → ∃ c g, h[b]? = some (.cells c 3 g)
  geM : base ≤ D.mb
  blk : h[m]? = some (.cells [.int .i64 p.ports, D.rules, D.pvl, .int .i64 p.size.sh, .int .i64 p.size.bk, .int .i64 p.size.sl, .int .i64 p.tries, .int .i64 p.ring, .int .u32 p.normal, .int .u32 p.short, .slice (some ⟨D.sb, 0, none⟩) M.stands.length D.cs, .slice D.va M.vlans.length D.cv, .pointer (some ⟨D.b, 0, none⟩), .map (some D.mb)].toArray tM (0, 0))
  stands : OwnA encSn 2 tS base h (some ⟨D.sb, 0, none⟩) D.cs M.stands
  vlans : OwnA encVl 3 tV base h D.va D.cv M.vlans
  book : BkAt tB tT tP base h D.b D.tb p.size M.book
  queues : ∃ es, MapAt encPr encQv h D.mb es ∧ QEnts base F h es M.queues
/-- The blocks of a model that are changed. -/
def Dat.X (D : Dat) (F : Nat → Prop) (k : Nat) : Prop := k = D.sb ∨ D.va = some ⟨k, 0, none⟩ ∨ k = D.tb ∨ k = D.mb ∨ F k
end
section
variable {tM tS tV tB tT tP : TypeId} {base : Nat} {F : Nat → Prop} {h h' : Heap} {m : Nat} {D : Dat} {p : Pl} {M : Md}
theorem QEnts.ext {es : List ((Int × Int) × Sl)} {q : Int → Int → List Int} (H : QEnts base F h es q) (x : Ext h h') : QEnts base F h' es q :=
  ⟨fun k r hr => ⟨(H.some k r hr).1, (H.some k r hr).2.1.ext x, (H.some k r hr).2.2⟩, H.none, H.apart, H.nd⟩
theorem MdAt.ext (H : MdAt tM tS tV tB tT tP base F h m D p M) (x : Ext h h') : MdAt tM tS tV tB tT tP base F h' m D p M := by
  obtain ⟨es, hm, hq⟩ := H.queues
  obtain ⟨E, cl, hb, r⟩ := hm
  exact ⟨H.ge, H.geF, fun b hb => let ⟨c, g, e⟩ := H.tyF b hb; ⟨c, g, x.blk e⟩, H.geM, x.blk H.blk, H.stands.ext x, H.vlans.ext x, H.book.ext x, es, ⟨E, cl, x.blk hb, r⟩, hq.ext x⟩
theorem MdAt.geX (H : MdAt tM tS tV tB tT tP base F h m D p M) : ∀ k, D.X F k → base ≤ k := by
  rintro k (rfl | hk | rfl | rfl | hk)
  · exact H.stands.ge _ rfl
  · exact H.vlans.ge _ hk
  · exact H.book.table.1
  · exact H.geM
  · exact H.geF k hk
theorem MdAt.off (H : MdAt tM tS tV tB tT tP base F h m D p M) {T : TypeId} (h1 : tS ≠ T) (h2 : tV ≠ T) (h3 : tT ≠ T) (h4 : (3 : TypeId) ≠ T) : Off (D.X F) h T := by
  rintro k c e g hk hc
  have ofOwn : ∀ {α : Type} {enc : α → List Value} {sz : Nat} {T' : TypeId} {A : Option Addr} {cc : Nat} {xs : List α}, OwnA enc sz T' base h A cc xs → A = some ⟨k, 0, none⟩ → e = T' := by
    intro α enc sz T' A cc xs o hA
    rcases o with ⟨e1, _⟩ | ⟨b, rest, e1, _, hb, _⟩
    · rw [hA] at e1; cases e1
    · rw [hA] at e1; cases e1; exact ty_eq hc hb
  rcases hk with rfl | hk | rfl | rfl | hk
  · rw [ofOwn H.stands rfl]; exact h1
  · rw [ofOwn H.vlans hk]; exact h2
  · obtain ⟨_, cx, hx⟩ := H.book.table
    rw [ty_eq hc hx]; exact h3
  · obtain ⟨es, ⟨E, cl, hb, _⟩, _⟩ := H.queues
    rw [hb] at hc; cases hc
  · obtain ⟨c', g', hx⟩ := H.tyF k hk
    rw [ty_eq hc hx]; exact h4
theorem QEnts.fr {X : Nat → Prop} {es : List ((Int × Int) × Sl)} {q : Int → Int → List Int} (H : QEnts base F h es q) (f : Fr X h h') (hX : ∀ b, F b → ¬ X b) : QEnts base F h' es q :=
  ⟨fun k r hr => ⟨(H.some k r hr).1, (H.some k r hr).2.1.fr f fun b hb => hX b ((H.some k r hr).2.2 b hb), (H.some k r hr).2.2⟩, H.none, H.apart, H.nd⟩
theorem MdAt.mapNe (H : MdAt tM tS tV tB tT tP base F h m D p M) {k : Nat} {c : Array Value} {e : TypeId} {g : Nat × Nat} (hk : h[k]? = some (.cells c e g)) : k ≠ D.mb := by
  obtain ⟨es, hm, _⟩ := H.queues
  exact hm.ne hk
/-- One part is another one behind it: the rest stays where the changed block is of that part's type. -/
theorem MdAt.keepQ (H : MdAt tM tS tV tB tT tP base F h m D p M) {x : Nat} {cx : Array Value} {Tx : TypeId} {gx : Nat × Nat} (hx : h[x]? = some (.cells cx Tx gx)) (h3 : Tx ≠ 3) (f : Fr (fun k => k = x) h h') : ∃ es, MapAt encPr encQv h' D.mb es ∧ QEnts base F h' es M.queues := by
  obtain ⟨es, ⟨E, cl, hb, r⟩, hq⟩ := H.queues
  refine ⟨es, ⟨E, cl, f.blk hb ?_, r⟩, hq.fr f ?_⟩
  · exact fun e => H.mapNe hx e.symm
  · rintro b hF rfl
    obtain ⟨c, g, e⟩ := H.tyF b hF
    exact h3 (ty_eq hx e)
theorem MdAt.keepF (H : MdAt tM tS tV tB tT tP base F h m D p M) {x : Nat} {cx : Array Value} {Tx : TypeId} {gx : Nat × Nat} (hx : h[x]? = some (.cells cx Tx gx)) (h3 : Tx ≠ 3) (f : Fr (fun k => k = x) h h') : ∀ b, F b → ∃ c g, h'[b]? = some (.cells c 3 g) := by
  intro b hF
  obtain ⟨c, g, e⟩ := H.tyF b hF
  exact ⟨c, g, f.blk e (by rintro rfl; exact h3 (ty_eq hx e))⟩
theorem offOne {x : Nat} {cx : Array Value} {Tx T : TypeId} {gx : Nat × Nat} (hx : h[x]? = some (.cells cx Tx gx)) (hT : Tx ≠ T) : Off (fun k => k = x) h T := by
  rintro k c e g rfl hk
  rw [← ty_eq hx hk]; exact hT
theorem own_blk {α : Type} {enc : α → List Value} {sz : Nat} {T : TypeId} {b c : Nat} {xs : List α} (H : OwnA enc sz T base h (some ⟨b, 0, none⟩) c xs) : ∃ cx, h[b]? = some (.cells cx T (0, 0)) := by
  rcases H with ⟨e, _⟩ | ⟨b', rest, e, _, hb, _⟩
  · cases e
  · cases e; exact ⟨_, hb⟩
/-- The stands are others. -/
theorem MdAt.newStands (H : MdAt tM tS tV tB tT tP base F h m D p M) (d1 : tS ≠ tM) (d2 : tS ≠ tV) (d3 : tS ≠ tB) (d4 : tS ≠ tT) (d5 : tS ≠ tP) (d6 : tS ≠ 3) (f : Fr (fun k => k = D.sb) h h') {l : List Stn} (hl : l.length = M.stands.length) (ho : OwnA encSn 2 tS base h' (some ⟨D.sb, 0, none⟩) D.cs l) :
    MdAt tM tS tV tB tT tP base F h' m D p { M with stands := l } := by
  obtain ⟨cx, hx⟩ := own_blk H.stands
  refine ⟨H.ge, H.geF, H.keepF hx d6 f, H.geM, ?_, ho, H.vlans.frT f (offOne hx d2), H.book.frT f (offOne hx d3) (offOne hx d4) (offOne hx d5), H.keepQ hx d6 f⟩
  show h'[m]? = some (.cells [.int .i64 p.ports, D.rules, D.pvl, .int .i64 p.size.sh, .int .i64 p.size.bk, .int .i64 p.size.sl, .int .i64 p.tries, .int .i64 p.ring, .int .u32 p.normal, .int .u32 p.short, .slice (some ⟨D.sb, 0, none⟩) l.length D.cs, .slice D.va M.vlans.length D.cv, .pointer (some ⟨D.b, 0, none⟩), .map (some D.mb)].toArray tM (0, 0))
  rw [hl]
  exact f.blk H.blk ((offOne hx d1).not H.blk)
/-- The VLANs are others. -/
theorem MdAt.newVlans (H : MdAt tM tS tV tB tT tP base F h m D p M) (d1 : tV ≠ tM) (d2 : tV ≠ tS) (d3 : tV ≠ tB) (d4 : tV ≠ tT) (d5 : tV ≠ tP) (d6 : tV ≠ 3) {vb : Nat} (hv : D.va = some ⟨vb, 0, none⟩) (f : Fr (fun k => k = vb) h h') {l : List Vl} (hl : l.length = M.vlans.length) (ho : OwnA encVl 3 tV base h' D.va D.cv l) :
    MdAt tM tS tV tB tT tP base F h' m D p { M with vlans := l } := by
  obtain ⟨cx, hx⟩ := own_blk (hv ▸ H.vlans)
  refine ⟨H.ge, H.geF, H.keepF hx d6 f, H.geM, ?_, H.stands.frT f (offOne hx d2), ho, H.book.frT f (offOne hx d3) (offOne hx d4) (offOne hx d5), H.keepQ hx d6 f⟩
  show h'[m]? = some (.cells [.int .i64 p.ports, D.rules, D.pvl, .int .i64 p.size.sh, .int .i64 p.size.bk, .int .i64 p.size.sl, .int .i64 p.tries, .int .i64 p.ring, .int .u32 p.normal, .int .u32 p.short, .slice (some ⟨D.sb, 0, none⟩) M.stands.length D.cs, .slice D.va l.length D.cv, .pointer (some ⟨D.b, 0, none⟩), .map (some D.mb)].toArray tM (0, 0))
  rw [hl]
  exact f.blk H.blk ((offOne hx d1).not H.blk)
/-- The book is another one. -/
theorem MdAt.newBook (H : MdAt tM tS tV tB tT tP base F h m D p M) (d1 : tT ≠ tM) (d2 : tT ≠ tS) (d3 : tT ≠ tV) (d6 : tT ≠ 3) (f : Fr (fun k => k = D.tb) h h') {L : List (List Place)} (hb : BkAt tB tT tP base h' D.b D.tb p.size L) :
    MdAt tM tS tV tB tT tP base F h' m D p { M with book := L } := by
  obtain ⟨_, cx, hx⟩ := H.book.table
  exact ⟨H.ge, H.geF, H.keepF hx d6 f, H.geM, f.blk H.blk ((offOne hx d1).not H.blk), H.stands.frT f (offOne hx d2), H.vlans.frT f (offOne hx d3), hb, H.keepQ hx d6 f⟩
/-- A queue is another one. -/
theorem MdAt.newQueue (H : MdAt tM tS tV tB tT tP base F h m D p M) (d1 : tM ≠ 3) (d2 : tS ≠ 3) (d3 : tV ≠ 3) (d4 : tB ≠ 3) (d5 : tT ≠ 3) (d6 : tP ≠ 3) {es : List ((Int × Int) × Sl)} (hq : QEnts base F h es M.queues) {h2 h3 : Heap} {a b : Int} {l : List Int} {A A' : Option Addr} {c' : Nat}
    (hA : A = none ∨ ∃ r, getE (a, b) es = some r ∧ r.a = A) (k2 : KeepA A h h2) (own2 : OwnA encI 1 3 base h2 A' c' l) (hA' : A' = A ∨ A' = none ∨ ∃ b, A' = some ⟨b, 0, none⟩ ∧ h.size ≤ b)
    (m3 : MapAt encPr encQv h3 D.mb (putE (a, b) ⟨A', l.length, c'⟩ es)) (r3 : Remapped h2 D.mb h3) (m2 : MapAt encPr encQv h2 D.mb es) :
    ∃ F' : Nat → Prop, (∀ b, F' b → F b ∨ h.size ≤ b) ∧ MdAt tM tS tV tB tT tP base F' h3 m D p { M with queues := setQ M.queues a b l } ∧ Fr (D.X F) h h3 := by
  have hAF : ∀ b, A = some ⟨b, 0, none⟩ → F b := by
    intro b' hb'
    rcases hA with rfl | ⟨r, hr, rfl⟩
    · cases hb'
    · exact (hq.some _ r hr).2.2 b' hb'
  have fA : Fr (fun j => A = some ⟨j, 0, none⟩) h h2 := k2.fr' fun b hb => hb
  have offA : ∀ {T : TypeId}, T ≠ 3 → Off (fun j => A = some ⟨j, 0, none⟩) h T := by
    intro T hT k c e g hk hc
    obtain ⟨c', g', hx⟩ := H.tyF k (hAF k hk)
    rw [ty_eq hc hx]; exact hT.symm
  have fM : Fr (fun j => j = D.mb) h2 h3 := r3.fr rfl
  have offM : ∀ {T : TypeId}, Off (fun j => j = D.mb) h2 T := by
    rintro T k c e g rfl hc
    obtain ⟨E, cl, hb, _⟩ := m2
    rw [hb] at hc; cases hc
  have both : ∀ {α : Type} {enc : α → List Value} {sz : Nat} {T : TypeId} {B : Option Addr} {c : Nat} {xs : List α}, T ≠ 3 → OwnA enc sz T base h B c xs → OwnA enc sz T base h3 B c xs := fun hT o => (o.frT fA (offA hT)).frT fM offM
  have lt2 : h.size ≤ h2.size := k2.size
  have stay : ∀ b, F b → A ≠ some ⟨b, 0, none⟩ → ∀ o, h[b]? = some o → h3[b]? = some o := by
    intro b hF hne o hb
    obtain ⟨c, g, e⟩ := H.tyF b hF
    exact r3.blk (fA.blk hb hne) (H.mapNe e)
  have ne2 : ∀ b, A' = some ⟨b, 0, none⟩ → b ≠ D.mb := by
    rintro b rfl
    obtain ⟨cx, hx⟩ := own_blk own2
    exact m2.ne hx
  have own3 : OwnA encI 1 3 base h3 A' c' l := own2.frT fM offM
  refine ⟨fun b => (F b ∧ A ≠ some ⟨b, 0, none⟩) ∨ A' = some ⟨b, 0, none⟩, ?_, ⟨H.ge, ?_, ?_, H.geM, ?_, both d2 H.stands, both d3 H.vlans, ?_, ⟨_, m3, ?_, ?_, ?_, put_nodup hq.nd⟩⟩, ?_⟩
  · rintro b' (⟨hF, _⟩ | hb)
    · exact .inl hF
    · rcases hA' with e | e | ⟨b2, e, hg⟩
      · exact .inl (hAF b' (by rw [← e]; exact hb))
      · rw [e] at hb; cases hb
      · rw [e] at hb; cases hb; exact .inr hg
  · rintro b' (⟨hF, _⟩ | hb)
    · exact H.geF b' hF
    · exact own2.ge b' hb
  · rintro b' (⟨hF, hne⟩ | hb)
    · obtain ⟨c, g, e⟩ := H.tyF b' hF
      exact ⟨c, g, stay b' hF hne _ e⟩
    · subst hb
      obtain ⟨cx, hx⟩ := own_blk own3
      exact ⟨cx, _, hx⟩
  · exact fM.blk (fA.blk H.blk ((offA d1).not H.blk)) (offM.not (fA.blk H.blk ((offA d1).not H.blk)))
  · exact (H.book.frT fA (offA d4) (offA d5) (offA d6)).frT fM offM offM offM
  · intro k r hr
    rw [get_put] at hr
    split at hr
    · rename_i hk
      cases hr
      subst hk
      have e : setQ M.queues a b l a b = l := by simp [setQ]
      show l.length = (setQ M.queues a b l a b).length ∧ OwnA encI 1 3 base h3 A' c' (setQ M.queues a b l a b) ∧ _
      rw [e]
      exact ⟨rfl, own3, fun b hb => .inr hb⟩
    · rename_i hk
      have hs := hq.some k r hr
      have hk' : ¬ (k.1 = a ∧ k.2 = b) := fun e => hk (by ext <;> simp [e.1, e.2])
      simp only [setQ, if_neg hk']
      have hne : ∀ b', r.a = some ⟨b', 0, none⟩ → A ≠ some ⟨b', 0, none⟩ := by
        intro b' hb' hAb
        rcases hA with rfl | ⟨r0, hr0, rfl⟩
        · cases hAb
        · exact hk (hq.apart _ _ _ _ b' hr hr0 hb' hAb)
      refine ⟨hs.1, ?_, fun b' hb' => .inl ⟨hs.2.2 b' hb', hne b' hb'⟩⟩
      exact (hs.2.1.fr fA fun b' hb' => hne b' hb').frT fM offM
  · intro k hr
    rw [get_put] at hr
    split at hr
    · cases hr
    · rename_i hk
      have hk' : ¬ (k.1 = a ∧ k.2 = b) := fun e => hk (by ext <;> simp [e.1, e.2])
      simp only [setQ, if_neg hk']
      exact hq.none k hr
  · intro k k' r r' b' hr hr' hb hb'
    rw [get_put] at hr hr'
    have cross : ∀ {k : Int × Int} {r : Sl}, ¬ k = (a, b) → getE k es = some r → r.a = some ⟨b', 0, none⟩ → A' = some ⟨b', 0, none⟩ → False := by
      intro k r hk hr hb hAb
      have hF := (hq.some k r hr).2.2 b' hb
      rcases hA' with e | e | ⟨b2, e, hg⟩
      · rw [e] at hAb
        rcases hA with rfl | ⟨r0, hr0, rfl⟩
        · cases hAb
        · exact hk (hq.apart _ _ _ _ b' hr hr0 hb hAb)
      · rw [e] at hAb; cases hAb
      · rw [e] at hAb
        cases hAb
        obtain ⟨c, g, e⟩ := H.tyF b' hF
        have := blk_lt e
        omega
    by_cases hk : k = (a, b)
    · by_cases hk2 : k' = (a, b)
      · rw [hk, hk2]
      · rw [if_pos hk] at hr
        rw [if_neg hk2] at hr'
        cases hr
        exact (cross hk2 hr' hb' hb).elim
    · rw [if_neg hk] at hr
      by_cases hk2 : k' = (a, b)
      · rw [if_pos hk2] at hr'
        cases hr'
        exact (cross hk hr hb hb').elim
      · rw [if_neg hk2] at hr'
        exact hq.apart k k' r r' b' hr hr' hb hb'
  · refine (fA.mono ?_).trans (fM.mono (Y := D.X F) ?_) fun k _ hx => hx
    · intro k _ hk
      exact .inr (.inr (.inr (.inr (hAF k hk))))
    · rintro k _ rfl
      exact .inr (.inr (.inr (.inl rfl)))
end
section
variable {tM tS tV tB tT tP : TypeId} {base : Nat} {F : Nat → Prop} {h h' : Heap} {m : Nat} {D : Dat} {p : Pl} {M : Md}
/-- A queue's entry is looked up, or made: nothing is another one. -/
theorem MdAt.touch (H : MdAt tM tS tV tB tT tP base F h m D p M) {es : List ((Int × Int) × Sl)} (hq : QEnts base F h es M.queues) (k : Int × Int) (m2 : MapAt encPr encQv h' D.mb (putE k ((getE k es).getD ⟨none, 0, 0⟩) es)) (r : Remapped h D.mb h') :
    MdAt tM tS tV tB tT tP base F h' m D p M ∧ QEnts base F h' (putE k ((getE k es).getD ⟨none, 0, 0⟩) es) M.queues := by
  obtain ⟨es0, hm0, _⟩ := H.queues
  have fM : Fr (fun j => j = D.mb) h h' := r.fr rfl
  have offM : ∀ {T : TypeId}, Off (fun j => j = D.mb) h T := by
    rintro T k c e g rfl hc
    exact absurd rfl (hm0.ne hc)
  have hF : ∀ b, F b → ¬ b = D.mb := by
    rintro b hb rfl
    obtain ⟨c, g, e⟩ := H.tyF _ hb
    exact hm0.ne e rfl
  have Q : QEnts base F h' (putE k ((getE k es).getD ⟨none, 0, 0⟩) es) M.queues := by
    have hs : ∀ k' r', getE k' (putE k ((getE k es).getD ⟨none, 0, 0⟩) es) = some r' → getE k' es = some r' ∨ (k' = k ∧ getE k es = none ∧ r' = ⟨none, 0, 0⟩) := by
      intro k' r' hr
      rw [get_put] at hr
      split at hr
      · rename_i e
        subst e
        cases hg : getE k' es with
        | none => rw [hg] at hr; cases hr; exact .inr ⟨rfl, rfl, rfl⟩
        | some v => rw [hg] at hr; cases hr; exact .inl rfl
      · exact .inl hr
    refine ⟨fun k' r' hr => ?_, fun k' hr => ?_, fun k1 k2 r1 r2 b h1 h2 hb1 hb2 => ?_, put_nodup hq.nd⟩
    · rcases hs k' r' hr with h1 | ⟨rfl, h2, rfl⟩
      · have := hq.some k' r' h1
        exact ⟨this.1, this.2.1.frT fM offM, this.2.2⟩
      · have e := hq.none k' h2
        rw [e]
        exact ⟨rfl, .inl ⟨rfl, rfl, rfl⟩, fun b hb => by cases hb⟩
    · rw [get_put] at hr
      split at hr
      · cases hr
      · exact hq.none k' hr
    · rcases hs k1 r1 h1 with h1 | ⟨_, _, rfl⟩
      · rcases hs k2 r2 h2 with h2 | ⟨_, _, rfl⟩
        · exact hq.apart k1 k2 r1 r2 b h1 h2 hb1 hb2
        · cases hb2
      · cases hb1
  exact ⟨⟨H.ge, H.geF, fun b hb => let ⟨c, g, e⟩ := H.tyF b hb; ⟨c, g, fM.blk e (hF b hb)⟩, H.geM, fM.blk H.blk (offM.not H.blk), H.stands.frT fM offM, H.vlans.frT fM offM, H.book.frT fM offM offM offM, _, m2, Q⟩, Q⟩
end
/-! ### The document's model: its queues lie in a table of tables -/
section
variable (tM tS tV tB tT tP t2 t1 : TypeId)
structure WQ (base : Nat) (G : Nat → Prop) (h : Heap) (D : Dat) (n : Int) (q : Int → Int → List Int) : Prop where
  holds : ∃ (R : List Sl) (S : Nat → List Sl), OwnA encSl 1 t2 base h (some ⟨D.mb, 0, none⟩) D.cq R ∧ (R.length : Int) = n ∧
    (∀ (i : Nat) r, R[i]? = some r → r.a = some ⟨D.rb i, 0, none⟩ ∧ r.n = (S i).length ∧ ((S i).length : Int) = n ∧ OwnA encSl 1 t1 base h r.a r.c (S i)) ∧
    ∀ (i j : Nat) r, (i : Int) < n → (S i)[j]? = some r → r.n = (q i j).length ∧ OwnA encI 1 3 base h r.a r.c (q i j) ∧ ∀ b, r.a = some ⟨b, 0, none⟩ → G b
structure WdAt (base : Nat) (G : Nat → Prop) (h : Heap) (m : Nat) (D : Dat) (p : Pl) (M : Md) : Prop where
  ge : base ≤ m
  geG : ∀ b, G b → base ≤ b
  tyG : ∀ b, G b → ∃ c g, h[b]? = some (.cells c 3 g)
  inj : ∀ i j : Nat, (i : Int) < p.ports → (j : Int) < p.ports → D.rb i = D.rb j → i = j
  blk : h[m]? = some (.cells [.int .i64 p.ports, D.rules, D.pvl, .int .i64 p.size.sh, .int .i64 p.size.bk, .int .i64 p.size.sl, .int .i64 p.tries, .int .i64 p.ring, .int .u32 p.normal, .int .u32 p.short, .slice (some ⟨D.sb, 0, none⟩) M.stands.length D.cs, .slice D.va M.vlans.length D.cv, .pointer (some ⟨D.b, 0, none⟩), .slice (some ⟨D.mb, 0, none⟩) p.ports.toNat D.cq].toArray tM (0, 0))
  stands : OwnA encSn 2 tS base h (some ⟨D.sb, 0, none⟩) D.cs M.stands
  vlans : OwnA encVl 3 tV base h D.va D.cv M.vlans
  book : BkAt tB tT tP base h D.b D.tb p.size M.book
  queues : WQ t2 t1 base G h D p.ports M.queues
def Dat.Z (D : Dat) (p : Pl) (k : Nat) : Prop := k = D.sb ∨ D.va = some ⟨k, 0, none⟩ ∨ k = D.tb ∨ ∃ i : Nat, (i : Int) < p.ports ∧ k = D.rb i
end
section
variable {tM tS tV tB tT tP t2 t1 : TypeId} {base : Nat} {G : Nat → Prop} {h h' : Heap} {m : Nat} {D : Dat} {p : Pl} {M : Md}
theorem WQ.fr {X : Nat → Prop} {n : Int} {q : Int → Int → List Int} (H : WQ t2 t1 base G h D n q) (f : Fr X h h') (o2 : Off X h t2) (o1 : Off X h t1) (hG : ∀ b, G b → ¬ X b) : WQ t2 t1 base G h' D n q := by
  obtain ⟨R, S, h1, h2, h3, h4⟩ := H.holds
  exact ⟨R, S, h1.frT f o2, h2, fun i r hr => ⟨(h3 i r hr).1, (h3 i r hr).2.1, (h3 i r hr).2.2.1, (h3 i r hr).2.2.2.frT f o1⟩, fun i j r hi hr => ⟨(h4 i j r hi hr).1, (h4 i j r hi hr).2.1.fr f fun b hb => hG b ((h4 i j r hi hr).2.2 b hb), (h4 i j r hi hr).2.2⟩⟩
/-- What the program's model changes leaves the document's as it is. -/
theorem WdAt.fr {X : Nat → Prop} (H : WdAt tM tS tV tB tT tP t2 t1 base G h m D p M) (f : Fr X h h') (oM : Off X h tM) (oS : Off X h tS) (oV : Off X h tV) (oB : Off X h tB) (oT : Off X h tT) (oP : Off X h tP) (o2 : Off X h t2) (o1 : Off X h t1) (hG : ∀ b, G b → ¬ X b) :
    WdAt tM tS tV tB tT tP t2 t1 base G h' m D p M :=
  ⟨H.ge, H.geG, fun b hb => let ⟨c, g, e⟩ := H.tyG b hb; ⟨c, g, f.blk e (hG b hb)⟩, H.inj, f.blk H.blk (oM.not H.blk), H.stands.frT f oS, H.vlans.frT f oV, H.book.frT f oB oT oP, H.queues.fr f o2 o1 hG⟩
theorem WdAt.ext (H : WdAt tM tS tV tB tT tP t2 t1 base G h m D p M) (x : Ext h h') : WdAt tM tS tV tB tT tP t2 t1 base G h' m D p M :=
  H.fr (x.fr fun _ => False) (fun _ _ _ _ h => h.elim) (fun _ _ _ _ h => h.elim) (fun _ _ _ _ h => h.elim) (fun _ _ _ _ h => h.elim) (fun _ _ _ _ h => h.elim) (fun _ _ _ _ h => h.elim) (fun _ _ _ _ h => h.elim) (fun _ _ _ _ h => h.elim) fun _ _ h => h
theorem WdAt.row (H : WdAt tM tS tV tB tT tP t2 t1 base G h m D p M) {i : Nat} (hi : (i : Int) < p.ports) : base ≤ D.rb i ∧ ∃ cx, h[D.rb i]? = some (.cells cx t1 (0, 0)) := by
  obtain ⟨R, S, h1, h2, h3, _⟩ := H.queues.holds
  have hr : R[i]? = some (R[i]'(by omega)) := List.getElem?_eq_getElem (by omega)
  obtain ⟨e, _, _, o⟩ := h3 i _ hr
  rw [e] at o
  exact ⟨o.ge _ rfl, own_blk o⟩
theorem WdAt.geZ (H : WdAt tM tS tV tB tT tP t2 t1 base G h m D p M) : ∀ k, D.Z p k → base ≤ k := by
  rintro k (rfl | hk | rfl | ⟨i, hi, rfl⟩)
  · exact H.stands.ge _ rfl
  · exact H.vlans.ge _ hk
  · exact H.book.table.1
  · exact (H.row hi).1
theorem WdAt.off (H : WdAt tM tS tV tB tT tP t2 t1 base G h m D p M) {T : TypeId} (h1 : tS ≠ T) (h2 : tV ≠ T) (h3 : tT ≠ T) (h4 : t1 ≠ T) : Off (D.Z p) h T := by
  rintro k c e g hk hc
  have ofOwn : ∀ {α : Type} {enc : α → List Value} {sz : Nat} {T' : TypeId} {A : Option Addr} {cc : Nat} {xs : List α}, OwnA enc sz T' base h A cc xs → A = some ⟨k, 0, none⟩ → e = T' := by
    intro α enc sz T' A cc xs o hA
    rcases o with ⟨e1, _⟩ | ⟨b, rest, e1, _, hb, _⟩
    · rw [hA] at e1; cases e1
    · rw [hA] at e1; cases e1; exact ty_eq hc hb
  rcases hk with rfl | hk | rfl | ⟨i, hi, rfl⟩
  · rw [ofOwn H.stands rfl]; exact h1
  · rw [ofOwn H.vlans hk]; exact h2
  · obtain ⟨_, cx, hx⟩ := H.book.table
    rw [ty_eq hc hx]; exact h3
  · obtain ⟨_, cx, hx⟩ := H.row hi
    rw [ty_eq hc hx]; exact h4
theorem WdAt.offG (H : WdAt tM tS tV tB tT tP t2 t1 base G h m D p M) {x : Nat} {cx : Array Value} {Tx : TypeId} {gx : Nat × Nat} (hx : h[x]? = some (.cells cx Tx gx)) (h3 : Tx ≠ 3) : ∀ b, G b → ¬ (b = x) := by
  rintro b hG rfl
  obtain ⟨c, g, e⟩ := H.tyG b hG
  exact h3 (ty_eq hx e)
theorem WdAt.newStands (H : WdAt tM tS tV tB tT tP t2 t1 base G h m D p M) (d1 : tS ≠ tM) (d2 : tS ≠ tV) (d3 : tS ≠ tB) (d4 : tS ≠ tT) (d5 : tS ≠ tP) (d6 : tS ≠ 3) (d7 : tS ≠ t2) (d8 : tS ≠ t1) (f : Fr (fun k => k = D.sb) h h') {l : List Stn} (hl : l.length = M.stands.length) (ho : OwnA encSn 2 tS base h' (some ⟨D.sb, 0, none⟩) D.cs l) :
    WdAt tM tS tV tB tT tP t2 t1 base G h' m D p { M with stands := l } := by
  obtain ⟨cx, hx⟩ := own_blk H.stands
  have oG := H.offG hx d6
  refine ⟨H.ge, H.geG, fun b hb => let ⟨c, g, e⟩ := H.tyG b hb; ⟨c, g, f.blk e (oG b hb)⟩, H.inj, ?_, ho, H.vlans.frT f (offOne hx d2), H.book.frT f (offOne hx d3) (offOne hx d4) (offOne hx d5), H.queues.fr f (offOne hx d7) (offOne hx d8) oG⟩
  show h'[m]? = some (.cells [.int .i64 p.ports, D.rules, D.pvl, .int .i64 p.size.sh, .int .i64 p.size.bk, .int .i64 p.size.sl, .int .i64 p.tries, .int .i64 p.ring, .int .u32 p.normal, .int .u32 p.short, .slice (some ⟨D.sb, 0, none⟩) l.length D.cs, .slice D.va M.vlans.length D.cv, .pointer (some ⟨D.b, 0, none⟩), .slice (some ⟨D.mb, 0, none⟩) p.ports.toNat D.cq].toArray tM (0, 0))
  rw [hl]
  exact f.blk H.blk ((offOne hx d1).not H.blk)
theorem WdAt.newVlans (H : WdAt tM tS tV tB tT tP t2 t1 base G h m D p M) (d1 : tV ≠ tM) (d2 : tV ≠ tS) (d3 : tV ≠ tB) (d4 : tV ≠ tT) (d5 : tV ≠ tP) (d6 : tV ≠ 3) (d7 : tV ≠ t2) (d8 : tV ≠ t1) {vb : Nat} (hv : D.va = some ⟨vb, 0, none⟩) (f : Fr (fun k => k = vb) h h') {l : List Vl} (hl : l.length = M.vlans.length) (ho : OwnA encVl 3 tV base h' D.va D.cv l) :
    WdAt tM tS tV tB tT tP t2 t1 base G h' m D p { M with vlans := l } := by
  obtain ⟨cx, hx⟩ := own_blk (hv ▸ H.vlans)
  have oG := H.offG hx d6
  refine ⟨H.ge, H.geG, fun b hb => let ⟨c, g, e⟩ := H.tyG b hb; ⟨c, g, f.blk e (oG b hb)⟩, H.inj, ?_, H.stands.frT f (offOne hx d2), ho, H.book.frT f (offOne hx d3) (offOne hx d4) (offOne hx d5), H.queues.fr f (offOne hx d7) (offOne hx d8) oG⟩
  show h'[m]? = some (.cells [.int .i64 p.ports, D.rules, D.pvl, .int .i64 p.size.sh, .int .i64 p.size.bk, .int .i64 p.size.sl, .int .i64 p.tries, .int .i64 p.ring, .int .u32 p.normal, .int .u32 p.short, .slice (some ⟨D.sb, 0, none⟩) M.stands.length D.cs, .slice D.va l.length D.cv, .pointer (some ⟨D.b, 0, none⟩), .slice (some ⟨D.mb, 0, none⟩) p.ports.toNat D.cq].toArray tM (0, 0))
  rw [hl]
  exact f.blk H.blk ((offOne hx d1).not H.blk)
theorem WdAt.newBook (H : WdAt tM tS tV tB tT tP t2 t1 base G h m D p M) (d1 : tT ≠ tM) (d2 : tT ≠ tS) (d3 : tT ≠ tV) (d6 : tT ≠ 3) (d7 : tT ≠ t2) (d8 : tT ≠ t1) (f : Fr (fun k => k = D.tb) h h') {L : List (List Place)} (hb : BkAt tB tT tP base h' D.b D.tb p.size L) :
    WdAt tM tS tV tB tT tP t2 t1 base G h' m D p { M with book := L } := by
  obtain ⟨_, cx, hx⟩ := H.book.table
  have oG := H.offG hx d6
  exact ⟨H.ge, H.geG, fun b hb => let ⟨c, g, e⟩ := H.tyG b hb; ⟨c, g, f.blk e (oG b hb)⟩, H.inj, f.blk H.blk ((offOne hx d1).not H.blk), H.stands.frT f (offOne hx d2), H.vlans.frT f (offOne hx d3), hb, H.queues.fr f (offOne hx d7) (offOne hx d8) oG⟩
/-- A queue's place: the row, the cell. -/
theorem WdAt.queue (H : WdAt tM tS tV tB tT tP t2 t1 base G h m D p M) {i j : Nat} (hi : (i : Int) < p.ports) (hj : (j : Int) < p.ports) :
    (∃ c, cell h ⟨D.mb, i, none⟩ = some (.slice (some ⟨D.rb i, 0, none⟩) p.ports.toNat c)) ∧ ∃ A c, cell h ⟨D.rb i, j, none⟩ = some (.slice A (M.queues i j).length c) ∧ OwnA encI 1 3 base h A c (M.queues i j) ∧ CanSet h ⟨D.rb i, j, none⟩ 1 := by
  obtain ⟨R, S, h1, h2, h3, h4⟩ := H.queues.holds
  have hr : R[i]? = some (R[i]'(by omega)) := List.getElem?_eq_getElem (by omega)
  obtain ⟨e, e2, e3, o⟩ := h3 i _ hr
  obtain ⟨a, ha, hrd⟩ := h1.row encSl_len i _ hr
  cases ha
  have c1 := hrd.cons
  rw [add_lit, e, e2] at c1
  simp only [Nat.zero_add, Nat.mul_one] at c1
  have hn : (S i).length = p.ports.toNat := by omega
  rw [hn] at c1
  have hs : (S i)[j]? = some ((S i)[j]'(by omega)) := List.getElem?_eq_getElem (by omega)
  obtain ⟨f1, f2, _⟩ := h4 i j _ hi hs
  rw [e] at o
  obtain ⟨a2, ha2, hrd2⟩ := o.row encSl_len j _ hs
  cases ha2
  have c2 := hrd2.cons
  rw [add_lit, f1] at c2
  simp only [Nat.zero_add, Nat.mul_one] at c2
  obtain ⟨b', eb, _, hcs⟩ := o.canset encSl_len (i := j) (j := 0) (n := 1) (by omega) (by omega)
  cases eb
  exact ⟨⟨_, c1⟩, _, _, c2, f2, by simpa using hcs⟩
theorem WdAt.newQueue (H : WdAt tM tS tV tB tT tP t2 t1 base G h m D p M) (d1 : t1 ≠ tM) (d2 : t1 ≠ tS) (d3 : t1 ≠ tV) (d4 : t1 ≠ tB) (d5 : t1 ≠ tT) (d6 : t1 ≠ tP) (d7 : t1 ≠ t2) (d8 : t1 ≠ 3) {i j : Nat} (hi : (i : Int) < p.ports) (hj : (j : Int) < p.ports) {A' : Option Addr} {n c' : Nat} {l : List Int} {h0 : Heap} (hx0 : Ext h0 h) (hn : n = l.length)
    (own : OwnA encI 1 3 base h A' c' l) (hA' : ∀ b, A' = some ⟨b, 0, none⟩ → h0.size ≤ b) (s : Stored h ⟨D.rb i, j, none⟩ [.slice A' n c'] h') :
    ∃ G' : Nat → Prop, (∀ b, G' b → G b ∨ h0.size ≤ b) ∧ WdAt tM tS tV tB tT tP t2 t1 base G' h' m D p { M with queues := setQ M.queues i j l } ∧ Fr (D.Z p) h h' := by
  subst hn
  obtain ⟨_, cx, hx⟩ := H.row hi
  have f : Fr (fun k => k = D.rb i) h h' := s.fr rfl
  have oG := H.offG hx d8
  have oA : ∀ b, A' = some ⟨b, 0, none⟩ → ¬ b = D.rb i := by
    rintro b rfl rfl
    obtain ⟨c2, hx2⟩ := own_blk own
    exact d8 (ty_eq hx hx2)
  have own' := own.fr f oA
  refine ⟨fun b => G b ∨ A' = some ⟨b, 0, none⟩, ?_, ⟨H.ge, ?_, ?_, H.inj, f.blk H.blk ((offOne hx d1).not H.blk), H.stands.frT f (offOne hx d2), H.vlans.frT f (offOne hx d3), H.book.frT f (offOne hx d4) (offOne hx d5) (offOne hx d6), ?_⟩, f.mono ?_⟩
  · rintro b (hb | hb)
    · exact .inl hb
    · exact .inr (hA' b hb)
  · rintro b (hb | hb)
    · exact H.geG b hb
    · exact own.ge b hb
  · rintro b (hb | hb)
    · obtain ⟨c, g, e⟩ := H.tyG b hb
      exact ⟨c, g, f.blk e (oG b hb)⟩
    · subst hb
      obtain ⟨c2, hx2⟩ := own_blk own'
      exact ⟨c2, _, hx2⟩
  · obtain ⟨R, S, h1, h2, h3, h4⟩ := H.queues.holds
    refine ⟨R, fun k => if k = i then (S i).set j ⟨A', l.length, c'⟩ else S k, h1.frT f (offOne hx d7), h2, fun k r hr => ?_, fun k k2 r hk hr => ?_⟩
    · obtain ⟨e, e2, e3, o⟩ := h3 k r hr
      by_cases hki : k = i
      · subst hki
        simp only [if_true, List.length_set]
        refine ⟨e, e2, e3, ?_⟩
        have hs : (S k)[j]? = some ((S k)[j]'(by omega)) := List.getElem?_eq_getElem (by omega)
        exact o.put encSl_len (i := j) (j := 0) (x' := ⟨A', l.length, c'⟩) e (by simpa using s) hs (by simp) rfl
      · simp only [if_neg hki]
        refine ⟨e, e2, e3, o.fr f fun b hb => ?_⟩
        rw [e] at hb
        cases hb
        intro e4
        have hkR : k < R.length := (List.getElem?_eq_some_iff.1 hr).1
        exact hki (H.inj k i (by omega) hi e4)
    · by_cases hki : k = i
      · subst hki
        simp only [if_true] at hr
        rw [List.getElem?_set] at hr
        by_cases hj2 : j = k2
        · subst hj2
          rw [if_pos rfl] at hr
          split at hr
          · cases hr
            have e : setQ M.queues k j l k j = l := by simp [setQ]
            show l.length = (setQ M.queues k j l k j).length ∧ OwnA encI 1 3 base h' A' c' (setQ M.queues k j l k j) ∧ _
            rw [e]
            exact ⟨rfl, own', fun b hb => .inr hb⟩
          · cases hr
        · rw [if_neg hj2] at hr
          obtain ⟨f1, f2, f3⟩ := h4 k k2 r hk hr
          have : ¬ ((k : Int) = k ∧ (k2 : Int) = j) := by omega
          have e : setQ M.queues k j l k k2 = M.queues k k2 := by rw [setQ, if_neg this]
          show r.n = (setQ M.queues k j l k k2).length ∧ OwnA encI 1 3 base h' r.a r.c (setQ M.queues k j l k k2) ∧ _
          rw [e]
          exact ⟨f1, f2.fr f fun b hb => oG b (f3 b hb), fun b hb => .inl (f3 b hb)⟩
      · simp only [if_neg hki] at hr
        obtain ⟨f1, f2, f3⟩ := h4 k k2 r hk hr
        have : ¬ ((k : Int) = i ∧ (k2 : Int) = j) := by omega
        have e : setQ M.queues i j l k k2 = M.queues k k2 := by rw [setQ, if_neg this]
        show r.n = (setQ M.queues i j l k k2).length ∧ OwnA encI 1 3 base h' r.a r.c (setQ M.queues i j l k k2) ∧ _
        rw [e]
        exact ⟨f1, f2.fr f fun b hb => oG b (f3 b hb), fun b hb => .inl (f3 b hb)⟩
  · rintro k _ rfl
    exact .inr (.inr (.inr ⟨i, hi, rfl⟩))
end
end Go.Proofs.YtjjempefncgfhaaGreatDoorE
