/- A copy of the program's model. Conditions: the arguments are of their types. -/
import Derived.Test.YtgiofdiifkahoaaGreatXW4
import Derived.Test.YtgiofdiifkahoaaGreatXMapR
set_option linter.unusedVariables false
set_option linter.unusedSimpArgs false
set_option maxRecDepth 100000
namespace Go.Proofs.YtgiofdiifkahoaaGreatE
open Go Go.Proofs
def env_mCopy : Nat → Ann
  | 3 => ⟨.op 0 [] <| .op 1 [] <| .op 2 [] <| .op 3 [] <| .op 4 [] <| .op 5 [] <| .op 6 [] <| .op 7 [] <| .op 9 [] <| .op 10 [] <| .op 11 [] <| .op 12 [] <| .op 14 [] <| .op 15 [] <| .op 16 [] <| .op 17 [] <| .alt (.op 8 [3, 12, 17] <| .alt (.op 13 [3, 17] <| .alt (.op 18 [3] <| .op 19 [3, 7, 12, 17] <| .op 20 [] <| .op 21 [] <| .op 22 [] <| .nil) (.op 19 [3, 7, 12, 17] <| .op 18 [3] <| .op 20 [] <| .op 21 [] <| .op 22 [] <| .nil)) (.op 19 [3, 7, 12, 17] <| .op 13 [3, 17] <| .op 18 [3] <| .op 20 [] <| .op 21 [] <| .op 22 [] <| .nil)) (.op 19 [3, 7, 12, 17] <| .op 8 [3, 12, 17] <| .op 13 [3, 17] <| .op 18 [3] <| .op 20 [] <| .op 21 [] <| .op 22 [] <| .nil), [0, 1, 3, 7, 0, 16, 48, 112, 240, 0, 512, 1536, 3584, 8176, 0, 16384, 49152, 114688, 262128, 0, 1048575, 2097151, 4194303], false⟩
  | 4 => ⟨.nil, [], true⟩
  | 7 => ⟨.op 0 [] <| .op 1 [] <| .op 2 [] <| .op 3 [] <| .op 4 [] <| .op 5 [] <| .op 6 [3, 4] <| .op 7 [] <| .nil, [0, 1, 3, 7, 0, 0, 32, 127], false⟩
  | _ => ⟨.nil, [], false⟩
section
variable {base : Nat} {F : Nat → Prop} {h h1 h' : Heap} {m : Nat} {D : Dat} {p : Pl} {M M' : Md}
theorem left_push {E : List MapEntry} {z : Array Nat} {e : MapEntry} (he : e ∈ leftE E z) : (leftE E (z.push e.born)).length < (leftE E z).length := by
  have : leftE E (z.push e.born) = (leftE E z).filter fun x => !(x.born == e.born) := by
    unfold leftE
    rw [List.filter_filter]
    congr 1
    funext x
    rw [Array.contains_push]
    cases z.contains x.born <;> cases x.born == e.born <;> rfl
  rw [this]
  exact List.length_filter_lt_length_iff_exists.2 ⟨e, he, by simp⟩
theorem left_other {E : List MapEntry} {z : Array Nat} {e : MapEntry} {n : Nat} (he : e ∈ leftE E z) (hn : e.born ≠ n) : e ∈ leftE E (z.push n) := by
  obtain ⟨h1, h2⟩ := List.mem_filter.1 he
  refine List.mem_filter.2 ⟨h1, ?_⟩
  rw [Array.contains_push]
  have : (e.born == n) = false := by simpa using hn
  rw [this]
  simpa using h2
theorem Stamped.inj {E : List MapEntry} {clock : Nat} (S : Stamped E clock) {e e' : MapEntry} (h : e ∈ E) (h' : e' ∈ E) (hb : e.born = e'.born) : e = e' := by
  have h1 := find_born e E S.2 h
  have h2 := find_born e' E S.2 h'
  rw [hb, h2] at h1
  exact (Option.some.inj h1).symm
/-- What is changed is neither a list nor a map: the model is as it was. -/
theorem MdP.aside (H : MdP base F h m D p M) {it : Nat} {oo : Obj} (hi : h[it]? = some oo) (nc : ∀ c e g, oo ≠ .cells c e g) (nm : ∀ E c, oo ≠ .map E c) (r : Remapped h it h') : MdP base F h' m D p M := by
  have f : Fr (fun k => k = it) h h' := r.fr rfl
  have off : ∀ {T : TypeId}, Off (fun k => k = it) h T := by
    rintro T k c e g rfl hc
    rw [hi] at hc
    exact absurd (Option.some.inj hc) (nc _ _ _)
  obtain ⟨es, ⟨E, cl, hb, rest⟩, hq⟩ := H.queues
  have hF : ∀ b, F b → ¬ b = it := by
    rintro b hb rfl
    obtain ⟨c, g, e⟩ := H.tyF _ hb
    rw [hi] at e
    exact absurd (Option.some.inj e) (nc _ _ _)
  exact ⟨H.ge, H.geF, fun b hb => let ⟨c, g, e⟩ := H.tyF b hb; ⟨c, g, f.blk e (hF b hb)⟩, H.geM, f.blk H.blk (off.not H.blk), H.stands.frT f off, H.vlans.frT f off, H.book.frT f off off off, es, ⟨E, cl, f.blk hb (by rintro rfl; rw [hi] at hb; exact nm _ _ (Option.some.inj hb)), rest⟩, hq.fr f hF⟩
theorem mCopy_spec (po : p.Ok) (K : MdOk p M) (hv : M.vlans.length ≤ 1000) (H : MdP base F h m D p M) : HCalls Tryz.prog 20 #[.pointer (some ⟨m, 0, none⟩)] h (fun v h' => ∃ c F' D', v = .pointer (some ⟨c, 0, none⟩) ∧ MdP h.size F' h' c D' p M ∧ Ext h h') := by
  refine xcalls env_mCopy Tryz.func20 rfl (by kernel_rfl) rfl (by kernel_rfl) ?_
  have hst := K.st
  have hp1 := po.lo
  have hp2 := po.hi
  refine ⟨Nat × Option Addr × Nat × Option Addr × Nat × Nat × Nat × Nat, fun z => [(0, .pointer (some ⟨m, 0, none⟩)), (3, .pointer (some ⟨z.1, 0, none⟩))],
    fun z h' => (h.size ≤ z.1 ∧ h.size ≤ z.2.2.2.2.2.2.2) ∧ h'[z.1]? = some (.cells [.int .i64 p.ports, D.rules, D.pvl, .int .i64 p.size.sh, .int .i64 p.size.bk, .int .i64 p.size.sl, .int .i64 p.tries, .int .i64 p.ring, .int .u32 p.normal, .int .u32 p.short, .slice z.2.1 M.stands.length z.2.2.1, .slice z.2.2.2.1 M.vlans.length z.2.2.2.2.1, .pointer (some ⟨z.2.2.2.2.2.1, 0, none⟩), .map (some z.2.2.2.2.2.2.2)].toArray 120 (0, 0)) ∧
      OwnA encSn 2 60 h.size h' z.2.1 z.2.2.1 M.stands ∧ OwnA encVl 3 116 h.size h' z.2.2.2.1 z.2.2.2.2.1 M.vlans ∧ BkP h.size h' z.2.2.2.2.2.1 z.2.2.2.2.2.2.1 p.size M.book ∧ h'[z.2.2.2.2.2.2.2]? = some (.map #[] 0) ∧ Ext h h', ?_, ?_⟩
  · refine ⟨[.int .i64 p.ports, D.rules, D.pvl, .int .i64 p.size.sh, .int .i64 p.size.bk, .int .i64 p.size.sl, .int .i64 p.tries, .int .i64 p.ring, .int .u32 p.normal, .int .u32 p.short], rfl, reads_at H.blk rfl, _, cell_blk H.blk rfl, _, cell_blk H.blk rfl, _, cell_blk H.blk rfl, ?_, ?_⟩
    · refine (snClone_spec (H.stands.ext (Ext.refl h)) rfl (by omega)).mono ?_
      rintro v g1 ⟨SA, sc, rfl, S1', y1⟩
      have S1 : OwnA encSn 2 60 h.size g1 SA sc M.stands := S1'.mono ((Ext.refl h)).size
      have x1 : Ext h g1 := (Ext.refl h).trans y1
      refine ⟨⟨cell_blk (x1.blk H.blk) rfl, cell_blk (x1.blk H.blk) rfl, reads_at (x1.blk H.blk) rfl, trivial⟩, ?_, ?_⟩
      · refine (vlClone_spec (H.vlans.ext x1) rfl (by omega)).mono ?_
        rintro v g2 ⟨VA, vc, rfl, V2', y2⟩
        have S2 := S1.ext y2
        have V2 : OwnA encVl 3 116 h.size g2 VA vc M.vlans := V2'.mono (x1).size
        have x2 : Ext h g2 := x1.trans y2
        refine ⟨⟨cell_blk (x2.blk H.blk) rfl, reads_at (x2.blk H.blk) rfl, trivial⟩, ?_, ?_⟩
        · refine (kCopy_spec po.size K.book.bok (H.book.ext x2)).mono ?_
          rintro v g3 ⟨bb, tb, rfl, B3', y3⟩
          have S3 := S2.ext y3
          have V3 := V2.ext y3
          have B3 : BkP h.size g3 bb tb p.size M.book := B3'.mono (x2).size
          have x3 : Ext h g3 := x2.trans y3
          refine ⟨⟨reads_at (x3.blk H.blk) rfl, trivial⟩, ?_⟩
          refine xmakeMap_ok fun mb g4 nn4 => ?_
          have y4 := nn4.ext
          have S4 := S3.ext y4
          have V4 := V3.ext y4
          have B4 := B3.ext y4
          have M4 : g4[mb]? = some (.map #[] 0) := nn4.this
          have mg : h.size ≤ mb := nn4.ge x3
          have x4 : Ext h g4 := x3.trans y4
          refine ⟨⟨cell_blk (x4.blk H.blk) rfl, cell_blk (x4.blk H.blk) rfl, cell_blk (x4.blk H.blk) rfl, reads_at (x4.blk H.blk) rfl, trivial⟩, ?_⟩
          intro cb hN nN
          exact ⟨(cb, SA, sc, VA, vc, bb, tb, mb), ⟨rfl, rfl, trivial⟩, ⟨nN.ge x4, mg⟩, nN.this, S4.ext nN.ext, V4.ext nN.ext, B4.ext nN.ext, nN.ext.blk M4, x4.trans nN.ext⟩
        · refine xmakeMap_ok fun mb g3 nn3 => ?_
          have y3 := nn3.ext
          have S3 := S2.ext y3
          have V3 := V2.ext y3
          have M3 : g3[mb]? = some (.map #[] 0) := nn3.this
          have mg : h.size ≤ mb := nn3.ge x2
          have x3 : Ext h g3 := x2.trans y3
          refine ⟨⟨cell_blk (x3.blk H.blk) rfl, cell_blk (x3.blk H.blk) rfl, cell_blk (x3.blk H.blk) rfl, reads_at (x3.blk H.blk) rfl, trivial⟩, ?_⟩
          refine (kCopy_spec po.size K.book.bok (H.book.ext x3)).mono ?_
          rintro v g4 ⟨bb, tb, rfl, B4', y4⟩
          have S4 := S3.ext y4
          have V4 := V3.ext y4
          have M4 := y4.blk M3
          have B4 : BkP h.size g4 bb tb p.size M.book := B4'.mono (x3).size
          have x4 : Ext h g4 := x3.trans y4
          refine ⟨⟨reads_at (x4.blk H.blk) rfl, trivial⟩, ?_⟩
          intro cb hN nN
          exact ⟨(cb, SA, sc, VA, vc, bb, tb, mb), ⟨rfl, rfl, trivial⟩, ⟨nN.ge x4, mg⟩, nN.this, S4.ext nN.ext, V4.ext nN.ext, B4.ext nN.ext, nN.ext.blk M4, x4.trans nN.ext⟩
      · refine xmakeMap_ok fun mb g2 nn2 => ?_
        have y2 := nn2.ext
        have S2 := S1.ext y2
        have M2 : g2[mb]? = some (.map #[] 0) := nn2.this
        have mg : h.size ≤ mb := nn2.ge x1
        have x2 : Ext h g2 := x1.trans y2
        refine ⟨⟨cell_blk (x2.blk H.blk) rfl, cell_blk (x2.blk H.blk) rfl, cell_blk (x2.blk H.blk) rfl, reads_at (x2.blk H.blk) rfl, trivial⟩, ?_⟩
        refine (vlClone_spec (H.vlans.ext x2) rfl (by omega)).mono ?_
        rintro v g3 ⟨VA, vc, rfl, V3', y3⟩
        have S3 := S2.ext y3
        have M3 := y3.blk M2
        have V3 : OwnA encVl 3 116 h.size g3 VA vc M.vlans := V3'.mono (x2).size
        have x3 : Ext h g3 := x2.trans y3
        refine ⟨⟨cell_blk (x3.blk H.blk) rfl, reads_at (x3.blk H.blk) rfl, trivial⟩, ?_⟩
        refine (kCopy_spec po.size K.book.bok (H.book.ext x3)).mono ?_
        rintro v g4 ⟨bb, tb, rfl, B4', y4⟩
        have S4 := S3.ext y4
        have M4 := y4.blk M3
        have V4 := V3.ext y4
        have B4 : BkP h.size g4 bb tb p.size M.book := B4'.mono (x3).size
        have x4 : Ext h g4 := x3.trans y4
        refine ⟨⟨reads_at (x4.blk H.blk) rfl, trivial⟩, ?_⟩
        intro cb hN nN
        exact ⟨(cb, SA, sc, VA, vc, bb, tb, mb), ⟨rfl, rfl, trivial⟩, ⟨nN.ge x4, mg⟩, nN.this, S4.ext nN.ext, V4.ext nN.ext, B4.ext nN.ext, nN.ext.blk M4, x4.trans nN.ext⟩
    · refine xmakeMap_ok fun mb g1 nn1 => ?_
      have y1 := nn1.ext
      have M1 : g1[mb]? = some (.map #[] 0) := nn1.this
      have mg : h.size ≤ mb := nn1.ge (Ext.refl h)
      have x1 : Ext h g1 := (Ext.refl h).trans y1
      refine ⟨⟨cell_blk (x1.blk H.blk) rfl, cell_blk (x1.blk H.blk) rfl, cell_blk (x1.blk H.blk) rfl, reads_at (x1.blk H.blk) rfl, trivial⟩, ?_⟩
      refine (snClone_spec (H.stands.ext x1) rfl (by omega)).mono ?_
      rintro v g2 ⟨SA, sc, rfl, S2', y2⟩
      have M2 := y2.blk M1
      have S2 : OwnA encSn 2 60 h.size g2 SA sc M.stands := S2'.mono (x1).size
      have x2 : Ext h g2 := x1.trans y2
      refine ⟨⟨cell_blk (x2.blk H.blk) rfl, cell_blk (x2.blk H.blk) rfl, reads_at (x2.blk H.blk) rfl, trivial⟩, ?_⟩
      refine (vlClone_spec (H.vlans.ext x2) rfl (by omega)).mono ?_
      rintro v g3 ⟨VA, vc, rfl, V3', y3⟩
      have M3 := y3.blk M2
      have S3 := S2.ext y3
      have V3 : OwnA encVl 3 116 h.size g3 VA vc M.vlans := V3'.mono (x2).size
      have x3 : Ext h g3 := x2.trans y3
      refine ⟨⟨cell_blk (x3.blk H.blk) rfl, reads_at (x3.blk H.blk) rfl, trivial⟩, ?_⟩
      refine (kCopy_spec po.size K.book.bok (H.book.ext x3)).mono ?_
      rintro v g4 ⟨bb, tb, rfl, B4', y4⟩
      have M4 := y4.blk M3
      have S4 := S3.ext y4
      have V4 := V3.ext y4
      have B4 : BkP h.size g4 bb tb p.size M.book := B4'.mono (x3).size
      have x4 : Ext h g4 := x3.trans y4
      refine ⟨⟨reads_at (x4.blk H.blk) rfl, trivial⟩, ?_⟩
      intro cb hN nN
      exact ⟨(cb, SA, sc, VA, vc, bb, tb, mb), ⟨rfl, rfl, trivial⟩, ⟨nN.ge x4, mg⟩, nN.this, S4.ext nN.ext, V4.ext nN.ext, B4.ext nN.ext, nN.ext.blk M4, x4.trans nN.ext⟩
  rintro ⟨cb, SA, sc, VA, vc, bb, tb, mb⟩ h1 ⟨⟨cg, mg⟩, hcb, S1, V1, B1, hmb, x1⟩
  simp only at cg mg hcb S1 V1 B1 hmb x1
  obtain ⟨es, ⟨E, clock, hE, eE, sE⟩, Q⟩ := H.queues
  refine ⟨_, cell_blk (x1.blk H.blk) rfl, ?_⟩
  refine xrange_ok mapQTy (x1.blk hE) fun it h2 n2 => ?_
  have x2 := x1.trans n2.ext
  obtain ⟨sb, hsb⟩ : ∃ sb, SA = some ⟨sb, 0, none⟩ := by
    rcases S1 with ⟨_, e, _⟩ | ⟨b, _, e, _⟩
    · rw [e] at hst; simp at hst; omega
    · exact ⟨b, e⟩
  subst hsb
  let Dc : Dat := ⟨D.rules, D.pvl, sb, sc, VA, vc, bb, tb, mb, 0, fun _ => 0⟩
  have I2 : ItAt h2 it D.mb E clock #[] := ⟨x2.blk hE, n2.this⟩
  have C2 : MdP h.size (fun _ => False) h2 cb Dc p { M with queues := fun _ _ => [] } :=
    ⟨cg, fun _ h => h.elim, fun _ h => h.elim, mg, n2.ext.blk hcb, S1.ext n2.ext, V1.ext n2.ext, B1.ext n2.ext, [], ⟨[], 0, n2.ext.blk hmb, rfl, by simp, by simp⟩, ⟨(fun k r (hr : getE k ([] : List ((Int × Int) × Sl)) = some r) => by cases hr), (fun k _ => rfl), (fun k k' r r' b (hr : getE k ([] : List ((Int × Int) × Sl)) = some r) => by cases hr), List.nodup_nil⟩⟩
  have at_ : ∀ k r, getE k es = some r → ∃ e ∈ E, e.key = encPr k ∧ e.val = encQv r := fun k r hr => by
    have hm : (encPr k, encQv r) ∈ es.map (fun p => (encPr p.1, encQv p.2)) := List.mem_map.2 ⟨_, getE_mem hr, rfl⟩
    rw [← eE] at hm
    obtain ⟨e, he, hh⟩ := List.mem_map.1 hm
    exact ⟨e, he, congrArg Prod.fst hh, congrArg Prod.snd hh⟩
  have of_ : ∀ e ∈ E, ∃ k r, getE k es = some r ∧ e.key = encPr k ∧ e.val = encQv r := fun e he => by
    have hm : (e.key, e.val) ∈ E.map (fun e => (e.key, e.val)) := List.mem_map.2 ⟨_, he, rfl⟩
    rw [eE] at hm
    obtain ⟨⟨k, r⟩, hk, hh⟩ := List.mem_map.1 hm
    exact ⟨k, r, mem_getE Q.nd hk, (congrArg Prod.fst hh).symm, (congrArg Prod.snd hh).symm⟩
  refine ⟨Array Nat, fun z => [(3, .pointer (some ⟨cb, 0, none⟩)), (34, .pointer (some ⟨it, 0, none⟩))],
    fun z h' => ∃ F' q, (∀ a b, q a b = M.queues a b ∨ ∃ e ∈ leftE E z, e.key = encPr (a, b)) ∧ ItAt h' it D.mb E clock z ∧ MdP h.size F' h' cb Dc p { M with queues := q } ∧ Ext h h',
    fun z => (leftE E z).length, #[], ⟨rfl, rfl, trivial⟩, ⟨_, _, ?_, I2, C2, x2⟩, ?_⟩
  · intro a b
    cases hg : getE (a, b) es with
    | none => exact .inl (Q.none (a, b) hg).symm
    | some r =>
      obtain ⟨e, he, hk, _⟩ := at_ _ r hg
      exact .inr ⟨e, by simpa [leftE] using he, hk⟩
  rintro z h3 ⟨F3, q3, hq3, I3, C3, x3⟩
  refine xnext_ok I3 sE (fun hl => ?_) fun e he h4 r4 I4 => ?_
  · obtain rfl : q3 = M.queues := by
      funext a b
      rcases hq3 a b with h | ⟨e, he, _⟩
      · exact h
      · rw [hl] at he; cases he
    exact ⟨cb, F3, Dc, rfl, C3, x3⟩
  have heE : e ∈ E := (List.mem_filter.1 he).1
  obtain ⟨⟨a, b⟩, r, hr, ek, ev⟩ := of_ e heE
  refine xentry_ok I4 sE heE ?_
  rw [ek, ev]
  have hge : h.size ≤ it := n2.ge x1
  have x4 : Ext h h4 := r4.ext x3 hge
  obtain ⟨rn, ro, ra⟩ := Q.some (a, b) r hr
  intro kb h5 n5
  refine ⟨rfl, rfl, canset_blk n5.this rfl, fun h6 s6 => ?_⟩
  have hkb : h6[kb]? = some (.cells [.int .i64 a, .int .i64 b].toArray 130 (0, 0)) := s6.put n5.this
  have C4 := C3.aside I3.it (fun _ _ _ e => by cases e) (fun _ _ e => by cases e) r4
  have y46 : Ext h4 h6 := n5.ext.stored s6 (n5.ge (Ext.refl _))
  have C6 := C4.ext y46
  have x6 := x4.trans y46
  have hq64 := K.q a b
  have hr64 := po.ring1
  have hlen : (M.queues (a, b).1 (a, b).2).length ≤ 100000 := by show (M.queues a b).length ≤ _; omega
  refine ⟨_, cell_blk C6.blk rfl, [.int .i64 a, .int .i64 b], rfl, reads_all hkb, ?_⟩
  refine (iClone_spec (OwnA.row (ro.ext x6) encI_len) (fun e => ?_) rn.symm hlen).mono ?_
  · rcases ro with ⟨_, e, _⟩ | ⟨_, _, e', _⟩
    · exact e
    · rw [e] at e'; cases e'
  rintro v h7 ⟨A', c', rfl, o7, g7, x7⟩
  refine ⟨⟨reads_all (x7.blk hkb), cell_blk (x7.blk C6.blk) rfl, trivial⟩, ?_⟩
  obtain ⟨es6, m6, Q6⟩ := C6.queues
  have m7 := m6.ext x7
  refine xmapUpdate_ok (encV := encQv) pairLaw Tryz.underlying130 mapQTy m7 (a, b) ⟨A', r.n, c'⟩ fun h8 m8 r8 => ?_
  have x7h := x6.trans x7
  have x8 := r8.ext x7h mg
  rw [rn] at m8
  obtain ⟨F', hF', C8, f8⟩ := C6.newQueue (by decide) (by decide) (by decide) (by decide) (by decide) (by decide) Q6 (A := none) (l := M.queues a b) (.inl rfl) (x7.keepA _) (o7.mono x6.size) (by
    cases A' with
    | none => exact .inr (.inl rfl)
    | some z =>
      rcases o7 with ⟨e, _⟩ | ⟨b', _, e, hg, _⟩
      · cases e
      · exact .inr (.inr ⟨b', e, hg⟩)) m8 r8 m7
  have I7 : ItAt h7 it D.mb E clock (z.push e.born) := ⟨(y46.trans x7).blk I4.map, (y46.trans x7).blk I4.it⟩
  have nmb : it ≠ mb := by
    obtain ⟨_, _, hb, _⟩ := m7
    rintro rfl
    have := I7.it
    rw [hb] at this; cases this
  have nDm : D.mb ≠ mb := by have := blk_lt hE; omega
  have I8 : ItAt h8 it D.mb E clock (z.push e.born) := ⟨r8.blk I7.map nDm, r8.blk I7.it nmb⟩
  refine ⟨z.push e.born, ⟨rfl, rfl, trivial⟩, ⟨F', _, fun a' b' => ?_, I8, C8, x8⟩, left_push he⟩
  show setQ q3 a b (M.queues a b) a' b' = M.queues a' b' ∨ _
  unfold setQ
  by_cases hk : a' = a ∧ b' = b
  · rw [if_pos hk, hk.1, hk.2]; exact .inl rfl
  · rw [if_neg hk]
    rcases hq3 a' b' with hh | ⟨e', he', hk'⟩
    · exact .inl hh
    · refine .inr ⟨e', left_other he' fun hb => hk ?_, hk'⟩
      have := sE.inj (List.mem_filter.1 he').1 heE hb
      subst this
      rw [hk'] at ek
      simpa [encPr] using ek
end
end Go.Proofs.YtgiofdiifkahoaaGreatE
