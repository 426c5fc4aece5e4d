/- What the law BucketOnce answers: yes. Conditions: the arguments are of their types. -/
import Derived.Test.YtkppagdjakllpaaXA6
import Derived.Test.YtkppagdjakllpaaXM7
set_option linter.unusedVariables false
set_option linter.unusedSimpArgs false
set_option maxRecDepth 100000
namespace Go.Proofs.YtkppagdjakllpaaE
open Go Go.Proofs
def env_lOnce : Nat → Ann
  | 6 => ⟨.op 0 [] <| .op 1 [] <| .op 2 [] <| .op 3 [] <| .op 4 [] <| .op 6 [] <| .op 7 [] <| .op 8 [] <| .op 9 [] <| .op 10 [] <| .op 11 [] <| .op 12 [] <| .op 13 [] <| .alt (.op 5 [10] <| .op 14 [4, 10] <| .op 15 [10] <| .op 16 [] <| .nil) (.op 14 [4, 10] <| .op 5 [10] <| .op 15 [10] <| .op 16 [] <| .nil), [0, 0, 3, 7, 15, 31, 0, 0, 192, 448, 960, 1984, 4032, 8128, 0, 16447, 65535], false⟩
  | 7 => ⟨.nil, [], true⟩
  | 9 => ⟨.op 0 [] <| .op 1 [] <| .op 3 [] <| .op 4 [] <| .op 5 [] <| .op 6 [] <| .op 7 [] <| .op 8 [] <| .op 2 [8] <| .op 9 [] <| .op 10 [] <| .op 11 [] <| .op 12 [] <| .op 13 [] <| .op 14 [] <| .nil, [0, 0, 2, 0, 0, 0, 48, 112, 240, 511, 1023, 2047, 2047, 4095, 16383], false⟩
  | 19 => ⟨.op 0 [] <| .op 1 [] <| .op 3 [] <| .op 4 [] <| .op 5 [] <| .op 6 [] <| .op 7 [] <| .op 8 [] <| .op 2 [8] <| .op 9 [] <| .op 10 [] <| .op 11 [] <| .op 12 [] <| .op 13 [] <| .op 14 [] <| .nil, [0, 0, 2, 0, 0, 0, 48, 112, 240, 511, 1023, 2047, 2047, 4095, 16383], false⟩
  | 20 => ⟨.nil, [], true⟩
  | 27 => ⟨.op 0 [] <| .op 1 [] <| .op 2 [] <| .op 3 [] <| .op 4 [] <| .op 5 [] <| .op 6 [] <| .op 7 [] <| .op 8 [] <| .op 9 [] <| .op 10 [] <| .op 11 [] <| .op 12 [] <| .op 13 [] <| .op 14 [] <| .op 15 [] <| .op 16 [] <| .op 17 [] <| .op 18 [] <| .op 19 [] <| .op 20 [] <| .op 21 [] <| .op 22 [] <| .op 23 [] <| .op 24 [] <| .op 25 [] <| .op 26 [] <| .nil, [0, 0, 3, 7, 15, 31, 63, 63, 255, 511, 1023, 2047, 4095, 8191, 8191, 32767, 65535, 131071, 262143, 8191, 8191, 1581055, 3678207, 7872511, 16261119, 33554431, 67108863], false⟩
  | _ => ⟨.nil, [], false⟩
def encK (k : Int × Int) : Value := .agg #[.int .i64 k.1, .int .u64 k.2]
theorem keyCheck (b : Bool) (k : Int × Int) (w : World) : (Instr.checkKey b 10000 25 (encK k)).run Try.prog w = .ok () w := by kernel_rfl
theorem keySame (k : Int × Int) : Instr.sameBits 10000 (encK k) (encK k) = true := by
  have : Instr.sameBits 10000 (encK k) (encK k) = ((k.1 == k.1) && ((k.2 == k.2) && true)) := by kernel_rfl
  rw [this]; simp
theorem keyLaw : KeyLaw Try.prog 25 encK := by
  refine ⟨keyCheck, keySame, .inl fun kind a b hu => ?_, fun a b w => ?_⟩
  · cases kind <;> rfl
  · have h := (eqv_sound Try.prog 60).1 Op.maxDepth 25 (encK a) (encK b) _ w (by decide) (eqKeyR a.1 a.2 b.1 b.2)
    rw [show decide (a = b) = (a.1 == b.1 && (a.2 == b.2 && true)) from ?_]
    · exact h
    · rw [Bool.eq_iff_iff]; simp [Prod.ext_iff]
def encO (z : Int) : Value := .int .i64 z
structure Seen where
  vid : Int
  mac : Int
  port : Int
  now : Int
def encS (s : Seen) : List Value := [.int .i64 s.vid, .int .u64 s.mac, .int .i64 s.port, .int .u32 s.now]
theorem encS_len (s : Seen) : (encS s).length = 4 := rfl
theorem Remapped.blk {h h' : Heap} {mb k : Nat} {o : Obj} (r : Remapped h mb h') (H : h[k]? = some o) (hk : k ≠ mb) : h'[k]? = some o := (r.other k hk).trans H
theorem Remapped.ext {h0 h h' : Heap} {mb : Nat} (r : Remapped h mb h') (x : Ext h0 h) (hb : h0.size ≤ mb) : Ext h0 h' := ⟨by rw [r.size]; exact x.size, fun k hk => (r.other k (by omega)).trans (x.old k hk)⟩
theorem MapAt.ne {α β : Type} {encK : α → Value} {encV : β → Value} {h : Heap} {mb k : Nat} {O : List (α × β)} {c : Array Value} {e : TypeId} {f : Nat × Nat} (H : MapAt encK encV h mb O) (hk : h[k]? = some (.cells c e f)) : k ≠ mb := by
  obtain ⟨E, cl, hb, _⟩ := H
  rintro rfl
  rw [hb] at hk; cases hk
theorem MapAt.ext {α β : Type} {encK : α → Value} {encV : β → Value} {h h' : Heap} {mb : Nat} {O : List (α × β)} (H : MapAt encK encV h mb O) (x : Ext h h') : MapAt encK encV h' mb O := by
  obtain ⟨E, cl, hb, r⟩ := H
  exact ⟨E, cl, x.blk hb, r⟩
theorem OwnA.remapped {α : Type} {enc : α → List Value} {sz : Nat} {T : TypeId} {base mb : Nat} {h h' : Heap} {A : Option Addr} {c : Nat} {xs : List α} {κ β : Type} {encK : κ → Value} {encV : β → Value} {O : List (κ × β)}
    (H : OwnA enc sz T base h A c xs) (m : MapAt encK encV h mb O) (r : Remapped h mb h') : OwnA enc sz T base h' A c xs := by
  rcases H with H | ⟨b, rest, e, hg, hb, hr, hc⟩
  · exact .inl H
  · exact .inr ⟨b, rest, e, hg, r.blk hb (m.ne hb), hr, hc⟩
theorem prt_eq (p : Int) : IntKind.i64.wrap ((IntKind.u64.wrap p).tmod 64) = p % 18446744073709551616 % 64 := by
  rw [IntKind.wrap_u64, Int.tmod_eq_emod_of_nonneg (by omega), wrap_i64 (by omega) (by omega)]
theorem places_eq (p : Int) : IntKind.i64.wrap (1 + IntKind.i64.wrap ((IntKind.u64.wrap p).tmod 8)) = ((1 + (p % 18446744073709551616 % 8).toNat : Nat) : Int) := by
  rw [IntKind.wrap_u64, Int.tmod_eq_emod_of_nonneg (by omega), wrap_i64 (x := p % 18446744073709551616 % 8) (by omega) (by omega), wrap_i64 (by omega) (by omega)]; omega
theorem xlookup_hit {α β : Type} [DecidableEq α] {encK : α → Value} {encV : β → Value} {P : Program} {T : TypeId} (L : KeyLaw P T encK) {kind : TypeDesc} {M V : TypeId} {z : Value} {h : Heap} {b : Nat} {es : List (α × β)} {K : Value → (Heap → Prop) → Prop} (hu : P.underlying T = some kind) (hM : P.underlying M = some (.map T V))
    (hz : ∀ w, (zeroValue V).run P w = .ok z w) (hm : MapAt encK encV h b es) (k : α) {v : β} (hg : getE k es = some v) (hk : ∀ F, K (.tuple #[encV v, .bool true]) F) : XGet P (Instr.lookup M (.map (some b)) (encK k) true) h K :=
  xlookup_ok L hu hM hz hm k fun F => by rw [hg]; exact hk F
theorem mapTy : Try.prog.underlying 70 = some (.map 25 3) := by kernel_rfl
theorem lOnce_spec {A : Option Addr} {xs : List Seen} {c : Nat} {places : Int} {h : Heap} (hr : Row encS 4 h A xs) (wf : ∀ s ∈ xs, KeyWf s.vid s.mac) {n : Nat} (hl : xs.length = n) (hn : n ≤ 140737488355328) :
    HCalls Try.prog 8 #[.int .i64 places, .slice A n c] h (fun v h' => v = .bool true ∧ Ext h h') := by
  subst hl
  obtain ⟨m, hm⟩ : ∃ m, 1 + (places % 18446744073709551616 % 8).toNat = m := ⟨_, rfl⟩
  have hm8 : 1 ≤ m ∧ m ≤ 8 := by omega
  have hpl := places_eq places
  rw [hm] at hpl
  obtain ⟨X, hX⟩ : ∃ X, IntKind.i64.wrap (1 + IntKind.i64.wrap ((IntKind.u64.wrap places).tmod 8)) = X := ⟨_, rfl⟩
  rw [hX] at hpl
  have hp0 : 0 ≤ X := by omega
  have hp1 : ((40 : Nat) : Int) * X ≤ 140737488355328 := by omega
  have hp2 : X ≤ 9223372036854775807 := by omega
  have hXm : X.toNat = m := by omega
  subst hX
  refine xcalls env_lOnce Try.func8 rfl (by kernel_rfl) rfl (by kernel_rfl) ?_
  refine ⟨by decide, hp0, Int.le_refl _, hp1, hp2, ?_⟩
  intro b0 h1 n1
  rw [hXm] at n1
  have own1 : OwnA encP 6 75 h.size h1 (some ⟨b0, 0, none⟩) m (List.replicate m Place.none) := OwnA.made (z := Place.none) m n1 rfl (Nat.le_refl _)
  refine xmakeMap_ok fun mb h2 n2 => ?_
  have hmb : h.size ≤ mb := n2.ge n1.ext
  refine ⟨Nat × Nat × List Place × List (Ky × Int), fun s => [(1, .slice A xs.length c), (5, .slice (some ⟨s.2.1, 0, none⟩) m m), (6, .map (some mb)), (7, .int .i64 s.1)],
    fun s h' => s.1 ≤ xs.length ∧ s.2.2.1.length = m ∧ OwnA encP 6 75 h.size h' (some ⟨s.2.1, 0, none⟩) m s.2.2.1 ∧ MapAt encK encO h' mb s.2.2.2 ∧ Inv s.2.2.1 s.2.2.2 ∧ Ext h h', fun s => xs.length - s.1, (0, b0, List.replicate m Place.none, []),
    ⟨rfl, congrArg (fun z => some (Value.slice (some ⟨b0, 0, none⟩) z z)) hXm, rfl, rfl, trivial⟩, ⟨Nat.zero_le _, by simp, own1.ext n2.ext, mapAt_nil n2, inv_start m, n1.ext.trans n2.ext⟩, ?_⟩
  rintro ⟨i, lb, L, O⟩ h3 ⟨hi, hL, own3, map3, inv3, x3⟩
  simp only at hi hL own3 map3 inv3
  have done : ∀ hX, Ext h hX → ∀ (P : Value → Heap → Prop), (∀ v h', (v = .bool true ∧ Ext h h') → P v h') → HCalls Try.prog 19 #[] hX P := fun hX x P hP => (told10_spec hX).mono fun v h' hv => hP v h' ⟨hv.1, x.trans hv.2⟩
  refine xif_of (fun hlt => ?_) (fun hge => ?_)
  · have hlt : i < xs.length := by simpa using hlt
    refine xif_of (fun _ => ?_) (fun _ => ?_)
    · obtain ⟨s, hs⟩ : ∃ s, xs[i]? = some s := ⟨xs[i], by simp [hlt]⟩
      have swf := wf s (List.mem_of_getElem? hs)
      obtain ⟨a, rfl, hrd⟩ := (x3.row hr) i s hs
      have st1 : cell h3 ((a.add (i * 4)).add 2) = some (.int .i64 s.port) := hrd.get 2 rfl
      refine ⟨(Nat × Nat), fun z => [(1, .slice (some a) xs.length c), (5, .slice (some ⟨lb, 0, none⟩) m m), (6, .map (some mb)), (7, .int .i64 i), (8, .pointer (some ⟨z.1, 0, none⟩)), (9, .int .i64 (s.port % 18446744073709551616 % 64))],
        fun z h' => h'[z.1]? = some (.cells [.int .i64 (fixVid s.vid), .int .u64 (fixMac s.mac)].toArray 25 (0, 0)) ∧ Ext h3 h', ?_, ?_⟩
      · refine ⟨a, rfl, (by show (0 : Int) ≤ i; omega), (by show (i : Int) < xs.length; omega), [.int .i64 s.vid, .int .u64 s.mac], rfl, hrd.sub 0 rfl, ?_⟩
        refine ⟨a, rfl, (by show (0 : Int) ≤ i; omega), (by show (i : Int) < xs.length; omega), _, st1, by decide, ?_, ?_⟩
        · refine (rKeyFix_spec swf _).mono ?_
          rintro v h4 ⟨rfl, x4⟩
          refine ⟨⟨x4.cell st1, trivial⟩, ?_⟩
          intro kb h5 n5
          refine ⟨⟨n5.ext.cell (x4.cell st1), n5.ext.reads (x4.reads (hrd.sub 0 rfl)), trivial⟩, ?_⟩
          refine ⟨rfl, rfl, canset_blk n5.this rfl, fun h6 s6 => ?_⟩
          have x6 := (x4.trans n5.ext).stored s6 (n5.ge x4)
          refine ⟨⟨x6.cell st1, trivial⟩, ?_⟩
          exact ⟨(kb, 0), ⟨rfl, rfl, rfl, rfl, rfl, congrArg (fun z => some (Value.int .i64 z)) (prt_eq s.port), trivial⟩, s6.put n5.this, x6⟩
        · intro kb h4 n4
          refine ⟨⟨n4.ext.cell st1, n4.ext.reads (hrd.sub 0 rfl), trivial⟩, ?_⟩
          refine (rKeyFix_spec swf _).mono ?_
          rintro v h5 ⟨rfl, x5⟩
          refine ⟨⟨x5.cell (n4.ext.cell st1), trivial⟩, ?_⟩
          refine ⟨rfl, rfl, canset_blk (x5.blk n4.this) rfl, fun h6 s6 => ?_⟩
          have x6 := (n4.ext.trans x5).stored s6 (n4.ge (Ext.refl _))
          refine ⟨⟨x6.cell st1, trivial⟩, ?_⟩
          exact ⟨(kb, 0), ⟨rfl, rfl, rfl, rfl, rfl, congrArg (fun z => some (Value.int .i64 z)) (prt_eq s.port), trivial⟩, s6.put (x5.blk n4.this), x6⟩
      · rintro ⟨kb, _⟩ h6 ⟨hkb, x36⟩
        simp only at hkb
        have own6 := own3.ext x36
        have map6 := map3.ext x36
        have x06 := x3.trans x36
        have rd6 := x36.reads hrd
        have ne6 := map6.ne hkb
        obtain ⟨prt, hprt⟩ : ∃ z, s.port % 18446744073709551616 % 64 = z := ⟨_, rfl⟩
        have hp0 : 0 ≤ prt := by omega
        have hp1 : prt < 64 := by omega
        have kwf := fix_wf s.vid s.mac
        have hmay : mayM (fixVid s.vid) (fixMac s.mac) prt = true := by simp [mayM, fix_ok, hp0, hp1]
        rw [hprt]
        refine ⟨(Nat × List Place × List (Ky × Int) × Int), fun z => [(1, .slice (some a) xs.length c), (5, .slice (some ⟨z.1, 0, none⟩) m m), (6, .map (some mb)), (7, .int .i64 i), (10, .int .i64 z.2.2.2)],
          fun z h' => z.2.1.length = m ∧ OwnA encP 6 75 h.size h' (some ⟨z.1, 0, none⟩) m z.2.1 ∧ MapAt encK encO h' mb z.2.2.1 ∧ Inv z.2.1 z.2.2.1 ∧ (0 ≤ z.2.2.2 ∧ z.2.2.2 ≤ 5) ∧ Ext h h', ?_, ?_⟩
        · have stn : cell h6 ((a.add (i * 4)).add 3) = some (.int .u32 s.now) := rd6.get 3 rfl
          have p0 : (0 : Int) ≤ i := by omega
          have p1 : (i : Int) < xs.length := by omega
          refine ⟨a, rfl, p0, p1, _, x36.cell st1, by decide, ?_⟩
          refine xif_of (fun _ => ?_) (fun _ => ?_)
          · refine ⟨_, rfl, reads_all hkb, a, rfl, p0, p1, _, stn, ?_⟩
            refine (l8To_spec _ _ _).mono ?_
            rintro v h7 ⟨rfl, x7⟩
            refine ⟨⟨x7.cell stn, trivial⟩, ?_⟩
            refine (bOrder_spec ((own6.ext x7).row encP_len) hL (by omega) kwf).mono ?_
            rintro v h8 ⟨nb, rfl, own8, x8⟩
            have io := inv_order (now := s.now) inv3 hmay
            have x68 := x7.trans x8
            have x08 := x06.trans x68
            have own8 := own8.mono (x06.trans x7).size
            refine xif_of (fun hne => ?_) (fun he => ?_)
            · have hne : ¬ (orderM L (fixVid s.vid) (fixMac s.mac) prt s.now).2 = 5 := by simpa using hne
              refine ⟨_, rfl, reads_all (x68.blk hkb), ?_⟩
              refine xmapUpdate_ok keyLaw Try.underlying25 mapTy (map6.ext x68) (fixVid s.vid, fixMac s.mac) prt fun h9 m9 r9 => ?_
              rw [if_neg hne] at io
              exact ⟨(nb, _, _, _), ⟨rfl, rfl, rfl, rfl, rfl, trivial⟩, by rw [orderM_len]; exact hL, own8.remapped (map6.ext x68) r9, m9, io.1, io.2, r9.ext x08 hmb⟩
            · have he : (orderM L (fixVid s.vid) (fixMac s.mac) prt s.now).2 = 5 := by simpa using he
              rw [if_pos he] at io
              exact ⟨(nb, _, _, _), ⟨rfl, rfl, rfl, rfl, rfl, trivial⟩, by rw [orderM_len]; exact hL, own8, map6.ext x68, io.1, io.2, x08⟩
          · refine ⟨a, rfl, p0, p1, _, x36.cell st1, by decide, ?_⟩
            refine xif_of (fun _ => ?_) (fun _ => ?_)
            · refine ⟨_, rfl, reads_all hkb, ?_⟩
              refine (l8To_spec _ _ _).mono ?_
              rintro v h7 ⟨rfl, x7⟩
              refine (bDrop_spec ((own6.ext x7).row encP_len) hL (by omega)).mono ?_
              rintro v h8 ⟨nb, rfl, own8, x8⟩
              have io := inv_drop inv3 (fixVid s.vid) (fixMac s.mac)
              have x68 := x7.trans x8
              have x08 := x06.trans x68
              have own8 := own8.mono (x06.trans x7).size
              refine ⟨_, rfl, reads_all (x68.blk hkb), ?_⟩
              refine xlookup_ok (z := .int .i64 0) (encV := encO) keyLaw Try.underlying25 mapTy (fun _ => by kernel_rfl) (map6.ext x68) (fixVid s.vid, fixMac s.mac) fun F => ?_
              refine xif_of (fun hd => ?_) (fun hd => ?_)
              · exfalso
                rw [io.2] at hd
                simp at hd
              · refine ⟨_, rfl, reads_all (x68.blk hkb), ?_⟩
                refine xdelete_ok keyLaw Try.underlying25 mapTy (map6.ext x68) (fixVid s.vid, fixMac s.mac) fun h9 m9 r9 => ?_
                exact ⟨(nb, _, _, _), ⟨rfl, rfl, rfl, rfl, rfl, trivial⟩, by rw [dropM_len]; exact hL, own8.remapped (map6.ext x68) r9, m9, io.1, ⟨(by show (0 : Int) ≤ 0; decide), (by show (0 : Int) ≤ 5; decide)⟩, r9.ext x08 hmb⟩
            · refine ⟨_, rfl, reads_all hkb, a, rfl, p0, p1, _, stn, ?_⟩
              refine (l8To_spec _ _ _).mono ?_
              rintro v h7 ⟨rfl, x7⟩
              refine ⟨⟨x7.cell stn, trivial⟩, ?_⟩
              refine (bLearn_spec ((own6.ext x7).row encP_len) hL (by omega) kwf).mono ?_
              rintro v h8 ⟨nb, rfl, own8, x8⟩
              have io := inv_learn (now := s.now) inv3 hmay
              exact ⟨(nb, _, _, _), ⟨rfl, rfl, rfl, rfl, rfl, trivial⟩, by rw [learnM_len]; exact hL, own8.mono (x06.trans x7).size, map6.ext (x7.trans x8), io.1, io.2, x06.trans (x7.trans x8)⟩
        · rintro ⟨lb, L, O, n5⟩ h7 ⟨hL, own7, map7, inv7, hn5, x7⟩
          simp only at hL own7 map7 inv7 hn5
          have row7 := own7.row encP_len
          refine ⟨Nat, fun z => [(1, .slice (some a) xs.length c), (5, .slice (some ⟨lb, 0, none⟩) m m), (6, .map (some mb)), (7, .int .i64 i), (10, .int .i64 n5), (14, .int .i64 (statics L z)), (15, .int .i64 z)],
            fun z h' => z ≤ m ∧ statics L z ≤ z ∧ Ext h7 h', fun z => m - z, 0, ⟨rfl, rfl, rfl, rfl, rfl, rfl, rfl, trivial⟩, ⟨Nat.zero_le _, Nat.le_refl _, Ext.refl _⟩, ?_⟩
          rintro ai h8 ⟨hai, hst, x78⟩
          refine xif_of (fun hlt => ?_) (fun hge => ?_)
          · have hlt : (ai : Int) < m := of_decide_eq_true hlt
            have hlt : ai < m := by omega
            obtain ⟨p, hp⟩ : ∃ p, L[ai]? = some p := ⟨L[ai]'(by omega), List.getElem?_eq_getElem (by omega)⟩
            obtain ⟨a1, ha1, rp⟩ := (x78.row row7) ai p hp
            cases ha1
            have q0 : (0 : Int) ≤ ai := by omega
            have q1 : (ai : Int) < m := by omega
            refine ⟨Nat, fun z => [(1, .slice (some a) xs.length c), (5, .slice (some ⟨lb, 0, none⟩) m m), (6, .map (some mb)), (7, .int .i64 i), (10, .int .i64 n5), (14, .int .i64 (statics L ai)), (15, .int .i64 ai), (16, .int .i64 z)],
              fun z h' => z ≤ ai ∧ h' = h8, fun z => ai - z, 0, ⟨rfl, rfl, rfl, rfl, rfl, rfl, rfl, rfl, trivial⟩, ⟨Nat.zero_le _, rfl⟩, ?_⟩
            rintro bi h9 ⟨hbi, rfl⟩
            refine xif_of (fun hlt => ?_) (fun hge => ?_)
            · have hlt : (bi : Int) < ai := of_decide_eq_true hlt
              have hlt : bi < ai := by omega
              obtain ⟨q, hq⟩ : ∃ p, L[bi]? = some p := ⟨L[bi]'(by omega), List.getElem?_eq_getElem (by omega)⟩
              obtain ⟨a2, ha2, rq⟩ := (x78.row row7) bi q hq
              cases ha2
              have nxt : ∃ x' : Nat, (some (Value.slice (some a) xs.length c) = some (Value.slice (some a) xs.length c) ∧ some (Value.slice (some ⟨lb, 0, none⟩) m m) = some (Value.slice (some ⟨lb, 0, none⟩) m m) ∧ some (Value.map (some mb)) = some (Value.map (some mb)) ∧ some (Value.int .i64 (i : Int)) = some (Value.int .i64 (i : Int)) ∧ some (Value.int .i64 n5) = some (Value.int .i64 n5) ∧ some (Value.int .i64 (statics L ai : Int)) = some (Value.int .i64 (statics L ai : Int)) ∧ some (Value.int .i64 (ai : Int)) = some (Value.int .i64 (ai : Int)) ∧ some (Value.int .i64 (IntKind.i64.wrap ((bi : Int) + 1))) = some (Value.int .i64 (x' : Int)) ∧ True) ∧ (x' ≤ ai ∧ h9 = h9) ∧ ai - x' < ai - bi :=
                ⟨bi + 1, ⟨rfl, rfl, rfl, rfl, rfl, rfl, rfl, slot_inc (by omega), trivial⟩, ⟨by omega, rfl⟩, by omega⟩
              refine ⟨_, rfl, q0, q1, .bool p.used, rp.get 0 rfl, ?_⟩
              refine xif_of (fun hpu => ?_) (fun _ => nxt)
              refine ⟨_, rfl, (by show (0 : Int) ≤ bi; omega), (by show (bi : Int) < m; omega), .bool q.used, rq.get 0 rfl, ?_⟩
              refine xif_of (fun hqu => ?_) (fun _ => nxt)
              refine ⟨_, rfl, q0, q1, [.int .i64 p.vid, .int .u64 p.mac], rfl, rp.sub 1 rfl, ?_⟩
              refine ⟨_, rfl, (by show (0 : Int) ≤ bi; omega), (by show (bi : Int) < m; omega), [.int .i64 q.vid, .int .u64 q.mac], rfl, rq.sub 1 rfl, ?_⟩
              refine xeq_of (eqKeyG _ _) (eqKey _ _ _ _) ?_
              refine xif_of (fun he => ?_) (fun _ => nxt)
              exfalso
              simp only [Bool.and_true, Bool.and_eq_true, beq_iff_eq] at he
              refine flat_twice inv7.once hlt hp hq (x := (p.vid, p.mac)) ?_ ?_
              · simp only [usE, hpu]; simp
              · simp only [usE, hqu, he.1, he.2]; simp
            · have sn := statics_next hp
              have go : ∀ hX (k : Nat), Ext h9 hX → (if p.used = true ∧ p.static = true then 1 else 0) = k → ∀ (v : Int), v = ((statics L ai + k : Nat) : Int) → ∃ x' : Nat, (some (Value.slice (some a) xs.length c) = some (Value.slice (some a) xs.length c) ∧ some (Value.slice (some ⟨lb, 0, none⟩) m m) = some (Value.slice (some ⟨lb, 0, none⟩) m m) ∧ some (Value.map (some mb)) = some (Value.map (some mb)) ∧ some (Value.int .i64 (i : Int)) = some (Value.int .i64 (i : Int)) ∧ some (Value.int .i64 n5) = some (Value.int .i64 n5) ∧ some (Value.int .i64 v) = some (Value.int .i64 (statics L x' : Int)) ∧ some (Value.int .i64 (IntKind.i64.wrap ((ai : Int) + 1))) = some (Value.int .i64 (x' : Int)) ∧ True) ∧ (x' ≤ m ∧ statics L x' ≤ x' ∧ Ext h7 hX) ∧ m - x' < m - ai := by
                intro hX k x hk v hv
                rw [hk] at sn
                refine ⟨ai + 1, ⟨rfl, rfl, rfl, rfl, rfl, congrArg (fun z => some (Value.int .i64 z)) (by rw [hv, sn]), slot_inc (by omega), trivial⟩, ⟨by omega, ?_, x78.trans x⟩, by omega⟩
                rw [sn]
                have : k ≤ 1 := by rw [← hk]; split <;> omega
                omega
              refine ⟨_, rfl, q0, q1, .bool p.used, rp.get 0 rfl, ?_⟩
              refine xif_of (fun hpu => ?_) (fun hpu => ?_)
              · refine ⟨_, rfl, q0, q1, .bool p.static, rp.get 4 rfl, ?_⟩
                refine xif_of (fun hps => ?_) (fun hps => ?_)
                · have hk := inv7.known hp hpu
                  rw [if_pos hps] at hk
                  refine ⟨_, rfl, q0, q1, [.int .i64 p.vid, .int .u64 p.mac], rfl, rp.sub 1 rfl, ?_⟩
                  refine (l8From_spec _ _ _).mono ?_
                  rintro v h10 ⟨rfl, x10⟩
                  refine xlookup_hit (z := .int .i64 0) (encV := encO) keyLaw Try.underlying25 mapTy (fun _ => by kernel_rfl) (map7.ext (x78.trans x10)) (p.vid, p.mac) hk fun F => ?_
                  refine ⟨_, rfl, q0, q1, .int .i64 p.port, x10.cell (rp.get 3 rfl), ?_⟩
                  refine xif_of (fun h => absurd h (by simp)) (fun _ => ?_)
                  exact go h10 1 x10 (if_pos ⟨hpu, hps⟩) _ (wrap_i64 (by omega) (by omega))
                · exact go h9 0 (Ext.refl _) (if_neg (by simp [hps])) _ rfl
              · exact go h9 0 (Ext.refl _) (if_neg (by simp [hpu])) _ rfl
          · have hge : ¬ (ai : Int) < m := of_decide_eq_false hge
            have hcount := inv7.count (a := ai) (by omega)
            refine xlenMap_ok mapTy (map7.ext x78) fun F => ?_
            rw [hcount]
            refine xif_of (fun h => absurd h (by simp)) (fun _ => ?_)
            refine xif_of (fun h => ?_) (fun _ => ?_)
            · have : n5 < 0 := of_decide_eq_true h
              omega
            refine xif_of (fun h => ?_) (fun _ => ?_)
            · have : n5 > 5 := of_decide_eq_true h
              omega
            exact ⟨(i + 1, lb, L, O), ⟨rfl, rfl, rfl, slot_inc (by omega), trivial⟩, ⟨by omega, hL, own7.ext x78, map7.ext x78, inv7, x7.trans x78⟩, by show xs.length - (i + 1) < xs.length - i; omega⟩
    · exact done h3 x3 _ fun v h' hv => hv
  · exact done h3 x3 _ fun v h' hv => hv
end Go.Proofs.YtkppagdjakllpaaE
