/- What the program's model answers: ports are set, VLANs, what waits, what is sent; whatever is done. Conditions: the arguments are of their types. -/
import Derived.Test.YtcjoenkpibhmoaaGreatXN2
set_option linter.unusedVariables false
set_option linter.unusedSimpArgs false
set_option maxRecDepth 100000
namespace Go.Proofs.YtcjoenkpibhmoaaGreatE
open Go Go.Proofs
def env_mDo : Nat → Ann
  | 5 => ⟨.op 0 [] <| .op 1 [] <| .op 2 [] <| .op 3 [] <| .op 4 [] <| .op 5 [] <| .op 6 [] <| .op 7 [] <| .op 8 [] <| .op 9 [] <| .nil, [0, 1, 3, 7, 0, 16, 63, 127, 255, 511], false⟩
  | _ => ⟨.nil, [], false⟩
def env_mSet : Nat → Ann
  | 4 => ⟨.op 0 [] <| .op 1 [] <| .op 2 [] <| .op 3 [] <| .op 4 [] <| .op 5 [] <| .op 6 [] <| .op 7 [] <| .nil, [0, 1, 3, 7, 0, 0, 63, 127], false⟩
  | _ => ⟨.nil, [], false⟩
def env_mSetVlan : Nat → Ann
  | 1 => ⟨.op 0 [] <| .op 1 [] <| .op 2 [] <| .op 3 [] <| .op 4 [] <| .op 5 [] <| .op 6 [] <| .op 7 [] <| .nil, [0, 1, 3, 7, 0, 16, 63, 127], false⟩
  | 4 => ⟨.op 0 [] <| .op 1 [] <| .op 2 [] <| .op 3 [] <| .op 4 [] <| .op 5 [] <| .op 6 [] <| .op 7 [1] <| .op 8 [] <| .op 9 [] <| .nil, [0, 1, 0, 4, 12, 28, 60, 124, 255, 511], false⟩
  | 5 => ⟨.op 0 [] <| .op 1 [] <| .op 2 [] <| .op 3 [] <| .op 4 [] <| .op 5 [] <| .op 6 [] <| .op 7 [] <| .op 8 [] <| .op 9 [] <| .op 10 [] <| .op 11 [] <| .op 12 [] <| .op 13 [] <| .op 14 [] <| .op 15 [] <| .op 16 [] <| .op 17 [12] <| .op 18 [] <| .op 19 [] <| .op 20 [] <| .nil, [0, 1, 3, 7, 0, 0, 32, 96, 224, 0, 0, 0, 2048, 0, 14336, 1535, 34303, 99839, 262143, 524287, 1048575], false⟩
  | _ => ⟨.nil, [], false⟩
def env_mPut : Nat → Ann
  | 1 => ⟨.op 0 [] <| .op 1 [] <| .op 2 [] <| .op 3 [] <| .op 4 [] <| .op 5 [] <| .op 6 [] <| .op 7 [] <| .op 8 [] <| .op 9 [] <| .op 10 [] <| .op 11 [] <| .op 12 [] <| .nil, [0, 1, 3, 7, 0, 31, 63, 0, 128, 384, 896, 1920, 4095], false⟩
  | 3 => ⟨.op 0 [] <| .op 1 [] <| .op 2 [] <| .op 3 [] <| .op 4 [] <| .op 5 [] <| .op 6 [3, 4] <| .op 7 [] <| .op 8 [] <| .op 10 [] <| .op 9 [] <| .op 11 [] <| .nil, [0, 1, 3, 7, 0, 0, 32, 127, 255, 511, 255, 2047], false⟩
  | _ => ⟨.nil, [], false⟩
def env_mGet : Nat → Ann
  | 1 => ⟨.op 0 [] <| .op 1 [] <| .op 2 [] <| .op 3 [] <| .op 4 [] <| .op 5 [] <| .op 6 [] <| .nil, [0, 1, 3, 7, 0, 31, 63], false⟩
  | 4 => ⟨.op 0 [] <| .op 1 [] <| .op 2 [] <| .op 3 [] <| .op 4 [] <| .op 5 [] <| .op 6 [] <| .op 7 [3, 4] <| .op 8 [] <| .nil, [0, 1, 3, 7, 0, 0, 32, 96, 255], false⟩
  | _ => ⟨.nil, [], false⟩
section
variable {base : Nat} {F : Nat → Prop} {h h1 h' : Heap} {m : Nat} {D : Dat} {p : Pl} {M M' : Md}
theorem mSet_spec (K : MdOk p M) (hp : p.ports ≤ 64) (H : MdP base F h m D p M) {n s : Int} (h0 : 0 ≤ n) (hn : n < p.ports) :
    HCalls Tryz.prog 107 #[.pointer (some ⟨m, 0, none⟩), .int .i64 n, .int .i64 s] h (fun v h' => v = .int .i64 (if rightSt s = false then -1 else IntKind.i64.wrap (IntKind.u32.wrap ((M.stands.getD n.toNat ⟨0, 0⟩).ep + 1))) ∧
      Did base F h m D p (if rightSt s = false then M else { M with stands := M.stands.set n.toNat ⟨s, IntKind.u32.wrap ((M.stands.getD n.toNat ⟨0, 0⟩).ep + 1)⟩ }) h') := by
  obtain ⟨k, rfl⟩ : ∃ k : Nat, n = k := ⟨n.toNat, by omega⟩
  have hst := K.st
  obtain ⟨w, hw⟩ : ∃ w, M.stands[k]? = some w := ⟨M.stands[k]'(by omega), List.getElem?_eq_getElem (by omega)⟩
  have hg : M.stands.getD (k : Int).toNat ⟨0, 0⟩ = w := by rw [Int.toNat_natCast, List.getD_eq_getElem?_getD, hw]; rfl
  rw [hg]
  refine xcalls env_mSet Tryz.func107 rfl (by kernel_rfl) rfl (by kernel_rfl) ?_
  obtain ⟨a, ha, hrd⟩ := (H.stands.row encSn_len) k w hw
  cases ha
  refine ⟨_, cell_blk H.blk rfl, _, rfl, by omega, by omega, encSn w, rfl, hrd, ?_⟩
  refine (pSet_spec w s).mono ?_
  rintro v h1 ⟨rfl, x1⟩
  cases hq : rightSt s with
  | false =>
    rw [if_neg (show ¬ (false = true) by decide), if_neg (show ¬ (false = true) by decide), if_pos (show false = false from rfl), if_pos (show false = false from rfl)]
    intro b2 h2 n2
    refine ⟨rfl, rfl, canset_blk n2.this rfl, fun h3 s3 => ?_⟩
    exact ⟨rfl, Did.same H (x1.trans ((Ext.refl _ |>.trans n2.ext).stored s3 (n2.ge (Ext.refl _))))⟩
  | true =>
    rw [if_pos (show true = true from rfl), if_pos (show true = true from rfl), if_neg (show ¬ (true = false) by decide), if_neg (show ¬ (true = false) by decide)]
    intro b2 h2 n2
    refine ⟨rfl, rfl, canset_blk n2.this rfl, fun h3 s3 => ?_⟩
    have hb : h3[b2]? = some (.cells (encSn ⟨s, IntKind.u32.wrap (w.ep + 1)⟩).toArray 193 (0, 0)) := s3.put n2.this
    have x13 : Ext h1 h3 := (Ext.refl _ |>.trans n2.ext).stored s3 (n2.ge (Ext.refl _))
    have H3 := H.ext (x1.trans x13)
    obtain ⟨b', e, _, hcs⟩ := H3.stands.canset encSn_len (i := k) (j := 0) (n := 2) (by omega) (by omega)
    cases e
    refine ⟨_, cell_blk H3.blk rfl, encSn ⟨s, IntKind.u32.wrap (w.ep + 1)⟩, rfl, reads_all hb, _, rfl, by omega, by omega, rfl, rfl, ?_, fun h4 s4 => ?_⟩
    · show CanSet h3 ((⟨D.sb, 0, none⟩ : Addr).add ((k : Int).toNat * 2)) 2
      rw [add_lit]; simpa using hcs
    have s4' : Stored h3 ⟨D.sb, k * 2 + 0, none⟩ (encSn ⟨s, IntKind.u32.wrap (w.ep + 1)⟩) h4 := by
      have : Stored h3 ((⟨D.sb, 0, none⟩ : Addr).add ((k : Int).toNat * 2)) (encSn ⟨s, IntKind.u32.wrap (w.ep + 1)⟩) h4 := s4
      rw [add_lit] at this
      simpa using this
    have ho := H3.stands.put encSn_len (x' := ⟨s, IntKind.u32.wrap (w.ep + 1)⟩) rfl s4' hw (by simp [encSn]) rfl
    have f4 : Fr (fun j => j = D.sb) h3 h4 := s4'.fr rfl
    have H4 := H3.newStands (by decide) (by decide) (by decide) (by decide) (by decide) (by decide) f4 (l := M.stands.set k ⟨s, IntKind.u32.wrap (w.ep + 1)⟩) (by simp) ho
    have hne : b2 ≠ D.sb := by
      obtain ⟨cx, hx⟩ := own_blk (H.ext x1).stands
      have := n2.lt hx
      omega
    refine ⟨_, cell_blk (f4.blk hb hne) rfl, rfl, Did.after (x1.trans x13) ⟨F, fun b hb => .inl hb, ?_, f4.mono fun j _ e => .inl e⟩⟩
    rw [Int.toNat_natCast]
    exact H4
theorem and_eq {a b : Int} (wa : SetWf a) (wb : SetWf b) : IntKind.u64.wrap ((BitVec.ofInt 64 a &&& BitVec.ofInt 64 b).toNat : Int) = andM a b := by
  have h := andM_wf (b := b) wa
  rw [BitVec.toNat_and, ofInt_toNat wa.lo wa.hi, ofInt_toNat wb.lo wb.hi]
  exact wrap_u64 h.lo h.hi
theorem mSetVlan_spec (K : MdOk p M) (hv : M.vlans.length ≤ 1000) (H : MdP base F h m D p M) {o : Op17} (w : o.Wf) :
    HCalls Tryz.prog 108 #[.pointer (some ⟨m, 0, none⟩), .agg (encO17 o).toArray] h (fun v h' => v = .int .i64 (setVlanM p M o).2 ∧ Did base F h m D p (setVlanM p M o).1 h') := by
  unfold setVlanM
  refine xcalls env_mSetVlan Tryz.func108 rfl (by kernel_rfl) rfl (by kernel_rfl) ?_
  intro ob h1 n1
  have hb : h1[ob]? = some (.cells (encO17 o).toArray 113 (0, 0)) := n1.this
  have H1 := H.ext n1.ext
  refine ⟨_, cell_blk H1.blk rfl, _, cell_blk hb rfl, ?_⟩
  refine (vFind_spec (H1.vlans.row encVl_len) (by omega)).mono ?_
  rintro v h2 ⟨rfl, x2⟩
  have H2 := H1.ext x2
  have hb2 := x2.blk hb
  simp only
  rcases findV_range (vid := o.vid) M.vlans 0 with hf | ⟨f0, f1⟩
  · refine xif_of (fun _ => ?_) (fun q => absurd (of_decide_eq_false q) (by omega))
    rw [if_pos (by omega)]
    exact ⟨rfl, Did.same H (n1.ext.trans x2)⟩
  · refine xif_of (fun q => absurd (of_decide_eq_true q) (by omega)) (fun _ => ?_)
    obtain ⟨i, hi⟩ : ∃ i : Nat, findV o.vid M.vlans 0 = i := ⟨_, (Int.toNat_of_nonneg (by omega)).symm⟩
    have hil : i < M.vlans.length := by omega
    obtain ⟨w', hw⟩ : ∃ w, M.vlans[i]? = some w := ⟨M.vlans[i], List.getElem?_eq_getElem hil⟩
    have hg : M.vlans.getD (i : Int).toNat ⟨0, 0, 0⟩ = w' := by rw [Int.toNat_natCast, List.getD_eq_getElem?_getD, hw]; rfl
    rw [hi, if_neg (by omega), hg]
    have wall := allM_wf p.ports
    have e1 := and_eq w.mem wall
    have winn := andM_wf (b := allM p.ports) w.mem
    have e2 := and_eq w.unt winn
    refine ⟨_, cell_blk hb2 rfl, _, cell_blk H2.blk rfl, ?_⟩
    refine (vAll_spec p.ports).mono ?_
    rintro v h3 ⟨rfl, rfl⟩
    refine ⟨⟨cell_blk hb2 rfl, trivial⟩, ?_⟩
    obtain ⟨vb, hva, _, hcs⟩ := H2.vlans.canset encVl_len (i := i) (j := 1) (n := 1) hil (by omega)
    refine ⟨_, cell_blk H2.blk rfl, _, cell_blk H2.blk rfl, _, cell_blk hb2 rfl, ?_⟩
    have q0 : (0 : Int) ≤ i := by omega
    have q1 : (i : Int) < M.vlans.length := by omega
    refine ⟨_, hva, q0, q1, rfl, rfl, ?_, fun h4 s4 => ?_⟩
    · show CanSet h3 (((⟨vb, 0, none⟩ : Addr).add ((i : Int).toNat * 3)).add 1) 1
      rw [add_lit, add_lit]; simpa using hcs
    have s4' : Stored h3 (((⟨vb, 0, none⟩ : Addr).add ((i : Int).toNat * 3)).add 1) [.int .u64 (IntKind.u64.wrap ((BitVec.ofInt 64 o.mem &&& BitVec.ofInt 64 (allM p.ports)).toNat : Int))] h4 := s4
    rw [add_lit, add_lit, e1] at s4'
    simp only [Int.toNat_natCast, Nat.zero_add] at s4'
    have f4 : Fr (fun j => j = vb) h3 h4 := s4'.fr rfl
    have o4 := H2.vlans.put encVl_len (x' := { w' with mem := andM o.mem (allM p.ports) }) hva s4' hw (by simp) rfl
    have H4 := H2.newVlans (by decide) (by decide) (by decide) (by decide) (by decide) (by decide) hva f4 (l := M.vlans.set i { w' with mem := andM o.mem (allM p.ports) }) (by simp) o4
    have hil4 : i < (M.vlans.set i { w' with mem := andM o.mem (allM p.ports) }).length := by simpa using hil
    obtain ⟨vb', hva', _, hcs'⟩ := o4.canset encVl_len (i := i) (j := 2) (n := 1) hil4 (by omega)
    rw [hva] at hva'
    cases hva'
    have nb : ob ≠ vb := by
      obtain ⟨cx, hx⟩ := own_blk (b := vb) (by rw [← hva]; exact H.vlans)
      have := n1.lt hx
      omega
    refine ⟨⟨cell_blk (f4.blk hb2 nb) rfl, trivial⟩, ?_⟩
    refine ⟨_, hva, q0, q1, rfl, rfl, ?_, fun h5 s5 => ?_⟩
    · show CanSet h4 (((⟨vb, 0, none⟩ : Addr).add ((i : Int).toNat * 3)).add 2) 1
      rw [add_lit, add_lit]; simpa using hcs'
    have s5' : Stored h4 (((⟨vb, 0, none⟩ : Addr).add ((i : Int).toNat * 3)).add 2) [.int .u64 (IntKind.u64.wrap ((BitVec.ofInt 64 o.unt &&& BitVec.ofInt 64 (IntKind.u64.wrap ((BitVec.ofInt 64 o.mem &&& BitVec.ofInt 64 (allM p.ports)).toNat : Int))).toNat : Int))] h5 := s5
    rw [add_lit, add_lit, e1, e2] at s5'
    simp only [Int.toNat_natCast, Nat.zero_add] at s5'
    have f5 : Fr (fun j => j = vb) h4 h5 := s5'.fr rfl
    have hw4 : (M.vlans.set i { w' with mem := andM o.mem (allM p.ports) })[i]? = some { w' with mem := andM o.mem (allM p.ports) } := List.getElem?_set_self hil
    have o5 := o4.put encVl_len (x' := { w' with mem := andM o.mem (allM p.ports), unt := andM o.unt (andM o.mem (allM p.ports)) }) hva s5' hw4 (by simp) rfl
    rw [List.set_set] at o5
    have H5 := H4.newVlans (by decide) (by decide) (by decide) (by decide) (by decide) (by decide) hva f5 (l := M.vlans.set i { w' with mem := andM o.mem (allM p.ports), unt := andM o.unt (andM o.mem (allM p.ports)) }) (by simp) o5
    refine ⟨rfl, Did.after (n1.ext.trans x2) ⟨F, fun b hb => .inl hb, ?_, (f4.trans f5 fun k _ e => e).mono fun j _ e => .inr (.inl (by subst e; exact hva))⟩⟩
    rw [Int.toNat_natCast]
    exact H5
theorem pairCheck (b : Bool) (k : Int × Int) (w : World) : (Instr.checkKey b 10000 196 (encPr k)).run Tryz.prog w = .ok () w := by kernel_rfl
theorem pairSame (k : Int × Int) : Instr.sameBits 10000 (encPr k) (encPr k) = true := by
  have : Instr.sameBits 10000 (encPr k) (encPr k) = ((k.1 == k.1) && ((k.2 == k.2) && true)) := by kernel_rfl
  rw [this]; simp
theorem eqPair (a b c d : Int) : eqv Tryz.prog 60 196 (.agg #[.int .i64 a, .int .i64 b]) (.agg #[.int .i64 c, .int .i64 d]) = some (a == c && (b == d && true)) := by kernel_rfl
theorem pairLaw : KeyLaw Tryz.prog 196 encPr := by
  refine ⟨pairCheck, pairSame, .inl fun kind a b hu => ?_, fun a b w => ?_⟩
  · cases kind <;> rfl
  · have h := (eqv_sound Tryz.prog 60).1 Op.maxDepth 196 (encPr a) (encPr b) _ w (by decide) (eqPair a.1 a.2 b.1 b.2)
    rw [show decide (a = b) = (a.1 == b.1 && (a.2 == b.2 && true)) from ?_]
    · exact h
    · rw [Bool.eq_iff_iff]; simp [Prod.ext_iff]
theorem mapQTy : Tryz.prog.underlying 187 = some (.map 196 66) := by kernel_rfl
theorem xlookup_def {α β : Type} [DecidableEq α] {encK : α → Value} {encV : β → Value} {P : Program} {T : TypeId} (L : KeyLaw P T encK) {kind : TypeDesc} {M V : TypeId} {z : β} {h : Heap} {b : Nat} {es : List (α × β)} {K : Value → (Heap → Prop) → Prop} (hu : P.underlying T = some kind) (hM : P.underlying M = some (.map T V))
    (hz : ∀ w, (zeroValue V).run P w = .ok (encV z) w) (hm : MapAt encK encV h b es) (k : α) (hk : ∀ Fc, K (encV ((getE k es).getD z)) Fc) : XGet P (Instr.lookup M (.map (some b)) (encK k) false) h K :=
  xlookup_one L hu hM hz hm k fun Fc _ => by
    have := hk Fc
    cases hg : getE k es with
    | none => rw [hg] at this; exact this
    | some v => rw [hg] at this; exact this
theorem qents_at {es : List ((Int × Int) × Sl)} {q : Int → Int → List Int} (Q : QEnts base F h es q) (a b : Int) : ∃ r, (getE (a, b) es).getD ⟨none, 0, 0⟩ = r ∧ r.n = (q a b).length ∧ OwnA encI 1 3 base h r.a r.c (q a b) ∧ (r.a = none ∨ getE (a, b) es = some r) := by
  cases hg : getE (a, b) es with
  | none =>
    refine ⟨⟨none, 0, 0⟩, rfl, ?_, ?_, .inl rfl⟩
    · rw [Q.none (a, b) hg]; rfl
    · rw [Q.none (a, b) hg]; exact .inl ⟨rfl, rfl, rfl⟩
  | some r =>
    have := Q.some (a, b) r hg
    exact ⟨r, rfl, this.1, this.2.1, .inr rfl⟩
theorem StampAt.keep {α β : Type} [DecidableEq α] {encK : α → Value} {encV : β → Value} {h h' : Heap} {b : Nat} {es : List (α × β)} {k : α} {s : Int} (S : StampAt encK encV h b es k s) (e : h'[b]? = h[b]?) : StampAt encK encV h' b es k s := by
  obtain ⟨E, cl, i, v0, en, hb, r⟩ := S
  exact ⟨E, cl, i, v0, en, by rw [e]; exact hb, r⟩
theorem MapAt.keep {α β : Type} {encK : α → Value} {encV : β → Value} {h h' : Heap} {b : Nat} {es : List (α × β)} (S : MapAt encK encV h b es) (e : h'[b]? = h[b]?) : MapAt encK encV h' b es := by
  obtain ⟨E, cl, hb, r⟩ := S
  exact ⟨E, cl, by rw [e]; exact hb, r⟩
theorem mapQZero : ∀ w, (zeroValue 66).run Tryz.prog w = .ok (encQv ⟨none, 0, 0⟩) w := fun _ => by kernel_rfl
theorem mPut_spec (po : p.Ok) (K : MdOk p M) (H : MdP base F h m D p M) (a b id : Int) :
    HCalls Tryz.prog 109 #[.pointer (some ⟨m, 0, none⟩), .agg #[.int .i64 a, .int .i64 b], .int .i64 id] h (fun v h' => v = .int .i64 (if p.ring ≤ (M.queues a b).length then 0 else 1) ∧ Did base F h m D p (if p.ring ≤ (M.queues a b).length then M else { M with queues := setQ M.queues a b (M.queues a b ++ [id]) }) h') := by
  refine xcalls env_mPut Tryz.func109 rfl (by kernel_rfl) rfl (by kernel_rfl) ?_
  intro kb h1 n1
  have H1 := H.ext n1.ext
  have hkb : h1[kb]? = some (.cells [.int .i64 a, .int .i64 b].toArray 196 (0, 0)) := n1.this
  obtain ⟨es, hm, Q⟩ := H1.queues
  obtain ⟨r, hr, rn, ro, ra⟩ := qents_at Q a b
  have hq64 := K.q a b
  have hr64 := po.ring1
  refine ⟨_, cell_blk H1.blk rfl, _, rfl, reads_all hkb, ?_⟩
  refine xlookup_def (encV := encQv) (z := ⟨none, 0, 0⟩) pairLaw Tryz.underlying196 mapQTy mapQZero hm (a, b) fun Fc => ?_
  rw [hr]
  refine ⟨_, cell_blk H1.blk rfl, ?_⟩
  refine xif_of (fun q => ?_) (fun q => ?_)
  · have q : (r.n : Int) ≥ p.ring := of_decide_eq_true q
    rw [rn] at q
    exact ⟨by rw [if_pos q]; rfl, by rw [if_pos q]; exact Did.same H n1.ext⟩
  have q : ¬ (r.n : Int) ≥ p.ring := of_decide_eq_false q
  rw [rn] at q
  refine ⟨_, cell_blk H1.blk rfl, _, rfl, reads_all hkb, ?_⟩
  intro bs h2 n2
  have H2 := H1.ext n2.ext
  have hm2 := hm.ext n2.ext
  have Q2 := Q.ext n2.ext
  refine ⟨⟨reads_all (n2.ext.blk hkb), cell_blk H2.blk rfl, trivial⟩, ?_⟩
  refine xmapEntry_ok (encV := encQv) (z := ⟨none, 0, 0⟩) pairLaw Tryz.underlying196 mapQTy mapQZero hm2 (a, b) fun h3 st m3 r3 s3 => ?_
  obtain ⟨H3, Q3⟩ := H2.touch Q2 (a, b) m3 r3
  rw [hr] at m3 s3 Q3 ⊢
  have hbs : h3[bs]? = some (.cells [.int .i64 id].toArray 3 (0, 0)) := r3.blk n2.this (hm2.ne n2.this)
  have f3 : Fr (fun j => j = D.mb) h2 h3 := r3.fr rfl
  have ro3 : OwnA encI 1 3 base h3 r.a r.c (M.queues a b) := by
    have := qents_at Q3 a b
    obtain ⟨r', hr', _, o', _⟩ := this
    rw [get_put, if_pos rfl] at hr'
    cases hr'
    exact o'
  refine xappend_own (xs := M.queues a b) (ys := [id]) intInfo intZero rfl (by decide) encI_len encI_one ro3 rn.symm rfl (by decide) (reads_all hbs) (by omega) (Nat.le_trans H3.ge (Nat.le_of_lt (blk_lt H3.blk))) fun A' c' h4 o4 k4 hA' => ?_
  have hmb : h4[D.mb]? = h3[D.mb]? := by
    obtain ⟨E, cl, hb, _⟩ := m3
    rw [hb]
    refine k4.blk hb fun e => ?_
    obtain ⟨cx, hx⟩ := own_blk (by rw [← e]; exact ro3)
    rw [hb] at hx; cases hx
  refine xentryStore_ok (encV := encQv) (s3.keep hmb) ⟨A', r.n + 1, c'⟩ fun h5 m5 r5 => ?_
  have e5 : r.n + 1 = (M.queues a b ++ [id]).length := by rw [rn]; simp
  rw [e5] at m5
  obtain ⟨F', hF', H5, f5⟩ := H3.newQueue (by decide) (by decide) (by decide) (by decide) (by decide) (by decide) Q3 (A := r.a) (l := M.queues a b ++ [id]) (.inr ⟨r, by rw [get_put, if_pos rfl], rfl⟩) k4 o4 (hA'.imp (fun h => h) fun h => .inr h) m5 r5 (m3.keep hmb)
  rw [if_neg q, if_neg q]
  have x02 := n1.ext.trans n2.ext
  have s23 := f3.size
  refine ⟨rfl, Did.after x02 ⟨F', fun b hb => (hF' b hb).imp (fun h => h) fun hg => Nat.le_trans s23 hg, H5, ?_⟩⟩
  exact (f3.mono fun j _ e => .inr (.inr (.inr (.inl e)))).trans f5 fun j _ e => e
theorem mGet_spec (po : p.Ok) (K : MdOk p M) (H : MdP base F h m D p M) (a b : Int) :
    HCalls Tryz.prog 110 #[.pointer (some ⟨m, 0, none⟩), .agg #[.int .i64 a, .int .i64 b]] h (fun v h' => v = .int .i64 ((M.queues a b).headD (-1)) ∧ Did base F h m D p (if M.queues a b = [] then M else { M with queues := setQ M.queues a b (M.queues a b).tail }) h') := by
  refine xcalls env_mGet Tryz.func110 rfl (by kernel_rfl) rfl (by kernel_rfl) ?_
  intro kb h1 n1
  have H1 := H.ext n1.ext
  have hkb : h1[kb]? = some (.cells [.int .i64 a, .int .i64 b].toArray 196 (0, 0)) := n1.this
  obtain ⟨es, hm, Q⟩ := H1.queues
  obtain ⟨r, hr, rn, ro, ra⟩ := qents_at Q a b
  have hq64 := K.q a b
  have hr64 := po.ring1
  refine ⟨_, cell_blk H1.blk rfl, _, rfl, reads_all hkb, ?_⟩
  refine xlookup_def (encV := encQv) (z := ⟨none, 0, 0⟩) pairLaw Tryz.underlying196 mapQTy mapQZero hm (a, b) fun Fc => ?_
  rw [hr]
  obtain ⟨rA, rN, rC⟩ := r
  simp only at rn ro ra
  have row := ro.row encI_len
  cases hc : M.queues a b with
  | nil =>
    rw [hc] at rn
    subst rn
    exact ⟨rfl, by rw [if_pos rfl]; exact Did.same H n1.ext⟩
  | cons x l =>
    rw [hc] at rn row hq64
    have hn : rN = l.length + 1 := by rw [rn]; rfl
    refine xif_of (fun q => by have q : ((rN : Int) == 0) = true := q; rw [hn] at q; simp at q; omega) (fun _ => ?_)
    obtain ⟨ad, hra⟩ : ∃ ad, rA = some ad := by
      obtain ⟨ad, h, _⟩ := row 0 x rfl
      exact ⟨ad, h⟩
    subst hra
    subst hn
    obtain ⟨rd0, row1⟩ := row_tail row
    have hcap := ro.le
    rw [hc] at hcap
    have hcap : l.length + 1 ≤ rC := hcap
    refine ⟨_, cell_blk H1.blk rfl, _, rfl, reads_all hkb, ?_⟩
    refine ⟨fun e => e, by decide, (by show (1 : Int) ≤ ((l.length + 1 : Nat) : Int); omega), (by show ((l.length + 1 : Nat) : Int) ≤ ((rC : Nat) : Int); omega), Int.le_refl _, ?_⟩
    have len1 : ((l.length + 1 : Nat) : Int).toNat - (1 : Int).toNat = l.length := by
      simp
    have hA2 : ∀ {q : Prop} {inst : Decidable q} {f : Addr → Addr}, f ad = ad.add 1 → (q → l = []) → Row encI 1 h1 (@ite _ q inst (some ad) (Option.map f (some ad))) l ∧ ((@ite _ q inst (some ad) (Option.map f (some ad))) = none → l = []) := by
      intro q inst f hf hq
      split
      · rename_i hh
        rw [hq hh]
        exact ⟨Row.nil, fun _ => rfl⟩
      · rw [Option.map_some, hf]
        exact ⟨row1, fun e => by cases e⟩
    have hA3 := @hA2 (((rC : Int)).toNat = (1 : Int).toNat) inferInstance (fun x => x.add ((1 : Int).toNat * 1)) rfl (fun e => by
      have e : rC = 1 := by simpa using e
      exact List.length_eq_zero_iff.1 (by omega))
    refine (iClone_spec (n := ((l.length + 1 : Nat) : Int).toNat - (1 : Int).toNat) hA3.1 hA3.2 len1.symm (by omega)).mono ?_
    rintro v h2 ⟨A', c', rfl, o2, ge2, x2⟩
    have H2 := H1.ext x2
    refine ⟨⟨reads_all (x2.blk hkb), cell_blk H2.blk rfl, trivial⟩, ?_⟩
    have hm2 := hm.ext x2
    have hbase : base ≤ h1.size := Nat.le_trans H1.ge (Nat.le_of_lt (blk_lt H1.blk))
    refine xmapUpdate_ok (encV := encQv) pairLaw Tryz.underlying196 mapQTy hm2 (a, b) ⟨A', ((l.length + 1 : Nat) : Int).toNat - (1 : Int).toNat, c'⟩ fun h3 m3 r3 => ?_
    rw [len1] at m3
    obtain ⟨F', hF', H3, f3⟩ := H1.newQueue (by decide) (by decide) (by decide) (by decide) (by decide) (by decide) Q (A := none) (l := l) (.inl rfl) (x2.keepA _) (o2.mono hbase) (by
      cases A' with
      | none => exact .inr (.inl rfl)
      | some z =>
        rcases o2 with ⟨e, _⟩ | ⟨b', _, e, hg, _⟩
        · cases e
        · exact .inr (.inr ⟨b', e, hg⟩)) m3 r3 hm2
    have rd3 : cell h3 (ad.add 0) = some (.int .i64 x) := by
      have h0 := rd0.cons
      have h2 := x2.cell h0
      rw [add_zero']
      have hne : ad.block ≠ D.mb := by
        obtain ⟨c0, e0, f0, hb0, _, _⟩ := cell_some h0
        exact hm.ne hb0
      rw [cell_of_block (r3.other _ hne)]
      exact h2
    refine ⟨ad, rfl, by decide, (by show (0 : Int) < ((l.length + 1 : Nat) : Int); omega), _, rd3, rfl, ?_⟩
    rw [if_neg (by simp)]
    exact Did.after n1.ext ⟨F', hF', H3, f3⟩
end
end Go.Proofs.YtcjoenkpibhmoaaGreatE
/- What the program's model answers: what is sent, and whatever is done. Conditions: the arguments are of their types. -/
set_option linter.unusedVariables false
set_option linter.unusedSimpArgs false
set_option maxRecDepth 100000
namespace Go.Proofs.YtcjoenkpibhmoaaGreatE
open Go Go.Proofs
section
variable {base : Nat} {F : Nat → Prop} {h h1 h' : Heap} {m : Nat} {D : Dat} {p : Pl} {M M' : Md}
theorem mSend_spec (K : MdOk p M) (hp : p.ports ≤ 64) (hv : M.vlans.length ≤ 1000) (H : MdP base F h m D p M) {n : Int} (vid : Int) (h0 : 0 ≤ n) (hn : n < p.ports) :
    HCalls Tryz.prog 111 #[.pointer (some ⟨m, 0, none⟩), .int .i64 n, .int .i64 vid] h (fun v h' => v = .int .i64 (sendM M n vid) ∧ Ext h h') := by
  obtain ⟨k, rfl⟩ : ∃ k : Nat, n = k := ⟨n.toNat, by omega⟩
  have hst := K.st
  obtain ⟨w, hw⟩ : ∃ w, M.stands[k]? = some w := ⟨M.stands[k]'(by omega), List.getElem?_eq_getElem (by omega)⟩
  have hg : M.stands.getD (k : Int).toNat ⟨0, 0⟩ = w := by rw [Int.toNat_natCast, List.getD_eq_getElem?_getD, hw]; rfl
  unfold sendM
  rw [hg]
  simp only
  refine xcalls env0 Tryz.func111 rfl (by kernel_rfl) rfl (by kernel_rfl) ?_
  refine ⟨_, cell_blk H.blk rfl, ?_⟩
  refine (vFind_spec (H.vlans.row encVl_len) (by omega)).mono ?_
  rintro v h1 ⟨rfl, x1⟩
  have H1 := H.ext x1
  obtain ⟨a, ha, hrd⟩ := (H1.stands.row encSn_len) k w hw
  cases ha
  refine ⟨_, cell_blk H1.blk rfl, _, rfl, by omega, by omega, _, hrd.get 0 rfl, ?_⟩
  refine (pForwards_spec _).mono ?_
  rintro v h2 ⟨rfl, rfl⟩
  refine xif_of (fun q => ?_) (fun q => ?_)
  · have q : ¬ w.st = 4 := by simpa using q
    exact ⟨by rw [if_pos q]; rfl, x1⟩
  have q : ¬ (¬ w.st = 4) := by simpa using q
  rw [if_neg q]
  rcases findV_range (vid := vid) M.vlans 0 with hf | ⟨f0, f1⟩
  · refine xif_of (fun _ => ?_) (fun q => absurd (of_decide_eq_false q) (by omega))
    exact ⟨by rw [if_pos (by omega)]; rfl, x1⟩
  · refine xif_of (fun q => absurd (of_decide_eq_true q) (by omega)) (fun _ => ?_)
    obtain ⟨i, hi⟩ : ∃ i : Nat, findV vid M.vlans 0 = i := ⟨_, (Int.toNat_of_nonneg (by omega)).symm⟩
    have hil : i < M.vlans.length := by omega
    obtain ⟨u, hu⟩ : ∃ w, M.vlans[i]? = some w := ⟨M.vlans[i], List.getElem?_eq_getElem hil⟩
    have hgu : M.vlans.getD (i : Int).toNat ⟨0, 0, 0⟩ = u := by rw [Int.toNat_natCast, List.getD_eq_getElem?_getD, hu]; rfl
    have wu := K.vl u (List.mem_of_getElem? hu)
    rw [hi, if_neg (by omega), hgu]
    obtain ⟨a, ha, hru⟩ := (H1.vlans.row encVl_len) i u hu
    have q0 : (0 : Int) ≤ i := by omega
    have q1 : (i : Int) < M.vlans.length := by omega
    refine ⟨_, cell_blk H1.blk rfl, a, ha, q0, q1, _, hru.get 1 rfl, ?_⟩
    refine (vHas_spec wu.1).mono ?_
    rintro v h2 ⟨rfl, rfl⟩
    refine xif_of (fun q => ?_) (fun q => ?_)
    · have q : hasM u.mem k = false := by simpa using q
      exact ⟨by rw [if_pos q]; rfl, x1⟩
    have q : hasM u.mem k = true := by simpa using q
    rw [if_neg (by simp [q])]
    refine ⟨_, cell_blk H1.blk rfl, a, ha, q0, q1, _, hru.get 2 rfl, ?_⟩
    refine (vHas_spec wu.2).mono ?_
    rintro v h3 ⟨rfl, rfl⟩
    refine xif_of (fun q => ?_) (fun q => ?_)
    · exact ⟨by rw [if_pos q]; rfl, x1⟩
    · exact ⟨by rw [if_neg (by simp [q])]; rfl, x1⟩
theorem ent_eq {o : Op17} (hm : mayO p o = true) (hk : 2 ≤ o.kind ∧ o.kind ≤ 7) : do17 p M o = entM p M o := by
  unfold do17 entM
  rw [if_neg (by simp [hm]), if_neg (by omega), if_neg (by omega)]
  by_cases h2 : o.kind = 2
  · rw [if_pos h2, if_pos h2]
  rw [if_neg h2, if_neg h2]
  by_cases h3 : o.kind = 3
  · rw [if_pos h3, if_pos h3]
  rw [if_neg h3, if_neg h3]
  by_cases h4 : o.kind = 4
  · rw [if_pos h4, if_pos h4]
  rw [if_neg h4, if_neg h4]
  by_cases h5 : o.kind = 5
  · rw [if_pos h5, if_neg (by omega), if_neg (by omega)]
  rw [if_neg h5]
  by_cases h6 : o.kind = 6
  · rw [if_pos h6, if_pos h6]
  rw [if_neg h6, if_neg h6, if_pos (by omega), if_pos (by omega)]
theorem mDo_spec (po : p.Ok) (K : MdOk p M) (hv : M.vlans.length ≤ 1000) (H : MdP base F h m D p M) {o : Op17} (w : o.Wf) :
    HCalls Tryz.prog 80 #[.pointer (some ⟨m, 0, none⟩), .agg (encO17 o).toArray] h (fun v h' => v = .int .i64 (do17 p M o).2 ∧ Did base F h m D p (do17 p M o).1 h') := by
  refine xcalls env_mDo Tryz.func80 rfl (by kernel_rfl) rfl (by kernel_rfl) ?_
  intro ob h1 n1
  have hb : h1[ob]? = some (.cells (encO17 o).toArray 113 (0, 0)) := n1.this
  have H1 := H.ext n1.ext
  refine ⟨_, rfl, reads_all hb, ?_⟩
  refine (mMay_spec H1 o).mono ?_
  rintro v h2 ⟨rfl, x2⟩
  have H2 := H1.ext x2
  have hb2 := x2.blk hb
  have x02 := n1.ext.trans x2
  refine xif_of (fun q => ?_) (fun q => ?_)
  · have q : mayO p o = false := by simpa using q
    have e : do17 p M o = (M, -1) := by unfold do17; rw [if_pos q]
    rw [e]
    exact ⟨rfl, Did.same H x02⟩
  have hm : mayO p o = true := by simpa using q
  have hmn : ¬ mayO p o = false := by simp [hm]
  have hpp := po.hi
  have inPort : (o.kind = 0 ∨ o.kind = 2 ∨ o.kind = 4 ∨ o.kind = 8) → inP p o.port := fun q => by
    have := hm
    rw [mayO, if_pos q] at this
    exact of_decide_eq_true this
  refine ⟨_, cell_blk hb2 rfl, ?_⟩
  refine xif_of (fun q => ?_) (fun q0 => ?_)
  · have q : o.kind = 0 := by simpa using q
    obtain ⟨i0, i1⟩ := inPort (.inl q)
    obtain ⟨k, hk⟩ : ∃ k : Nat, o.port = k := ⟨o.port.toNat, by omega⟩
    have hst := K.st
    obtain ⟨s, hs⟩ : ∃ w, M.stands[k]? = some w := ⟨M.stands[k]'(by omega), List.getElem?_eq_getElem (by omega)⟩
    obtain ⟨a, ha, hrd⟩ := (H2.stands.row encSn_len) k s hs
    cases ha
    have e : do17 p M o = (M, s.st) := by unfold do17; rw [if_neg hmn, if_pos q, hk, Int.toNat_natCast, List.getD_eq_getElem?_getD, hs]; rfl
    have hc : cell h2 ((⟨D.sb, 0, none⟩ : Addr).add (o.port.toNat * 2)) = some (.int .i64 s.st) := by
      rw [hk, Int.toNat_natCast]
      exact hrd.cons
    rw [e]
    refine ⟨_, cell_blk H2.blk rfl, _, cell_blk hb2 rfl, _, rfl, i0, (by show o.port < (M.stands.length : Int); omega), _, (by rw [add_zero']; exact hc), rfl, Did.same H x02⟩
  have q0 : ¬ o.kind = 0 := by simpa using q0
  refine xif_of (fun q => ?_) (fun q1 => ?_)
  · have q : o.kind = 1 := by simpa using q
    refine ⟨_, cell_blk hb2 rfl, ?_⟩
    refine (mMembers_spec H2 hv o.vid).mono ?_
    rintro v h3 ⟨rfl, x3⟩
    have e : do17 p M o = (M, if findV o.vid M.vlans 0 < 0 then 0 else IntKind.i64.wrap (M.vlans.getD (findV o.vid M.vlans 0).toNat ⟨0, 0, 0⟩).mem) := by unfold do17; rw [if_neg hmn, if_neg q0, if_pos q]
    rw [e]
    refine ⟨congrArg (Value.int .i64) ?_, Did.same H (x02.trans x3)⟩
    show IntKind.i64.wrap (if findV o.vid M.vlans 0 < 0 then 0 else (M.vlans.getD (findV o.vid M.vlans 0).toNat ⟨0, 0, 0⟩).mem) = _
    split
    · rfl
    · rfl
  have q1 : ¬ o.kind = 1 := by simpa using q1
  have ents : (2 ≤ o.kind ∧ o.kind ≤ 7) → HCalls Tryz.prog 106 #[.pointer (some ⟨m, 0, none⟩), .agg (encO17 o).toArray] h2 (fun v h' => v = .int .i64 (do17 p M o).2 ∧ Did base F h m D p (do17 p M o).1 h') := fun hk => by
    rw [ent_eq hm hk]
    exact (mEntries_spec po K H2 w).mono fun v h' hh => ⟨hh.1, Did.after x02 hh.2⟩
  refine xif_of (fun q => ?_) (fun q2 => ?_)
  · refine xif_true q ?_
    refine ⟨_, rfl, reads_all hb2, ?_⟩
    exact ents (by have : o.kind = 2 := by simpa using q
                   omega)
  have q2 : ¬ o.kind = 2 := by simpa using q2
  refine xif_of (fun q => ?_) (fun q3 => ?_)
  · refine xif_true q ?_
    refine ⟨_, rfl, reads_all hb2, ?_⟩
    exact ents (by have : o.kind = 3 := by simpa using q
                   omega)
  have q3 : ¬ o.kind = 3 := by simpa using q3
  refine xif_of (fun q => ?_) (fun q4 => ?_)
  · refine xif_true q ?_
    refine ⟨_, rfl, reads_all hb2, ?_⟩
    exact ents (by have : o.kind = 4 := by simpa using q
                   omega)
  have q4 : ¬ o.kind = 4 := by simpa using q4
  refine xif_of (fun q => ?_) (fun q5 => ?_)
  · refine xif_true q ?_
    refine ⟨_, rfl, reads_all hb2, ?_⟩
    exact ents (by have : o.kind = 5 := by simpa using q
                   omega)
  have q5 : ¬ o.kind = 5 := by simpa using q5
  refine xif_of (fun q => ?_) (fun q6 => ?_)
  · refine xif_true q ?_
    refine ⟨_, rfl, reads_all hb2, ?_⟩
    exact ents (by have : o.kind = 6 := by simpa using q
                   omega)
  have q6 : ¬ o.kind = 6 := by simpa using q6
  refine xif_of (fun q => ?_) (fun q7 => ?_)
  · refine ⟨_, rfl, reads_all hb2, ?_⟩
    exact ents (by have : o.kind = 7 := by simpa using q
                   omega)
  have q7 : ¬ o.kind = 7 := by simpa using q7
  have chain : do17 p M o = (if o.kind = 8 then if rightSt o.state = false then (M, -1) else
    let e := IntKind.u32.wrap ((M.stands.getD o.port.toNat ⟨0, 0⟩).ep + 1)
    ({ M with stands := M.stands.set o.port.toNat ⟨o.state, e⟩ }, IntKind.i64.wrap e)
  else if o.kind = 9 then setVlanM p M o
  else if o.kind = 10 then
    let q := M.queues o.port o.to
    if p.ring ≤ q.length then (M, 0) else ({ M with queues := setQ M.queues o.port o.to (q ++ [o.id]) }, 1)
  else if o.kind = 11 then
    match M.queues o.port o.to with
    | [] => (M, -1)
    | x :: q => ({ M with queues := setQ M.queues o.port o.to q }, x)
  else if o.kind = 12 then (M, sendM M o.to o.vid)
  else (M, -1)) := by
    unfold do17
    rw [if_neg hmn, if_neg q0, if_neg q1, if_neg q2, if_neg q3, if_neg q4, if_neg q5, if_neg q6, if_neg q7]
    rfl
  rw [chain]
  refine xif_of (fun q => ?_) (fun q8 => ?_)
  · have q : o.kind = 8 := by simpa using q
    obtain ⟨i0, i1⟩ := inPort (by omega)
    refine ⟨_, cell_blk hb2 rfl, _, cell_blk hb2 rfl, ?_⟩
    refine (mSet_spec K hpp H2 i0 i1).mono ?_
    rintro v h3 ⟨rfl, d3⟩
    rw [if_pos q]
    have d := Did.after x02 d3
    by_cases hq : rightSt o.state = false
    · rw [if_pos hq] at d ⊢
      rw [if_pos hq]
      exact ⟨rfl, d⟩
    · rw [if_neg hq] at d ⊢
      rw [if_neg hq]
      exact ⟨rfl, d⟩
  have q8 : ¬ o.kind = 8 := by simpa using q8
  rw [if_neg q8]
  refine xif_of (fun q => ?_) (fun q9 => ?_)
  · have q : o.kind = 9 := by simpa using q
    refine ⟨_, rfl, reads_all hb2, ?_⟩
    refine (mSetVlan_spec K hv H2 w).mono ?_
    rintro v h3 ⟨rfl, d3⟩
    rw [if_pos q]
    exact ⟨rfl, Did.after x02 d3⟩
  have q9 : ¬ o.kind = 9 := by simpa using q9
  rw [if_neg q9]
  refine xif_of (fun q => ?_) (fun q10 => ?_)
  · have q : o.kind = 10 := by simpa using q
    refine ⟨_, cell_blk hb2 rfl, _, cell_blk hb2 rfl, _, cell_blk hb2 rfl, ?_⟩
    refine (mPut_spec po K H2 _ _ _).mono ?_
    rintro v h3 ⟨rfl, d3⟩
    rw [if_pos q]
    have d := Did.after x02 d3
    simp only
    by_cases hq : p.ring ≤ (M.queues o.port o.to).length
    · rw [if_pos hq] at d ⊢
      rw [if_pos hq]
      exact ⟨rfl, d⟩
    · rw [if_neg hq] at d ⊢
      rw [if_neg hq]
      exact ⟨rfl, d⟩
  have q10 : ¬ o.kind = 10 := by simpa using q10
  rw [if_neg q10]
  refine xif_of (fun q => ?_) (fun q11 => ?_)
  · have q : o.kind = 11 := by simpa using q
    refine ⟨_, cell_blk hb2 rfl, _, cell_blk hb2 rfl, ?_⟩
    refine (mGet_spec po K H2 _ _).mono ?_
    rintro v h3 ⟨rfl, d3⟩
    rw [if_pos q]
    have d := Did.after x02 d3
    cases hc : M.queues o.port o.to with
    | nil => rw [hc] at d; exact ⟨rfl, by rw [if_pos rfl] at d; exact d⟩
    | cons z l => rw [hc] at d; exact ⟨rfl, by rw [if_neg (by simp)] at d; exact d⟩
  have q11 : ¬ o.kind = 11 := by simpa using q11
  rw [if_neg q11]
  refine xif_of (fun q => ?_) (fun q12 => ?_)
  · have q : o.kind = 12 := by simpa using q
    have hto : inP p o.to := by
      have := hm
      rw [mayO, if_neg (by omega), if_neg (by omega), if_pos q] at this
      exact of_decide_eq_true this
    refine ⟨_, cell_blk hb2 rfl, _, cell_blk hb2 rfl, ?_⟩
    refine (mSend_spec K hpp hv H2 _ hto.1 hto.2).mono ?_
    rintro v h3 ⟨rfl, x3⟩
    rw [if_pos q]
    exact ⟨rfl, Did.same H (x02.trans x3)⟩
  have q12 : ¬ o.kind = 12 := by simpa using q12
  rw [if_neg q12]
  exact ⟨rfl, Did.same H x02⟩
end
end Go.Proofs.YtcjoenkpibhmoaaGreatE
/- What the document's functions of sets of ports answer. Conditions: the arguments are of their types. -/
set_option linter.unusedVariables false
set_option linter.unusedSimpArgs false
set_option maxRecDepth 100000
namespace Go.Proofs.YtcjoenkpibhmoaaGreatE
open Go Go.Proofs
section
variable {h : Heap}
theorem r3bit_spec {p : Int} (h0 : 0 ≤ p) (h1 : p < 64) : HCalls Tryz.prog 61 #[.int .i64 p] h (fun v h' => v = .int .u64 (2 ^ p.toNat) ∧ h' = h) := by
  obtain ⟨k, rfl⟩ : ∃ k : Nat, p = k := ⟨p.toNat, by omega⟩
  refine xcalls env0 Tryz.func61 rfl (by kernel_rfl) rfl (by kernel_rfl) ?_
  refine ⟨Nat, fun i => [(0, .int .i64 k), (3, .int .u64 ((2 ^ i : Nat) : Int)), (4, .int .i64 i)], fun i h' => i ≤ k ∧ h' = h, fun i => k - i, 0, ⟨rfl, rfl, rfl, trivial⟩, ⟨Nat.zero_le _, rfl⟩, ?_⟩
  rintro i h2 ⟨hi, rfl⟩
  refine xif_of (fun hlt => ?_) (fun hge => ?_)
  · have hlt : (i : Int) < k := of_decide_eq_true hlt
    refine ⟨i + 1, ⟨rfl, congrArg (fun z => some (Value.int .u64 z)) ?_, slot_inc (by omega), trivial⟩, ⟨by omega, rfl⟩, by show k - (i + 1) < k - i; omega⟩
    have := two_pow_lt (n := i + 1) (by omega)
    rw [Nat.pow_succ] at this ⊢
    show IntKind.u64.wrap (((2 ^ i : Nat) : Int) * 2) = _
    rw [wrap_u64 (by omega) (by omega)]
    omega
  · have hge : ¬ (i : Int) < k := of_decide_eq_false hge
    have : i = k := by omega
    subst this
    exact ⟨congrArg (Value.int .u64) (by rw [Int.toNat_natCast]; simp), rfl⟩
theorem r3Has_spec {s p : Int} (ws : SetWf s) : HCalls Tryz.prog 26 #[.int .u64 s, .int .i64 p] h (fun v h' => v = .bool (hasM s p) ∧ h' = h) := by
  unfold hasM
  refine xcalls env0 Tryz.func26 rfl (by kernel_rfl) rfl (by kernel_rfl) ?_
  refine xif_of (fun q => ?_) (fun q => ?_)
  · have q : p ≥ 0 := of_decide_eq_true q
    refine xif_of (fun q2 => ?_) (fun q2 => ?_)
    · have q2 : p < 64 := of_decide_eq_true q2
      refine (r3bit_spec q q2).mono ?_
      rintro v h1 ⟨rfl, rfl⟩
      have h2 : 0 < 2 ^ p.toNat := Nat.pow_pos (by omega)
      have h3 := two_pow_lt (n := p.toNat) (by omega)
      refine ⟨by rw [← int_pow]; omega, by decide, congrArg Value.bool ?_, rfl⟩
      rw [decide_eq_true (show 0 ≤ p ∧ p < 64 from ⟨q, q2⟩), Bool.true_and, Nat.testBit_eq_decide_div_mod_eq]
      obtain ⟨n, rfl⟩ : ∃ n : Nat, s = n := ⟨s.toNat, by have := ws.lo; omega⟩
      have hs := ws.hi
      show ((IntKind.u64.wrap ((n : Int).tdiv (2 ^ p.toNat))).tmod 2 == 1) = _
      have e1 : (n : Int).tdiv (2 ^ p.toNat) = ((n / 2 ^ p.toNat : Nat) : Int) := by
        rw [← int_pow, Int.tdiv_eq_ediv_of_nonneg (by omega)]; simp
      have e2 : n / 2 ^ p.toNat ≤ n := Nat.div_le_self _ _
      obtain ⟨d, hd⟩ : ∃ d, n / 2 ^ p.toNat = d := ⟨_, rfl⟩
      rw [hd] at e1 e2
      rw [e1, wrap_u64 (by omega) (by omega), Int.tmod_eq_emod_of_nonneg (by omega), Int.toNat_natCast, hd]
      rw [Bool.eq_iff_iff]
      simp only [beq_iff_eq, decide_eq_true_eq]
      omega
    · have q2 : ¬ p < 64 := of_decide_eq_false q2
      exact ⟨congrArg Value.bool (by rw [decide_eq_false (by omega), Bool.false_and]), rfl⟩
  · have q : ¬ p ≥ 0 := of_decide_eq_false q
    exact ⟨congrArg Value.bool (by rw [decide_eq_false (by omega), Bool.false_and]), rfl⟩
def withM (s p : Int) : Int := if p < 0 ∨ 63 < p ∨ hasM s p = true then s else s + 2 ^ p.toNat
theorem r3With_spec {s p : Int} (ws : SetWf s) : HCalls Tryz.prog 27 #[.int .u64 s, .int .i64 p] h (fun v h' => v = .int .u64 (IntKind.u64.wrap (withM s p)) ∧ h' = h) := by
  have es : IntKind.u64.wrap s = s := wrap_u64 ws.lo ws.hi
  unfold withM
  refine xcalls env0 Tryz.func27 rfl (by kernel_rfl) rfl (by kernel_rfl) ?_
  refine xif_of (fun q => ?_) (fun q => ?_)
  · have q : p < 0 := of_decide_eq_true q
    exact ⟨by rw [if_pos (.inl q), es]; rfl, rfl⟩
  have q : ¬ p < 0 := of_decide_eq_false q
  refine xif_of (fun q2 => ?_) (fun q2 => ?_)
  · have q2 : p > 63 := of_decide_eq_true q2
    exact ⟨by rw [if_pos (.inr (.inl q2)), es]; rfl, rfl⟩
  have q2 : ¬ p > 63 := of_decide_eq_false q2
  refine (r3Has_spec ws).mono ?_
  rintro v h1 ⟨rfl, rfl⟩
  refine xif_of (fun q3 => ?_) (fun q3 => ?_)
  · exact ⟨by rw [if_pos (.inr (.inr q3)), es]; rfl, rfl⟩
  · refine (r3bit_spec (by omega) (by omega)).mono ?_
    rintro v h2 ⟨rfl, rfl⟩
    exact ⟨by rw [if_neg (by simp [q3]; omega)]; rfl, rfl⟩
/-- A set's first ports, and one more. -/
theorem with_next {x k : Nat} (hx : x < 18446744073709551616) (hk : k < 64) : (x.testBit k = true → IntKind.u64.wrap (withM ((x % 2 ^ k : Nat) : Int) k) = ((x % 2 ^ (k + 1) : Nat) : Int)) ∧ (x.testBit k = false → x % 2 ^ (k + 1) = x % 2 ^ k) := by
  have hn := mod_next x k
  have hlt : x % 2 ^ k < 2 ^ k := Nat.mod_lt _ (Nat.pow_pos (by omega))
  have hp := two_pow_le hk
  refine ⟨fun hb => ?_, fun hb => by rw [hn, if_neg (by simp [hb])]⟩
  rw [hn, if_pos hb]
  have hnb : hasM ((x % 2 ^ k : Nat) : Int) k = false := by
    unfold hasM
    rw [Int.toNat_natCast, Int.toNat_natCast, Nat.testBit_lt_two_pow hlt, Bool.and_false]
  rw [withM, if_neg (by rw [hnb]; simp; omega), Int.toNat_natCast, ← int_pow, wrap_u64 (by omega) (by omega)]
  omega
theorem r3All_spec (n : Int) : HCalls Tryz.prog 25 #[.int .i64 n] h (fun v h' => v = .int .u64 (allM n) ∧ h' = h) := by
  have full : ∀ k : Nat, k ≤ 64 → (18446744073709551615 : Nat) % 2 ^ k = 2 ^ k - 1 := by
    intro k hk
    have h1 : (18446744073709551615 : Nat) = 2 ^ 64 - 1 := by decide
    have h2 : (2 : Nat) ^ 64 = 2 ^ k * 2 ^ (64 - k) := by rw [← Nat.pow_add]; congr 1; omega
    have h3 : 0 < 2 ^ k := Nat.pow_pos (by omega)
    have h4 : 0 < 2 ^ (64 - k) := Nat.pow_pos (by omega)
    rw [h1, h2]
    obtain ⟨m, hm⟩ : ∃ m, 2 ^ (64 - k) = m + 1 := ⟨2 ^ (64 - k) - 1, by omega⟩
    rw [hm, Nat.mul_succ]
    have : 2 ^ k * m + 2 ^ k - 1 = 2 ^ k * m + (2 ^ k - 1) := by omega
    rw [this, Nat.mul_add_mod, Nat.mod_eq_of_lt (by omega)]
  refine xcalls env0 Tryz.func25 rfl (by kernel_rfl) rfl (by kernel_rfl) ?_
  refine ⟨Nat, fun i => [(0, .int .i64 n), (3, .int .u64 ((18446744073709551615 % 2 ^ i : Nat) : Int)), (4, .int .i64 i)], fun i h' => i ≤ 64 ∧ ((i : Int) ≤ n ∨ i = 0) ∧ h' = h, fun i => 64 - i, 0, ⟨rfl, rfl, rfl, trivial⟩, ⟨Nat.zero_le _, .inr rfl, rfl⟩, ?_⟩
  rintro i h2 ⟨hi, hin, rfl⟩
  have done : (n ≤ i ∨ i = 64) → Value.int .u64 ((18446744073709551615 % 2 ^ i : Nat) : Int) = Value.int .u64 (allM n) := by
    intro hd
    refine congrArg (Value.int .u64) ?_
    rw [full i hi]
    by_cases h0 : n ≤ 0
    · rw [allM, if_pos h0]
      have : i = 0 := by omega
      subst this; rfl
    by_cases h1 : 64 ≤ n
    · have : i = 64 := by omega
      subst this
      rw [allM, if_neg h0, if_pos h1]; decide
    · have e : n.toNat = i := by omega
      have h3 : 0 < 2 ^ i := Nat.pow_pos (by omega)
      rw [allM, if_neg h0, if_neg h1, e, ← int_pow]
      omega
  refine xif_of (fun hlt => ?_) (fun hge => ?_)
  · have hlt : (i : Int) < n := of_decide_eq_true hlt
    refine xif_of (fun h64 => ?_) (fun h64 => ?_)
    · have h64 : (i : Int) < 64 := of_decide_eq_true h64
      have hb : (18446744073709551615 : Nat).testBit i = true := by
        rw [show (18446744073709551615 : Nat) = 2 ^ 64 - 1 by decide, Nat.testBit_two_pow_sub_one]
        simp; omega
      have hm : 18446744073709551615 % 2 ^ i ≤ 18446744073709551615 := Nat.mod_le _ _
      refine (r3With_spec ⟨by omega, by omega⟩).mono ?_
      rintro v h3 ⟨rfl, rfl⟩
      refine ⟨i + 1, ⟨rfl, congrArg (fun z => some (Value.int .u64 z)) ((with_next (x := 18446744073709551615) (k := i) (by decide) (by omega)).1 hb), slot_inc (by omega), trivial⟩, ⟨by omega, .inl (by omega), rfl⟩, by show 64 - (i + 1) < 64 - i; omega⟩
    · have h64 : ¬ (i : Int) < 64 := of_decide_eq_false h64
      exact ⟨done (by omega), rfl⟩
  · have hge : ¬ (i : Int) < n := of_decide_eq_false hge
    exact ⟨done (by omega), rfl⟩
end
end Go.Proofs.YtcjoenkpibhmoaaGreatE
