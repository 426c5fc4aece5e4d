/- What the program's model answers. Conditions: the arguments are of their types. -/
import Derived.Test.YtcjoenkpibhmoaaGreatXN1
import Derived.Test.YtcjoenkpibhmoaaGreatXB2
set_option linter.unusedVariables false
set_option linter.unusedSimpArgs false
set_option maxRecDepth 100000
namespace Go.Proofs.YtcjoenkpibhmoaaGreatE
open Go Go.Proofs
def env_mEntries : Nat → Ann
  | 3 => ⟨.op 0 [] <| .op 1 [] <| .op 2 [] <| .op 3 [] <| .op 4 [] <| .op 5 [] <| .op 6 [] <| .op 7 [] <| .op 8 [] <| .op 9 [] <| .op 10 [] <| .op 11 [] <| .nil, [0, 1, 3, 7, 0, 16, 0, 64, 0, 256, 1023, 2047], false⟩
  | 5 => ⟨.op 0 [] <| .op 1 [] <| .op 2 [] <| .op 3 [] <| .op 4 [] <| .op 5 [] <| .op 6 [] <| .op 7 [] <| .nil, [0, 1, 3, 7, 0, 16, 63, 127], false⟩
  | 7 => ⟨.op 0 [] <| .op 1 [] <| .op 2 [] <| .op 3 [] <| .op 4 [] <| .op 5 [] <| .op 6 [] <| .op 7 [] <| .op 8 [] <| .op 9 [] <| .op 10 [] <| .op 11 [] <| .nil, [0, 1, 3, 7, 0, 16, 0, 64, 0, 256, 1023, 2047], false⟩
  | 9 => ⟨.op 0 [] <| .op 1 [] <| .op 2 [] <| .op 3 [] <| .op 4 [] <| .op 5 [] <| .op 6 [] <| .op 7 [] <| .op 8 [] <| .op 9 [] <| .op 10 [] <| .op 11 [] <| .op 12 [] <| .op 13 [] <| .nil, [0, 1, 3, 7, 0, 16, 0, 64, 0, 256, 0, 1024, 4095, 8191], false⟩
  | 11 => ⟨.op 0 [] <| .op 1 [] <| .op 2 [] <| .op 3 [] <| .op 4 [] <| .op 5 [] <| .op 6 [] <| .op 7 [] <| .op 8 [] <| .op 9 [] <| .op 10 [] <| .nil, [0, 1, 3, 7, 0, 16, 0, 64, 240, 511, 1023], false⟩
  | 12 => ⟨.op 0 [] <| .op 1 [] <| .op 2 [] <| .op 3 [] <| .op 4 [] <| .op 5 [] <| .op 6 [] <| .nil, [0, 1, 3, 7, 0, 16, 63], false⟩
  | _ => ⟨.nil, [], false⟩
abbrev MdP (base : Nat) (F : Nat → Prop) (h : Heap) (m : Nat) (D : Dat) (p : Pl) (M : Md) : Prop := MdAt 189 193 147 234 235 282 base F h m D p M
/-- The model is another one, and what else there was is as it was. -/
def Did (base : Nat) (F : Nat → Prop) (h : Heap) (m : Nat) (D : Dat) (p : Pl) (M' : Md) (h' : Heap) : Prop := ∃ F' : Nat → Prop, (∀ b, F' b → F b ∨ h.size ≤ b) ∧ MdP base F' h' m D p M' ∧ Fr (D.X F) h h'
section
variable {base : Nat} {F : Nat → Prop} {h h1 h' : Heap} {m : Nat} {D : Dat} {p : Pl} {M M' : Md}
theorem Did.same (H : MdP base F h m D p M) (x : Ext h h') : Did base F h m D p M h' := ⟨F, fun b hb => .inl hb, H.ext x, x.fr _⟩
theorem Did.after (x : Ext h h1) (d : Did base F h1 m D p M' h') : Did base F h m D p M' h' := by
  obtain ⟨F', h2, h3, h4⟩ := d
  have := x.size
  exact ⟨F', fun b hb => (h2 b hb).imp id fun hg => Nat.le_trans this hg, h3, (x.fr _).trans h4 fun k _ hk => hk⟩
theorem Did.book (H : MdP base F h m D p M) {L : List (List Place)} (hb : BkP base h' D.b D.tb p.size L) (k : KeepA (some ⟨D.tb, 0, none⟩) h h') : Did base F h m D p { M with book := L } h' :=
  ⟨F, fun b hb => .inl hb, H.newBook (by decide) (by decide) (by decide) (by decide) (k.fr rfl) hb, (k.fr (X := fun j => j = D.tb) rfl).mono fun j _ e => .inr (.inr (.inl e))⟩
theorem mHas_spec (H : MdP base F h m D p M) (n : Int) : HCalls Tryz.prog 134 #[.pointer (some ⟨m, 0, none⟩), .int .i64 n] h (fun v h' => v = .bool (decide (inP p n)) ∧ h' = h) := by
  refine xcalls env0 Tryz.func134 rfl (by kernel_rfl) rfl (by kernel_rfl) ?_
  refine xif_of (fun q => ?_) (fun q => ?_)
  · have q : n ≥ 0 := of_decide_eq_true q
    refine ⟨_, cell_blk H.blk rfl, congrArg Value.bool ?_, rfl⟩
    rw [Bool.eq_iff_iff, decide_eq_true_iff, decide_eq_true_iff]; unfold inP; omega
  · have q : ¬ n ≥ 0 := of_decide_eq_false q
    exact ⟨congrArg Value.bool (decide_eq_false fun hh => q hh.1).symm, rfl⟩
theorem mMay_spec (H : MdP base F h m D p M) (o : Op17) : HCalls Tryz.prog 104 #[.pointer (some ⟨m, 0, none⟩), .agg (encO17 o).toArray] h (fun v h' => v = .bool (mayO p o) ∧ Ext h h') := by
  refine xcalls env0 Tryz.func104 rfl (by kernel_rfl) rfl (by kernel_rfl) ?_
  intro ob h1 n1
  have hb : h1[ob]? = some (.cells (encO17 o).toArray 113 (0, 0)) := n1.this
  have H1 := H.ext n1.ext
  have port : (o.kind = 0 ∨ o.kind = 2 ∨ o.kind = 4 ∨ o.kind = 8) → mayO p o = decide (inP p o.port) := fun q => by rw [mayO, if_pos q]
  refine ⟨_, cell_blk hb rfl, ?_⟩
  refine xif_of (fun q => ?_) (fun q0 => ?_)
  · refine xif_true q ?_
    refine ⟨_, cell_blk hb rfl, ?_⟩
    refine (mHas_spec H1 _).mono ?_
    rintro v h2 ⟨rfl, rfl⟩
    exact ⟨congrArg Value.bool (port (by have q : o.kind = 0 := by simpa using q
                                         omega)).symm, n1.ext⟩
  have q0 : ¬ o.kind = 0 := by simpa using q0
  refine xif_of (fun q => ?_) (fun q2 => ?_)
  · refine xif_true q ?_
    refine ⟨_, cell_blk hb rfl, ?_⟩
    refine (mHas_spec H1 _).mono ?_
    rintro v h2 ⟨rfl, rfl⟩
    exact ⟨congrArg Value.bool (port (by have q : o.kind = 2 := by simpa using q
                                         omega)).symm, n1.ext⟩
  have q2 : ¬ o.kind = 2 := by simpa using q2
  refine xif_of (fun q => ?_) (fun q4 => ?_)
  · refine xif_true q ?_
    refine ⟨_, cell_blk hb rfl, ?_⟩
    refine (mHas_spec H1 _).mono ?_
    rintro v h2 ⟨rfl, rfl⟩
    exact ⟨congrArg Value.bool (port (by have q : o.kind = 4 := by simpa using q
                                         omega)).symm, n1.ext⟩
  have q4 : ¬ o.kind = 4 := by simpa using q4
  refine xif_of (fun q => ?_) (fun q8 => ?_)
  · refine ⟨_, cell_blk hb rfl, ?_⟩
    refine (mHas_spec H1 _).mono ?_
    rintro v h2 ⟨rfl, rfl⟩
    exact ⟨congrArg Value.bool (port (by have q : o.kind = 8 := by simpa using q
                                         omega)).symm, n1.ext⟩
  have q8 : ¬ o.kind = 8 := by simpa using q8
  have two : (o.kind = 10 ∨ o.kind = 11) → mayO p o = (decide (inP p o.port) && decide (inP p o.to)) := fun q => by rw [mayO, if_neg (by omega), if_pos q]
  refine xif_of (fun q => ?_) (fun q10 => ?_)
  · refine xif_true q ?_
    have q : o.kind = 10 := by simpa using q
    refine ⟨_, cell_blk hb rfl, ?_⟩
    refine (mHas_spec H1 _).mono ?_
    rintro v h2 ⟨rfl, rfl⟩
    refine xif_of (fun d => ?_) (fun d => ?_)
    · refine ⟨_, cell_blk hb rfl, ?_⟩
      refine (mHas_spec H1 _).mono ?_
      rintro v h3 ⟨rfl, rfl⟩
      exact ⟨congrArg Value.bool (by rw [two (by omega), d]; rfl), n1.ext⟩
    · exact ⟨congrArg Value.bool (by rw [two (by omega), d]; rfl), n1.ext⟩
  have q10 : ¬ o.kind = 10 := by simpa using q10
  refine xif_of (fun q => ?_) (fun q11 => ?_)
  · have q : o.kind = 11 := by simpa using q
    refine ⟨_, cell_blk hb rfl, ?_⟩
    refine (mHas_spec H1 _).mono ?_
    rintro v h2 ⟨rfl, rfl⟩
    refine xif_of (fun d => ?_) (fun d => ?_)
    · refine ⟨_, cell_blk hb rfl, ?_⟩
      refine (mHas_spec H1 _).mono ?_
      rintro v h3 ⟨rfl, rfl⟩
      exact ⟨congrArg Value.bool (by rw [two (by omega), d]; rfl), n1.ext⟩
    · exact ⟨congrArg Value.bool (by rw [two (by omega), d]; rfl), n1.ext⟩
  have q11 : ¬ o.kind = 11 := by simpa using q11
  refine xif_of (fun q => ?_) (fun q12 => ?_)
  · have q : o.kind = 12 := by simpa using q
    refine ⟨_, cell_blk hb rfl, ?_⟩
    refine (mHas_spec H1 _).mono ?_
    rintro v h2 ⟨rfl, rfl⟩
    exact ⟨congrArg Value.bool (by rw [mayO, if_neg (by omega), if_neg (by omega), if_pos q]), n1.ext⟩
  have q12 : ¬ o.kind = 12 := by simpa using q12
  exact ⟨congrArg Value.bool (by rw [mayO, if_neg (by omega), if_neg (by omega), if_neg q12]; rfl), n1.ext⟩
theorem mMembers_spec (H : MdP base F h m D p M) (hn : M.vlans.length ≤ 1000) (vid : Int) : HCalls Tryz.prog 105 #[.pointer (some ⟨m, 0, none⟩), .int .i64 vid] h (fun v h' => v = .int .u64 (if findV vid M.vlans 0 < 0 then 0 else (M.vlans.getD (findV vid M.vlans 0).toNat ⟨0, 0, 0⟩).mem) ∧ Ext h h') := by
  refine xcalls env0 Tryz.func105 rfl (by kernel_rfl) rfl (by kernel_rfl) ?_
  refine ⟨_, cell_blk H.blk rfl, ?_⟩
  refine (vFind_spec (H.vlans.row encVl_len) (by omega)).mono ?_
  rintro v h1 ⟨rfl, x1⟩
  have H1 := H.ext x1
  rcases findV_range (vid := vid) M.vlans 0 with hf | ⟨f0, f1⟩
  · refine xif_of (fun _ => ?_) (fun q => absurd (of_decide_eq_false q) (by omega))
    exact ⟨by rw [if_pos (by omega)]; rfl, x1⟩
  · refine xif_of (fun q => absurd (of_decide_eq_true q) (by omega)) (fun _ => ?_)
    obtain ⟨i, hi⟩ : ∃ i : Nat, findV vid M.vlans 0 = i := ⟨_, (Int.toNat_of_nonneg (by omega)).symm⟩
    have hil : i < M.vlans.length := by omega
    obtain ⟨w, hw⟩ : ∃ w, M.vlans[i]? = some w := ⟨M.vlans[i], List.getElem?_eq_getElem hil⟩
    rw [hi]
    obtain ⟨a, ha, hrd⟩ := (H1.vlans.row encVl_len) i w hw
    refine ⟨_, cell_blk H1.blk rfl, a, ha, by omega, by omega, _, hrd.get 1 rfl, ?_, x1⟩
    rw [if_neg (by omega), Int.toNat_natCast, List.getD_eq_getElem?_getD, hw]; rfl
def entM (p : Pl) (M : Md) (o : Op17) : Md × Int :=
  if o.kind = 2 then ({ M with book := (learnB p.size M.book o.kvid o.mac o.port o.now).1 }, (learnB p.size M.book o.kvid o.mac o.port o.now).2)
  else if o.kind = 3 then (M, lookB p.size M.book o.kvid o.mac)
  else if o.kind = 4 then ({ M with book := (orderB p.size M.book o.kvid o.mac o.port o.now).1 }, (orderB p.size M.book o.kvid o.mac o.port o.now).2)
  else if o.kind = 6 then ({ M with book := (ageB p.size M.book o.shard o.bucket o.now o.limit).1 }, (ageB p.size M.book o.shard o.bucket o.now o.limit).2)
  else if o.kind = 7 then ({ M with book := (flushB M.book o.port o.vid).1 }, (flushB M.book o.port o.vid).2)
  else ({ M with book := (dropB p.size M.book o.kvid o.mac).1 }, if (dropB p.size M.book o.kvid o.mac).2 = true then 1 else 0)
theorem mEntries_spec (po : p.Ok) (K : MdOk p M) (H : MdP base F h m D p M) {o : Op17} (w : o.Wf) :
    HCalls Tryz.prog 106 #[.pointer (some ⟨m, 0, none⟩), .agg (encO17 o).toArray] h (fun v h' => v = .int .i64 (entM p M o).2 ∧ Did base F h m D p (entM p M o).1 h') := by
  unfold entM
  refine xcalls env_mEntries Tryz.func106 rfl (by kernel_rfl) rfl (by kernel_rfl) ?_
  intro ob h1 n1
  have hb : h1[ob]? = some (.cells (encO17 o).toArray 113 (0, 0)) := n1.this
  have H1 := H.ext n1.ext
  have hkey : Reads h1 ⟨ob, 5, none⟩ [.int .i64 o.kvid, .int .u64 o.mac] := reads_at hb rfl
  refine ⟨_, cell_blk hb rfl, ?_⟩
  refine xif_of (fun q => ?_) (fun q2 => ?_)
  · have q : o.kind = 2 := by simpa using q
    refine ⟨_, cell_blk H1.blk rfl, _, rfl, hkey, _, cell_blk hb rfl, _, cell_blk hb rfl, ?_⟩
    refine (kLearn_spec po.size K.book.bok H1.book w.key).mono ?_
    rintro v h2 ⟨rfl, B2, k2⟩
    rw [if_pos q]
    exact ⟨rfl, Did.after n1.ext (Did.book H1 B2 k2)⟩
  have q2 : ¬ o.kind = 2 := by simpa using q2
  refine xif_of (fun q => ?_) (fun q3 => ?_)
  · have q : o.kind = 3 := by simpa using q
    refine ⟨_, cell_blk H1.blk rfl, _, rfl, hkey, ?_⟩
    refine (kLookup_spec po.size K.book.bok H1.book w.key).mono ?_
    rintro v h2 ⟨rfl, x2⟩
    rw [if_neg q2, if_pos q]
    exact ⟨rfl, Did.same H (n1.ext.trans x2)⟩
  have q3 : ¬ o.kind = 3 := by simpa using q3
  refine xif_of (fun q => ?_) (fun q4 => ?_)
  · have q : o.kind = 4 := by simpa using q
    refine ⟨_, cell_blk H1.blk rfl, _, rfl, hkey, _, cell_blk hb rfl, _, cell_blk hb rfl, ?_⟩
    refine (kOrder_spec po.size K.book.bok H1.book w.key).mono ?_
    rintro v h2 ⟨rfl, B2, k2⟩
    rw [if_neg q2, if_neg q3, if_pos q]
    exact ⟨rfl, Did.after n1.ext (Did.book H1 B2 k2)⟩
  have q4 : ¬ o.kind = 4 := by simpa using q4
  refine xif_of (fun q => ?_) (fun q6 => ?_)
  · have q : o.kind = 6 := by simpa using q
    refine ⟨_, cell_blk H1.blk rfl, _, cell_blk hb rfl, _, cell_blk hb rfl, _, cell_blk hb rfl, _, cell_blk hb rfl, ?_⟩
    refine (kAge_spec po.size K.book.bok H1.book _ _ _ _).mono ?_
    rintro v h2 ⟨rfl, B2, k2⟩
    rw [if_neg q2, if_neg q3, if_neg q4, if_pos q]
    exact ⟨rfl, Did.after n1.ext (Did.book H1 B2 k2)⟩
  have q6 : ¬ o.kind = 6 := by simpa using q6
  refine xif_of (fun q => ?_) (fun q7 => ?_)
  · have q : o.kind = 7 := by simpa using q
    refine ⟨_, cell_blk H1.blk rfl, _, cell_blk hb rfl, _, cell_blk hb rfl, ?_⟩
    refine (kFlush_spec po.size K.book.bok H1.book _ _).mono ?_
    rintro v h2 ⟨rfl, B2, k2⟩
    rw [if_neg q2, if_neg q3, if_neg q4, if_neg q6, if_pos q]
    exact ⟨rfl, Did.after n1.ext (Did.book H1 B2 k2)⟩
  have q7 : ¬ o.kind = 7 := by simpa using q7
  refine ⟨_, cell_blk H1.blk rfl, _, rfl, hkey, ?_⟩
  refine (kDrop_spec po.size K.book.bok H1.book w.key).mono ?_
  rintro v h2 ⟨rfl, B2, k2⟩
  rw [if_neg q2, if_neg q3, if_neg q4, if_neg q6, if_neg q7]
  have d := Did.after n1.ext (Did.book H1 B2 k2)
  refine xif_of (fun e => ?_) (fun e => ?_)
  · exact ⟨by show _ = Value.int .i64 (if (dropB p.size M.book o.kvid o.mac).2 = true then 1 else 0); rw [if_pos e]; rfl, d⟩
  · exact ⟨by show _ = Value.int .i64 (if (dropB p.size M.book o.kvid o.mac).2 = true then 1 else 0); rw [if_neg (by simp [e])]; rfl, d⟩
end
end Go.Proofs.YtcjoenkpibhmoaaGreatE
