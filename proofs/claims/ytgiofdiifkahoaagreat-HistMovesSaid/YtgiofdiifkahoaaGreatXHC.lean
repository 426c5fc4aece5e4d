/- What the law HistMoves answers: yes. Conditions: the arguments are of their types. -/
import Derived.Test.YtgiofdiifkahoaaGreatXHB
set_option linter.unusedVariables false
set_option linter.unusedSimpArgs false
set_option maxRecDepth 100000
namespace Go.Proofs.YtgiofdiifkahoaaGreatE
open Go Go.Proofs
def env_lHMoves : Nat → Ann
  | 13 => ⟨.op 0 [] <| .op 1 [] <| .op 2 [] <| .op 3 [] <| .op 4 [] <| .op 5 [] <| .op 6 [] <| .op 7 [] <| .op 8 [] <| .op 9 [] <| .op 10 [] <| .op 11 [] <| .nil, [0, 0, 3, 7, 15, 31, 0, 64, 192, 511, 1023, 2047], false⟩
  | 16 => ⟨.op 0 [] <| .op 1 [] <| .op 2 [] <| .op 3 [] <| .op 4 [] <| .op 5 [] <| .op 6 [] <| .op 7 [] <| .op 8 [] <| .op 9 [] <| .op 10 [] <| .op 11 [] <| .op 12 [] <| .op 13 [] <| .op 14 [] <| .op 15 [] <| .op 16 [] <| .op 17 [] <| .op 18 [] <| .op 19 [] <| .op 20 [] <| .op 21 [] <| .op 22 [] <| .op 23 [] <| .op 24 [] <| .op 25 [] <| .op 26 [] <| .nil, [0, 0, 2, 0, 0, 24, 56, 120, 0, 0, 768, 1792, 3840, 7936, 0, 0, 49152, 114688, 245760, 507904, 0, 1048576, 0, 8388606, 16777214, 33554431, 67108863], true⟩
  | _ => ⟨.nil, [], false⟩
def encP2 (x : Int × Int) : List Value := [.int .i64 x.1, .int .i64 x.2]
theorem encP2_len (x : Int × Int) : (encP2 x).length = 2 := rfl
/-- Which port is asked for, and what is said of it. -/
def askQ (p : Pl) (asks : List (Int × Int)) (i : Nat) : Int := (asks.getD i (0, 0)).1 % 18446744073709551616 % p.ports
def askA (asks : List (Int × Int)) (i : Nat) : Int := (asks.getD i (0, 0)).2 % 18446744073709551616 % 5
def askE (p : Pl) (asks : List (Int × Int)) (i : Nat) : He := ⟨4 + i, 3 * i, 3 * i + 3, 3 * i + 43, opZ 0 (askQ p asks i) 0 0 0, askA asks i⟩
section
variable {p : Pl} {ops : List Op17} {M : Md} {asks : List (Int × Int)}
def movN (p : Pl) (ops : List Op17) (M : Md) (asks : List (Int × Int)) : Nat → List He
  | 0 => []
  | i + 1 => movN p ops M asks i ++ (anE ops (ansN p ops M) i :: (if i < asks.length then [askE p asks i] else []))
def okA (p : Pl) (ops : List Op17) (M : Md) (asks : List (Int × Int)) (i : Nat) : Bool := askA asks i == ((mdN p ops M (i + 1)).stands.getD (askQ p asks i).toNat ⟨0, 0⟩).st
def rightN (p : Pl) (ops : List Op17) (M : Md) (asks : List (Int × Int)) : Nat → Bool
  | 0 => true
  | i + 1 => rightN p ops M asks i && (if i < asks.length then okA p ops M asks i else true)
theorem movN_mem : ∀ {n : Nat} {e : He}, e ∈ movN p ops M asks n → (∃ j, j < n ∧ e = anE ops (ansN p ops M) j) ∨ (∃ j, j < n ∧ e = askE p asks j)
  | 0, e, h => by cases h
  | n + 1, e, h => by
    rw [movN, List.mem_append, List.mem_cons] at h
    rcases h with h | rfl | h
    · rcases movN_mem h with ⟨j, hj, e1⟩ | ⟨j, hj, e1⟩
      · exact .inl ⟨j, by omega, e1⟩
      · exact .inr ⟨j, by omega, e1⟩
    · exact .inl ⟨n, by omega, rfl⟩
    · split at h
      · exact .inr ⟨n, by omega, List.mem_singleton.1 h⟩
      · cases h
theorem movN_len : ∀ n, (movN p ops M asks n).length = n + min n asks.length
  | 0 => by simp [movN]
  | n + 1 => by
    rw [movN, List.length_append, movN_len n, List.length_cons]
    split
    · rw [List.length_singleton]; omega
    · rw [List.length_nil]; omega
theorem movN_pw {R : He → He → Prop} (h1 : ∀ i j, j < i → R (anE ops (ansN p ops M) j) (anE ops (ansN p ops M) i)) (h2 : ∀ i j, j < i → R (askE p asks j) (anE ops (ansN p ops M) i)) (h3 : ∀ i j, j ≤ i → R (anE ops (ansN p ops M) j) (askE p asks i)) (h4 : ∀ i j, j < i → R (askE p asks j) (askE p asks i)) : ∀ n, (movN p ops M asks n).Pairwise R
  | 0 => List.Pairwise.nil
  | n + 1 => by
    rw [movN]
    refine List.pairwise_append.2 ⟨movN_pw h1 h2 h3 h4 n, ?_, ?_⟩
    · refine List.pairwise_cons.2 ⟨fun e he => ?_, ?_⟩
      · split at he
        · rw [List.mem_singleton.1 he]; exact h3 n n (Nat.le_refl _)
        · cases he
      · split
        · exact List.pairwise_singleton _ _
        · exact List.Pairwise.nil
    · intro a ha e he
      rw [List.mem_cons] at he
      have he : e = anE ops (ansN p ops M) n ∨ e = askE p asks n := by
        rcases he with he | he
        · exact .inl he
        · split at he
          · exact .inr (List.mem_singleton.1 he)
          · cases he
      rcases movN_mem ha with ⟨j, hj, rfl⟩ | ⟨j, hj, rfl⟩ <;> rcases he with rfl | rfl
      · exact h1 n j hj
      · exact h3 n j (by omega)
      · exact h2 n j hj
      · exact h4 n j hj
theorem movN_up (n : Nat) : Up (movN p ops M asks n) := by
  refine ⟨fun e he => ?_, movN_pw ?_ ?_ ?_ ?_ n⟩
  · rcases movN_mem he with ⟨j, _, rfl⟩ | ⟨j, _, rfl⟩
    · show (0 : Int) < 3 * j + 2; omega
    · show (0 : Int) < 3 * j + 3; omega
  · intro i j h; show (3 * (j : Int) + 2) < 3 * i + 2; omega
  · intro i j h; show (3 * (j : Int) + 3) < 3 * i + 2; omega
  · intro i j h; show (3 * (j : Int) + 2) < 3 * i + 3; omega
  · intro i j h; show (3 * (j : Int) + 3) < 3 * i + 3; omega
theorem ask_timely (i : Nat) : timelyM (askE p asks i) = true := by
  unfold timelyM askE
  rw [decide_eq_false (show ¬ ((3 * (i : Int)) < 0 ∨ (3 * (i : Int) + 3) < 0 ∨ (3 * (i : Int) + 43) < 0) by omega), decide_eq_false (show ¬ (0 < 3 * (i : Int) + 3 ∧ 3 * (i : Int) + 3 ≤ 3 * (i : Int)) by omega), decide_eq_false (show ¬ (0 < 3 * (i : Int) + 43 ∧ (3 * (i : Int) + 3 = 0 ∨ 3 * (i : Int) + 43 < 3 * (i : Int) + 3)) by omega)]
  rfl
theorem against_no {x a : He} (h1 : x.mark ≠ a.mark) (h2 : x.who ≠ a.who) : againstM x a = false := by
  unfold againstM
  rw [decide_eq_false (fun q => h1 q.2), decide_eq_false (fun q => h2 q.1)]; rfl
theorem movN_apart (n : Nat) : (movN p ops M asks n).Pairwise fun a e => againstM e a = false := by
  refine movN_pw ?_ ?_ ?_ ?_ n
  · intro i j h; exact alone_apart ops _ i j h
  · intro i j h; exact against_no (show (3 * (i : Int) + 2) ≠ 3 * j + 3 by omega) (show (3 : Int) ≠ 4 + j by omega)
  · intro i j h; exact against_no (show (3 * (i : Int) + 3) ≠ 3 * j + 2 by omega) (show (4 + (i : Int)) ≠ 3 by omega)
  · intro i j h; exact against_no (show (3 * (i : Int) + 3) ≠ 3 * j + 3 by omega) (show (4 + (i : Int)) ≠ 4 + j by omega)
theorem askQ_in (po : p.Ok) (i : Nat) : inP p (askQ p asks i) := by
  have := po.lo
  exact ⟨Int.emod_nonneg _ (by omega), Int.emod_lt_of_pos _ (by omega)⟩
theorem mov_rp (po : p.Ok) : ∀ n, ∃ b, rp p (movN p ops M asks n) 0 (M, -1) = (mdN p ops M n, b) ∧ (rightN p ops M asks n = true → b = -1) ∧ (rightN p ops M asks n = false → 0 ≤ b)
  | 0 => ⟨-1, rfl, fun _ => rfl, fun h => by cases h⟩
  | n + 1 => by
    obtain ⟨b, h1, h2, h3⟩ := mov_rp po n
    have hb : b = -1 ∨ 0 ≤ b := by cases hr : rightN p ops M asks n <;> simp_all
    have s1 : rp p [anE ops (ansN p ops M) n] (0 + (movN p ops M asks n).length) (mdN p ops M n, b) = (mdN p ops M (n + 1), b) := by
      unfold rp
      show rp p [] _ _ = _
      unfold rp
      refine Prod.ext rfl ?_
      show (if b = -1 ∧ 0 < (anE ops (ansN p ops M) n).fin ∧ ansN p ops M n ≠ ansN p ops M n then _ else b) = b
      rw [if_neg (fun q => q.2.2 rfl)]
    by_cases hn : n < asks.length
    · rw [movN, if_pos hn, show (anE ops (ansN p ops M) n :: [askE p asks n]) = [anE ops (ansN p ops M) n] ++ [askE p asks n] from rfl, rp_app, h1, rp_app, s1]
      have hq := askQ_in (p := p) (asks := asks) po n
      have hdo : do17 p (mdN p ops M (n + 1)) (askE p asks n).op = (mdN p ops M (n + 1), ((mdN p ops M (n + 1)).stands.getD (askQ p asks n).toNat ⟨0, 0⟩).st) := do_state (x := opZ 0 (askQ p asks n) 0 0 0) hq rfl
      unfold rp
      show ∃ b, rp p [] _ _ = _ ∧ _
      unfold rp
      rw [hdo]
      have hfin : (0 : Int) < (askE p asks n).fin := by show (0 : Int) < 3 * n + 43; omega
      simp only
      rw [rightN, if_pos hn]
      refine ⟨_, rfl, ?_, ?_⟩
      · intro hr
        rw [Bool.and_eq_true] at hr
        have e1 := h2 hr.1
        have e2 : askA asks n = ((mdN p ops M (n + 1)).stands.getD (askQ p asks n).toNat ⟨0, 0⟩).st := by have := hr.2; unfold okA at this; simpa using this
        rw [if_neg (fun q => q.2.2 e2.symm), e1]
      · intro hr
        split
        · omega
        · rename_i hc
          cases hr1 : rightN p ops M asks n with
          | false => exact h3 hr1
          | true =>
            rw [hr1, Bool.true_and] at hr
            refine absurd ⟨h2 hr1, hfin, fun e => ?_⟩ hc
            unfold okA at hr
            have e : ((mdN p ops M (n + 1)).stands.getD (askQ p asks n).toNat ⟨0, 0⟩).st = askA asks n := e
            rw [e] at hr
            simp at hr
    · rw [movN, if_neg hn, rp_app, h1, s1, rightN, if_neg hn, Bool.and_true]
      exact ⟨b, rfl, h2, h3⟩
theorem mov_check (po : p.Ok) (n : Nat) : checkH p (movN p ops M asks n) M (places (movN p ops M asks n).length) = ((checkH p (movN p ops M asks n) M (places (movN p ops M asks n).length)).1, if rightN p ops M asks n = true then 0 else 7) := by
  have h := up_check (p := p) (M := M) (l := movN p ops M asks n) (movN_up n) (fun e he => by
    rcases movN_mem he with ⟨j, hj, rfl⟩ | ⟨j, _, rfl⟩
    · exact alone_timely ops (ansN p ops M) (j + 1) _ (List.mem_of_getElem? (aloneN_get (by omega)))
    · exact ask_timely j) (fun i j e a hij he ha => by
    obtain ⟨h1, rfl⟩ := List.getElem?_eq_some_iff.1 he
    obtain ⟨h2, rfl⟩ := List.getElem?_eq_some_iff.1 ha
    exact List.pairwise_iff_getElem.1 (movN_apart n) j i h2 h1 hij)
  obtain ⟨b, h1, h2, h3⟩ := mov_rp (p := p) (ops := ops) (M := M) (asks := asks) po n
  rw [h, h1]
  simp only
  cases hr : rightN p ops M asks n with
  | true => rw [h2 hr]; rfl
  | false => rw [if_pos (h3 hr)]; rfl
end
section
variable {h : Heap}
set_option maxHeartbeats 1000000 in
theorem lHMoves_spec {A B O K : Option Addr} {na ca nb cb no co nk ck : Nat} {rules : List Ru} {vls : List Vl} {ops : List Op17} {asks : List (Int × Int)} {P tries ring normal short : Int} {s : Sz}
    (hra : Row encRu 2 h A rules) (hla : rules.length = na) (hrb : Row encVl 3 h B vls) (hlb : vls.length = nb) (hro : Row encO17 14 h O ops) (hlo : ops.length = no) (hrk : Row encP2 2 h K asks) (hlk : asks.length = nk)
    (wf : ∀ v ∈ vls, SetWf v.mem ∧ SetWf v.unt) (wo : ∀ o ∈ ops, o.Wf) :
    HCalls Tryz.prog 7 #[.agg (planV P (.slice A na ca) (.slice B nb cb) s tries ring normal short).toArray, .slice O no co, .slice K nk ck] h (fun v h' => v = .bool true ∧ Ext h h') := by
  subst hlk
  refine xcalls env_lHMoves Tryz.func7 rfl (by kernel_rfl) rfl (by kernel_rfl) ?_
  intro pb h2 n1
  have hpb2 := n1.this
  have x02 := n1.ext
  refine ⟨_, rfl, reads_all hpb2, ?_⟩
  refine (rPFix_spec (x02.row hra) hla (x02.row hrb) hlb wf).mono ?_
  rintro v h3 ⟨A3, c3, B3, d3, rfl, oR3, oV3, x3⟩
  have hrl : (fixRules P rules).length = (fixPorts P).toNat := by unfold fixRules; simp
  have pr := fixPorts_range P
  have vl8 := fixVlans_len P vls
  have oR3 : OwnA encRu 2 _ h2.size h3 A3 c3 (fixRules P rules) := oR3
  have oV3 : OwnA encVl 3 _ h2.size h3 B3 d3 (fixVlans P vls) := oV3
  have hpb3 := x3.blk hpb2
  refine ⟨rfl, rfl, canset_blk hpb3 rfl, fun h4 s4 => ?_⟩
  have hpb : h4[pb]? = some (.cells (planV (fixPorts P) (.slice A3 (fixPorts P).toNat c3) (.slice B3 (fixVlans P vls).length d3) (fixSz s) (fixTries tries) (fixRing ring) normal short).toArray 28 (0, 0)) := s4.put hpb3
  have x04 : Ext h h4 := (x02.trans x3).stored s4 (n1.ge (Ext.refl _))
  have pb2 : pb < h2.size := blk_lt hpb2
  have oR4 := oR3.other s4 fun b hb => by have := oR3.ge b hb; intro e; subst e; omega
  have oV4 := oV3.other s4 fun b hb => by have := oV3.ge b hb; intro e; subst e; omega
  have po := fixPl_ok P s tries ring normal short
  have N2 := fixVlans_nice (P := P) (tries := tries) (ring := ring) (normal := normal) (short := short) (s := s) wf
  refine ⟨_, rfl, reads_all hpb, ?_⟩
  refine (l18Alone_spec (oR4.row encRu_len) (oV4.row encVl_len) hrl rfl wf (x04.row hro) hlo wo).mono ?_
  rintro v h5 ⟨A5, c5, rfl, o5, x5⟩
  have hpb5 := x5.blk hpb
  refine ⟨_, rfl, reads_all hpb5, ?_⟩
  refine (rNew17_spec ((oV4.ext x5).row encVl_len) rfl (by omega) (by omega) (fixSz_ok s)).mono ?_
  rintro v h6 ⟨m, D, rfl, H6, x6⟩
  have H6 : MdR h5.size (fun _ => False) h6 m D (fixPl P s tries ring normal short) (newM (fixPl P s tries ring normal short) (fixVlans P vls)) := H6
  obtain ⟨p, hp⟩ : ∃ p, fixPl P s tries ring normal short = p := ⟨_, rfl⟩
  have hpp : p.ports = fixPorts P := by rw [← hp]; rfl
  rw [hp] at o5 H6 po N2
  obtain ⟨M0, hM0⟩ : ∃ M0, newM p (fixVlans P vls) = M0 := ⟨_, rfl⟩
  rw [hM0] at o5 H6 N2
  obtain ⟨n, hn⟩ : ∃ n, min no 60 = n := ⟨_, rfl⟩
  rw [hn] at o5 ⊢
  have row5 := o5.row encHe_len
  have x05 := x04.trans x5
  refine ⟨Nat × (Nat → Prop) × Option Addr × Nat, fun z => [(1, .slice O no co), (2, .slice K asks.length ck), (3, .pointer (some ⟨pb, 0, none⟩)), (7, .slice A5 n c5), (8, .pointer (some ⟨m, 0, none⟩)), (9, .bool (rightN p ops M0 asks z.1)), (10, .int .i64 ((min z.1 asks.length : Nat) : Int)), (11, .slice z.2.2.1 (z.1 + min z.1 asks.length) z.2.2.2), (12, .int .i64 z.1)],
    fun z h' => z.1 ≤ n ∧ (MdR h5.size z.2.1 h' m D p (mdN p ops M0 z.1) ∧ OwnA encHe 19 81 h6.size h' z.2.2.1 z.2.2.2 (movN p ops M0 asks z.1)) ∧ h6.size ≤ h'.size ∧ Ext h5 h', fun z => n - z.1, (0, fun _ => False, none, 0),
    ⟨rfl, rfl, rfl, rfl, rfl, rfl, congrArg (fun x : Nat => some (Value.int .i64 (x : Int))) (Nat.zero_min _).symm, congrArg (fun x : Nat => some (Value.slice none x 0)) (by simp), rfl, trivial⟩, ⟨Nat.zero_le _, ⟨H6, .inl ⟨rfl, rfl, rfl⟩⟩, Nat.le_refl _, x6⟩, ?_⟩
  rintro ⟨i, G, B7, d7⟩ h7 ⟨hi, ⟨H7, o7⟩, z7, x7⟩
  simp only at hi H7 o7
  refine xif_of (fun hlt => ?_) (fun hge => ?_)
  · have hlt : (i : Int) < n := of_decide_eq_true hlt
    have i0 : (0 : Int) ≤ i := by omega
    have hgete : (aloneN ops (ansN p ops M0) n)[i]? = some (anE ops (ansN p ops M0) i) := aloneN_get (by omega)
    obtain ⟨a1, hA1, r1⟩ := (x7.row row5) i _ hgete
    refine ⟨a1, hA1, i0, hlt, encHe (anE ops (ansN p ops M0) i), rfl, r1, ?_⟩
    intro bs h8 n8
    have hl2 : (movN p ops M0 asks i).length = i + min i asks.length := movN_len i
    refine xappend_one (x := anE ops (ansN p ops M0) i) heInfoR heZeroR rfl (by decide) encHe_len encHe_one o7 n8 hl2 (by omega) z7 fun B9 d9 h9 o9 k9 => ?_
    have H9 := MdR.keepO H7 o7 k9
    have z9 := Nat.le_trans z7 k9.size
    have x9 : Ext h5 h9 := k9.ext x7 fun b hb => Nat.le_trans x6.size (o7.ge b hb)
    obtain ⟨a2, hA2, r2⟩ := (x9.row row5) i _ hgete
    have hx : ops[i]? = some (ops[i]'(by omega)) := List.getElem?_eq_getElem (by omega)
    have hg : ops.getD i op0 = ops[i]'(by omega) := by rw [List.getD_eq_getElem?_getD, hx]; rfl
    have wy : (ops.getD i op0).Wf := by rw [hg]; exact wo _ (List.getElem_mem _)
    have NN := mdN_nice po N2 wo i (by omega)
    refine ⟨a2, hA2, i0, hlt, encO17 (ops.getD i op0), rfl, r2.sub 4 rfl, ?_⟩
    refine (rDo17_spec po NN.ok (by have := NN.few; omega) H9 wy).mono ?_
    rintro v h10 ⟨rfl, d10⟩
    have x10 := d10.ext9 H9 x9 (Nat.le_refl _)
    have offo := MdR.offO H9
    obtain ⟨G', _, H10, f10⟩ := d10
    have o10 := o9.frT f10 offo
    have z10 := Nat.le_trans z9 f10.size
    have H10 : MdR h5.size G' h10 m D p (mdN p ops M0 (i + 1)) := H10
    have hl9 : (movN p ops M0 asks i ++ [anE ops (ansN p ops M0) i]).length = i + min i asks.length + 1 := by rw [List.length_append, hl2]; rfl
    refine xif_of (fun hk => ?_) (fun hk => ?_)
    rotate_left
    · have hk : ¬ ((min i asks.length : Nat) : Int) < asks.length := of_decide_eq_false hk
      have hnk : ¬ i < asks.length := by omega
      have e1 : movN p ops M0 asks (i + 1) = movN p ops M0 asks i ++ [anE ops (ansN p ops M0) i] := by rw [movN, if_neg hnk]
      have e2 : rightN p ops M0 asks (i + 1) = rightN p ops M0 asks i := by rw [rightN, if_neg hnk, Bool.and_true]
      have e3 : min (i + 1) asks.length = min i asks.length := by omega
      refine ⟨(i + 1, G', B9, d9), ⟨rfl, rfl, rfl, rfl, rfl, congrArg (fun x => some (Value.bool x)) e2.symm, congrArg (fun x : Nat => some (Value.int .i64 (x : Int))) e3.symm, congrArg (fun x : Nat => some (Value.slice B9 x d9)) (by show i + min i asks.length + 1 = i + 1 + min (i + 1) asks.length; omega), slot_inc (by omega), trivial⟩, ⟨by show i + 1 ≤ n; omega, ⟨H10, by show OwnA encHe 19 81 h6.size h10 B9 d9 (movN p ops M0 asks (i + 1)); rw [e1]; exact o10⟩, z10, x10⟩, by show n - (i + 1) < n - i; omega⟩
    have hk : ((min i asks.length : Nat) : Int) < asks.length := of_decide_eq_true hk
    have hnk : i < asks.length := by omega
    have hmin : min i asks.length = i := by omega
    have hpb10 := x10.blk hpb5
    obtain ⟨y, hy⟩ : ∃ y, asks[i]? = some y := ⟨asks[i]'(by omega), List.getElem?_eq_getElem (by omega)⟩
    have hyg : asks.getD i (0, 0) = y := by rw [List.getD_eq_getElem?_getD, hy]; rfl
    obtain ⟨ak, hAk, rk⟩ := ((x05.trans x10).row hrk) i y hy
    have l0 : (0 : Int) ≤ ((min i asks.length : Nat) : Int) := by omega
    have ck0 : cell h10 ((ak.add (((min i asks.length : Nat) : Int).toNat * 2)).add ((0 : Int).toNat * 1)) = some (.int .i64 y.1) := by rw [hmin, Int.toNat_natCast]; exact rk.get 0 rfl
    have ck1 : cell h10 ((ak.add (((min i asks.length : Nat) : Int).toNat * 2)).add ((1 : Int).toNat * 1)) = some (.int .i64 y.2) := by rw [hmin, Int.toNat_natCast]; exact rk.get 1 rfl
    have nzp : IntKind.u64.wrap (fixPorts P) ≠ 0 := by rw [wrap_u64 (by omega) (by omega)]; omega
    have eq1 : IntKind.i64.wrap ((IntKind.u64.wrap y.1).tmod (IntKind.u64.wrap (fixPorts P))) = askQ p asks i := by rw [modp_eq y.1 (fixPorts P) (by omega) (by omega)]; unfold askQ; rw [hyg, hpp]
    have eq2 : IntKind.i64.wrap ((IntKind.u64.wrap y.2).tmod 5) = askA asks i := by rw [modn_eq y.2 5 (by omega) (by omega)]; unfold askA; rw [hyg]
    have hq := askQ_in (p := p) (asks := asks) po i
    have N10 := mdN_nice po N2 wo (i + 1) (by omega)
    have hstl := N10.ok.st
    refine ⟨ak, hAk, l0, hk, by decide, by decide, _, ck0, _, cell_blk hpb10 rfl, nzp, ?_⟩
    refine ⟨ak, hAk, l0, hk, by decide, by decide, _, ck1, by decide, ?_⟩
    refine ⟨Unit, fun _ => [(1, .slice O no co), (2, .slice K asks.length ck), (3, .pointer (some ⟨pb, 0, none⟩)), (7, .slice A5 n c5), (8, .pointer (some ⟨m, 0, none⟩)), (9, .bool (rightN p ops M0 asks (i + 1))), (10, .int .i64 (i : Int)), (11, .slice B9 (i + i + 1) d9), (12, .int .i64 i), (13, .int .i64 (askQ p asks i)), (14, .int .i64 (askA asks i))], fun _ h' => h' = h10, ?_, ?_⟩
    · have e2 : rightN p ops M0 asks (i + 1) = (rightN p ops M0 asks i && okA p ops M0 asks i) := by rw [rightN, if_pos hnk]
      have s1 : ((min i asks.length : Nat) : Int) = (i : Int) := by rw [hmin]
      have s2 : i + min i asks.length + 1 = i + i + 1 := by rw [hmin]
      refine xif_of (fun q => ?_) (fun q => ?_)
      · obtain ⟨sn, hsn⟩ : ∃ sn, (mdN p ops M0 (i + 1)).stands[(askQ p asks i).toNat]? = some sn := ⟨_, List.getElem?_eq_getElem (by have := hq.1; have := hq.2; omega)⟩
        obtain ⟨as1, hAs1, rs⟩ := (H10.stands.row encSn_len) _ sn hsn
        have hgs : (mdN p ops M0 (i + 1)).stands.getD (askQ p asks i).toNat ⟨0, 0⟩ = sn := by rw [List.getD_eq_getElem?_getD, hsn]; rfl
        have q0 : (0 : Int) ≤ IntKind.i64.wrap ((IntKind.u64.wrap y.1).tmod (IntKind.u64.wrap (fixPorts P))) := by rw [eq1]; exact hq.1
        have q1 : IntKind.i64.wrap ((IntKind.u64.wrap y.1).tmod (IntKind.u64.wrap (fixPorts P))) < ((mdN p ops M0 (i + 1)).stands.length : Int) := by rw [eq1]; have := hq.2; omega
        have cs : cell h10 ((as1.add ((IntKind.i64.wrap ((IntKind.u64.wrap y.1).tmod (IntKind.u64.wrap (fixPorts P)))).toNat * 2)).add 0) = some (.int .i64 sn.st) := by rw [eq1]; exact rs.get 0 rfl
        refine ⟨_, cell_blk H10.blk rfl, as1, hAs1, q0, q1, _, cs, ?_⟩
        have e4 : (IntKind.i64.wrap ((IntKind.u64.wrap y.2).tmod 5) == sn.st) = rightN p ops M0 asks (i + 1) := by rw [e2, q, Bool.true_and, eq2]; unfold okA; rw [hgs]
        exact ⟨(), ⟨rfl, rfl, rfl, rfl, rfl, congrArg (fun x => some (Value.bool x)) e4, congrArg (fun x => some (Value.int .i64 x)) s1, congrArg (fun x : Nat => some (Value.slice B9 x d9)) s2, rfl, congrArg (fun x => some (Value.int .i64 x)) eq1, congrArg (fun x => some (Value.int .i64 x)) eq2, trivial⟩, rfl⟩
      · have e4 : false = rightN p ops M0 asks (i + 1) := by rw [e2, q]; rfl
        exact ⟨(), ⟨rfl, rfl, rfl, rfl, rfl, congrArg (fun x => some (Value.bool x)) e4, congrArg (fun x => some (Value.int .i64 x)) s1, congrArg (fun x : Nat => some (Value.slice B9 x d9)) s2, rfl, congrArg (fun x => some (Value.int .i64 x)) eq1, congrArg (fun x => some (Value.int .i64 x)) eq2, trivial⟩, rfl⟩
    rintro _ h11 rfl
    obtain ⟨a3, hA3, r3⟩ := (x10.row row5) i _ hgete
    refine ⟨a3, hA3, i0, hlt, _, r3.get 1 rfl, a3, hA3, i0, hlt, _, r3.get 2 rfl, a3, hA3, i0, hlt, _, r3.get 3 rfl, ?_⟩
    intro bs2 h12 n12
    have w4 : IntKind.i64.wrap (4 + (i : Int)) = 4 + i := wrap_i64 (by omega) (by omega)
    have w1 : IntKind.i64.wrap ((3 * (i : Int) + 2) + 1) = 3 * i + 3 := by rw [wrap_i64 (by omega) (by omega)]; omega
    have w40 : IntKind.i64.wrap ((3 * (i : Int) + 3) + 40) = 3 * i + 43 := by rw [wrap_i64 (by omega) (by omega)]; omega
    have n12 : New h11 h12 bs2 (.cells (encHe ⟨IntKind.i64.wrap (4 + (i : Int)), 3 * i, IntKind.i64.wrap ((3 * (i : Int) + 2) + 1), IntKind.i64.wrap ((3 * (i : Int) + 3) + 40), opZ 0 (askQ p asks i) 0 0 0, askA asks i⟩).toArray 81) := n12
    rw [w4, w1, w40] at n12
    have n12 : New h11 h12 bs2 (.cells (encHe (askE p asks i)).toArray 81) := n12
    rw [hmin] at hl9
    refine xappend_one (x := askE p asks i) heInfoR heZeroR rfl (by decide) encHe_len encHe_one o10 n12 hl9 (by omega) z10 fun B13 d13 h13 o13 k13 => ?_
    have H13 := MdR.keepO H10 o10 k13
    have z13 := Nat.le_trans z10 k13.size
    have x13 : Ext h5 h13 := k13.ext x10 fun b hb => Nat.le_trans x6.size (o10.ge b hb)
    have e1 : movN p ops M0 asks (i + 1) = movN p ops M0 asks i ++ [anE ops (ansN p ops M0) i] ++ [askE p asks i] := by rw [movN, if_pos hnk, List.append_assoc]; rfl
    rw [← e1] at o13
    have e5 : IntKind.i64.wrap ((i : Int) + 1) = ((min (i + 1) asks.length : Nat) : Int) := by rw [wrap_i64 (by omega) (by omega)]; omega
    exact ⟨(i + 1, G', B13, d13), ⟨rfl, rfl, rfl, rfl, rfl, rfl, congrArg (fun x => some (Value.int .i64 x)) e5, congrArg (fun x : Nat => some (Value.slice B13 x d13)) (by show i + i + 1 + 1 = i + 1 + min (i + 1) asks.length; omega), slot_inc (by omega), trivial⟩, ⟨by show i + 1 ≤ n; omega, ⟨H13, o13⟩, z13, x13⟩, by show n - (i + 1) < n - i; omega⟩
  have hge : ¬ (i : Int) < n := of_decide_eq_false hge
  obtain rfl : i = n := by omega
  have hml := movN_len (p := p) (ops := ops) (M := M0) (asks := asks) i
  have hpb7 := x7.blk hpb5
  have x47 := x5.trans x7
  refine ⟨_, rfl, reads_all hpb7, ?_⟩
  refine (l17To_spec ((oR4.ext x47).row encRu_len) hrl ((oV4.ext x47).row encVl_len) rfl (by omega) (by omega)).mono ?_
  rintro v h8 ⟨A8, c8, B8, d8, rfl, oR8, oV8, x8⟩
  refine (l18To_spec ((o7.ext x8).row encHe_len) hml (by omega)).mono ?_
  rintro v h9 ⟨A9, c9, rfl, o9, x9⟩
  have hc9 : i + min i asks.length ≤ c9 := by have := o9.le; omega
  have wfm : ∀ e ∈ movN p ops M0 asks i, e.op.Wf := fun e he => by
    rcases movN_mem he with ⟨j, hj, rfl⟩ | ⟨j, _, rfl⟩
    · exact aloneN_wf wo (n := i) (by omega) _ (List.mem_of_getElem? (aloneN_get hj))
    · exact opZ_wf ..
  refine (hCheck_spec (oR8.ext x9) (oV8.ext x9) hrl rfl wf (o9.row encHe_len) hml (by omega) hc9 wfm).mono ?_
  rintro v h10 ⟨i10, e10, rfl, k10, x10⟩
  have ord := up_ord (movN_up (p := p) (ops := ops) (M := M0) (asks := asks) i)
  rw [hml] at ord
  have k10 := k10 _ ord
  have mc := mov_check (p := p) (ops := ops) (M := M0) (asks := asks) po i
  rw [hml] at mc
  rw [hp, hM0, mc] at k10
  have ke : e10 = if rightN p ops M0 asks i = true then 0 else 7 := congrArg Prod.snd k10
  refine told18_spec.mono ?_
  rintro v h11 ⟨rfl, x11⟩
  have hq : ((e10 == 0) == rightN p ops M0 asks i) = true := by
    rw [ke]; cases rightN p ops M0 asks i <;> rfl
  have fin : tuple1 [Value.bool true] = Value.bool true ∧ Ext h h11 := ⟨rfl, x04.trans (x47.trans (x8.trans (x9.trans (x10.trans x11))))⟩
  refine xif_true hq ?_
  refine xif_of (fun q => ?_) (fun q => ?_)
  · exact fin
  · have q7 : e10 = 7 := by
      rw [ke] at q ⊢
      cases hr : rightN p ops M0 asks i with
      | true => rw [hr] at q; cases q
      | false => rfl
    subst q7
    exact fin
end
end Go.Proofs.YtgiofdiifkahoaaGreatE
