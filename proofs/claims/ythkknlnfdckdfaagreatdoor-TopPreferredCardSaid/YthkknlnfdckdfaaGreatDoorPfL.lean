/- TopPreferred: the plain law: what the credulous game finds, and the preferred labellings. -/
import Derived.Test.YthkknlnfdckdfaaGreatDoorNet
import Derived.Test.YthkknlnfdckdfaaGreatDoorGam
import Derived.Test.YthkknlnfdckdfaaGreatDoorPlf
namespace Go.Proofs.YthkknlnfdckdfaaGreatDoor
section
variable {n : Nat} {l : List (Int × Int)}
theorem adm_iff (hv : InR n l) {m : Nat} (hm : m < 2 ^ n) : AdmS n (attQ l) m ↔ soundB n l m = true := by
  rw [soundB_iff hv hm, freeB_iff hv]
  constructor
  · rintro ⟨hf, ho⟩
    refine ⟨fun a b ha hb e => ?_, fun j hj => ?_⟩
    · have := freeS_iff.1 hf a b (has_lt hm ha) (has_lt hm hb) ha hb
      rw [attQ_iff.2 e] at this; cases this
    · rw [has_stepN hv]
      refine ⟨has_lt hm hj, fun a hat => ?_⟩
      obtain ⟨i, hi, si, e⟩ := hitX_iff.1 (openS_nil.1 ho a (att_lt hv hat).1 (foeS_iff.2 ⟨j, has_lt hm hj, hj, attQ_iff.2 hat⟩))
      exact ⟨i, si, attQ_iff.1 e⟩
  · rintro ⟨hf, hs⟩
    refine ⟨freeS_iff.2 fun i j hi hj si sj => ?_, openS_nil.2 fun j hj hfj => ?_⟩
    · cases e : attQ l i j
      · rfl
      · exact absurd (attQ_iff.1 e) (hf i j si sj)
    · obtain ⟨i, hi, si, e⟩ := foeS_iff.1 hfj
      obtain ⟨b, hb, hbj⟩ := ((has_stepN hv m i).1 (hs i si)).2 j (attQ_iff.1 e)
      exact hitX_iff.2 ⟨b, has_lt hm hb, hb, attQ_iff.2 hbj⟩
theorem sound_of_adm (hv : InR n l) {m : Nat} (hm : m < 2 ^ n) (h : AdmS n (attQ l) m) : soundL n l (nodesB n m.testBit) = true := by
  unfold soundL
  rw [setB_nodes, mask_nodes hm, (adm_iff hv hm).1 h]; rfl
/-- the game is won exactly if some preferred labelling has the root In -/
theorem sr_pref (hv : InR n l) {root : Nat} (hr : root < n) : (srS n (attQ l) (n + 1) (1 <<< root)).isSome = (keptL prefP (compL n l)).any fun y => atB y root := by
  have hs0 : 1 <<< root < 2 ^ n := by rw [Nat.one_shiftLeft]; exact Nat.pow_lt_pow_right (by omega) hr
  have hb0 : ∀ i, (1 <<< root).testBit i = true ↔ i = root := fun i => by rw [Nat.one_shiftLeft, Nat.testBit_two_pow, decide_eq_true_iff]; exact eq_comm
  rw [← acc_all hv hr, Bool.eq_iff_iff]
  unfold accB
  rw [List.any_eq_true]
  constructor
  · intro h
    obtain ⟨r, hr'⟩ := Option.isSome_iff_exists.1 h
    obtain ⟨h1, h2⟩ := srS_sound hr'
    have hlt := srS_lt hs0 hr'
    refine ⟨nodesB n r.testBit, mem_sets (setB_nodes n _) hv.1, ?_⟩
    rw [sound_of_adm hv hlt h1, Bool.true_and, inB_iff]
    exact mem_nodesB.2 ⟨root, hr, h2 root ((hb0 root).2 rfl), rfl⟩
  · rintro ⟨x, _, h⟩
    rw [Bool.and_eq_true, inB_iff] at h
    obtain ⟨hs, hx⟩ := h
    unfold soundL at hs
    rw [Bool.and_eq_true] at hs
    have hm := (setB_mask hv.1 hs.1).2
    have ha := (adm_iff hv hm).2 hs.2
    have hin := (has_set hv.1 hs.1).2 hx
    have := srS_compl ha (k := n + 1) (s := 1 <<< root) (fun i _ e => by rw [(hb0 i).1 e]; exact hin) (by omega)
    cases e : srS n (attQ l) (n + 1) (1 <<< root)
    · exact absurd e this
    · rfl
/-- nodes of an admissible set lie in a preferred labelling -/
theorem sr_above (hv : InR n l) {s : Nat} (hs : s < 2 ^ n) (ha : AdmS n (attQ l) s) {R : List Int} (hR : ∀ v ∈ R, ∃ j : Nat, v = j ∧ j < n ∧ s.testBit j = true) : ((keptL prefP (compL n l)).any fun y => R.all fun v => atB y v) = true := by
  obtain ⟨y, hy, hin⟩ := adm_above hv (sound_of_adm hv hs ha)
  rw [List.any_eq_true]
  refine ⟨y, hy, List.all_eq_true.2 fun v hv' => ?_⟩
  obtain ⟨j, rfl, hj, sj⟩ := hR v hv'
  obtain ⟨i, hi, e, h2⟩ := mem_withL.1 (insideB_iff.1 hin j (mem_nodesB.2 ⟨j, hj, sj, rfl⟩))
  have : j = i := by omega
  subst this
  unfold atB
  rw [Bool.and_eq_true, Bool.and_eq_true, decide_eq_true_iff, decide_eq_true_iff, beq_iff_eq, Int.toNat_natCast]
  exact ⟨⟨by omega, by omega⟩, h2⟩
theorem any_step2 {α : Type} (p : α → Bool) (L : List α) {k : Nat} (h : k < L.length) : (L.take (k + 1)).any p = ((L.take k).any p || p L[k]) := by
  rw [List.take_succ_eq_append_getElem h, List.any_append, List.any_cons, List.any_nil, Bool.or_false]
theorem all_step2 {α : Type} (p : α → Bool) (L : List α) {k : Nat} (h : k < L.length) : (L.take (k + 1)).all p = ((L.take k).all p && p L[k]) := by
  rw [List.take_succ_eq_append_getElem h, List.all_append, List.all_cons, List.all_nil, Bool.and_true]
end
/-- the nodes that the law reaches -/
structure RcOk (n s : Nat) (R : List Nat) : Prop where
  nd : R.Nodup
  ok : ∀ v ∈ R, v < n ∧ s.testBit v = true
theorem RcOk.one {n s i : Nat} (hi : i < n) (hs : s.testBit i = true) : RcOk n s [i] := ⟨by simp, fun v hv => by rw [List.mem_singleton] at hv; subst hv; exact ⟨hi, hs⟩⟩
theorem RcOk.more {n s v : Nat} {R : List Nat} (h : RcOk n s R) (hv : v < n ∧ s.testBit v = true) (hn : v ∉ R) : RcOk n s (R ++ [v]) where
  nd := by
    rw [List.nodup_append]
    refine ⟨h.nd, by simp, fun y hy z hz => ?_⟩
    rw [List.mem_singleton] at hz
    rintro rfl
    subst hz
    exact hn hy
  ok := fun y hy => by
    rw [List.mem_append, List.mem_singleton] at hy
    rcases hy with hy | rfl
    · exact h.ok y hy
    · exact hv
theorem RcOk.len {n s : Nat} {R : List Nat} (h : RcOk n s R) : R.length ≤ n := by
  have := nodup_len n (R.map Int.ofNat) (List.Pairwise.map _ (fun _ _ hne e => hne (Int.ofNat.inj e)) h.nd) fun x hx => by
    obtain ⟨a, ha, rfl⟩ := List.mem_map.1 hx
    exact ⟨a, (h.ok a ha).1, rfl⟩
  rwa [List.length_map] at this
end Go.Proofs.YthkknlnfdckdfaaGreatDoor
