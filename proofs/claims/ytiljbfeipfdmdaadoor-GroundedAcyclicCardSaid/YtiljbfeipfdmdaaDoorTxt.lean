/- A region that draws its order may be walked in the order of the text, where each operation yields one value in every world that meets S and leaves a world that meets S. Over any program. -/
import Derived.Orders
import Derived.Deep.RegionHeld3
namespace Go.Proofs.YtiljbfeipfdmdaaDoor
open Go
section
variable {P : Program} {ops : Array Oper} {Q : Exit → Act → World → Prop} {S : World → Prop}

/-- in state a operation o leaves v, whatever world that meets S it finds; the world behind it meets S -/
def TxtStep (P : Program) (ops : Array Oper) (S : World → Prop) (o : Oper) (a : Act) (v : Value) : Prop :=
  (Region.wanted o (yielded ops a.tmps) = true ∧ ∀ w, S w → (execOp a.eval o).run P w = .ok (.value v) w) ∨
  (Region.wanted o (yielded ops a.tmps) = false ∧ v = undef) ∨
  (Region.wanted o (yielded ops a.tmps) = true ∧ ∃ f args, (∀ w, S w → (execOp a.eval o).run P w = .ok (.enter f args) w) ∧ ∀ w, S w → Calls P f args w fun e w' => e = .returned v ∧ S w')

/-- the operations with these numbers, one behind the other -/
def Txt (P : Program) (ops : Array Oper) (S : World → Prop) (R : Act → Prop) : List Nat → Act → Prop
  | [], a => R a
  | i :: rest, a => ∃ o v, ops[i]? = some o ∧ TxtStep P ops S o a v ∧ Txt P ops S R rest (a.put o.dst v)

theorem TxtStep.wpOp {i : Nat} {o : Oper} {v : Value} {a : Act} {w : World} (hi : ops[i]? = some o) (h : TxtStep P ops S o a v) (hS : S w) {K : Act → World → Prop}
    (hK : ∀ w', S w' → K (a.put o.dst v) w') : wpOp P ops Q i K a w := by
  unfold Go.wpOp
  simp only [hi]
  rcases h with ⟨hw, hv⟩ | ⟨hw, rfl⟩ | ⟨hw, f, args, hr, hc⟩
  · simp only [hw, if_true, Oper.wp, hv w hS, Oper.upon]; exact .inl (hK w hS)
  · simp only [hw, Bool.false_eq_true, if_false]; exact hK w hS
  · simp only [hw, if_true, Oper.wp, hr w hS, Oper.upon]
    refine .inl ((hc w hS).mono ?_)
    rintro e w' ⟨rfl, hs⟩
    exact hK w' hs

theorem TxtStep.put {o o' : Oper} {v u : Value} {a : Act} (hs : ∀ cs b, o.op ≠ .select cs b) (hn : ∀ d, o'.dst = some d → d ∉ o.looksAt ops) : TxtStep P ops S o (a.put o'.dst u) v ↔ TxtStep P ops S o a v := by
  unfold TxtStep
  rw [execOp_put o hs a o'.dst u hn, wanted_put o a o'.dst u hn]

/-- any two operations: the later one waits for the earlier one, or they are apart; nobody waits for a later one -/
def textOk (ops : Array Oper) : Bool :=
  (List.range ops.size).all fun j => (List.range ops.size).all fun i =>
    match ops[i]?, ops[j]? with
    | some oi, some oj => (oj.op matches .select _ _) == false && (oj.after.all fun e => !Region.binds .any e || decide (e.on < j)) && (!decide (i < j) || oj.after.any (fun e => Region.binds .any e && e.on == i) || oi.apart ops oj)
    | _, _ => true

theorem textOk_spec (h : textOk ops = true) {i j : Nat} {oi oj : Oper} (hi : ops[i]? = some oi) (hj : ops[j]? = some oj) :
    (∀ cs b, oj.op ≠ .select cs b) ∧ (∀ e ∈ oj.after, Region.binds .any e = true → e.on < j) ∧ (i < j → (∀ e ∈ oj.after, Region.binds .any e = true → e.on ≠ i) → oi.apart ops oj = true) := by
  unfold textOk at h
  rw [List.all_eq_true] at h
  have h1 := h j (List.mem_range.2 (Array.getElem?_eq_some_iff.1 hj).1)
  rw [List.all_eq_true] at h1
  have h2 := h1 i (List.mem_range.2 (Array.getElem?_eq_some_iff.1 hi).1)
  simp only [hi, hj, Bool.and_eq_true, Bool.or_eq_true, beq_iff_eq] at h2
  obtain ⟨⟨ha, hb⟩, hc⟩ := h2
  refine ⟨fun cs b he => by rw [he] at ha; simp at ha, fun e he hbind => ?_, fun hlt hno => ?_⟩
  · have := (Array.all_eq_true_iff_forall_mem.1 hb) e he
    simp only [hbind, Bool.not_true, Bool.false_or, decide_eq_true_eq] at this
    exact this
  · rcases hc with (hc | hc) | hc
    · simp [hlt] at hc
    · obtain ⟨e, he, hb⟩ := Array.any_eq_true'.1 hc
      simp only [Bool.and_eq_true, beq_iff_eq] at hb
      exact absurd hb.2 (hno e he hb.1)
    · exact hc

/-- one of them may be taken ahead of those with which it is apart -/
theorem Txt.first {R : Act → Prop} (hsel : ∀ (j : Nat) (oj : Oper), ops[j]? = some oj → ∀ cs b, oj.op ≠ .select cs b) {i : Nat} {oi : Oper} (hi : ops[i]? = some oi) (post : List Nat) :
    ∀ (pre : List Nat) (a : Act), (∀ j ∈ pre, ∀ oj : Oper, ops[j]? = some oj → oj.apart ops oi = true) → Txt P ops S R (pre ++ i :: post) a → Txt P ops S R (i :: (pre ++ post)) a
  | [], _, _, h => h
  | j :: pre, a, hap, h => by
    obtain ⟨oj, vj, hj, hstep, hrest⟩ := h
    obtain ⟨oi', vi, hi', hstepi, hrest'⟩ := Txt.first hsel hi post pre (a.put oj.dst vj) (fun k hk => hap k (List.mem_cons_of_mem _ hk)) hrest
    rw [hi] at hi'
    injection hi' with hi'
    subst hi'
    obtain ⟨h1, h2, h3⟩ := Oper.apart_spec (hap j (List.mem_cons_self ..) oj hj)
    refine ⟨oi, vi, hi, (TxtStep.put (hsel i oi hi) h1).1 hstepi, oj, vj, hj, (TxtStep.put (hsel j oj hj) h3).2 hstep, ?_⟩
    rw [← Act.put_comm a vj vi h2]
    exact hrest'

theorem wpAny_of_txt {R : Act → Prop} (hok : textOk ops = true) (hQ : ∀ a w, R a → S w → Q .normal a w) :
    ∀ (fuel : Nat) (listed : Array Bool) (L : List Nat) (a : Act) (w : World), L.length ≤ fuel → L.Pairwise (· < ·) → (∀ j, j ∈ L ↔ (j < ops.size ∧ listed.getD j true = false)) → listed.size = ops.size →
      Txt P ops S R L a → S w → wpAny P .any ops Q fuel listed a w := by
  have hsel : ∀ (j : Nat) (oj : Oper), ops[j]? = some oj → ∀ cs b, oj.op ≠ .select cs b := fun j oj hj => (textOk_spec hok hj hj).1
  have hready : ∀ (listed : Array Bool) (L : List Nat), L.Pairwise (· < ·) → (∀ j, j ∈ L ↔ (j < ops.size ∧ listed.getD j true = false)) → listed.size = ops.size → Region.ready .any ops listed = [] → L = [] := by
    intro listed L hp hm hsz hnil
    cases L with
    | nil => rfl
    | cons j rest =>
      exfalso
      obtain ⟨hjlt, hjun⟩ := (hm j).1 (List.mem_cons_self ..)
      obtain ⟨oj, hoj⟩ : ∃ oj, ops[j]? = some oj := ⟨ops[j], Array.getElem?_eq_getElem hjlt⟩
      have : j ∈ Region.ready .any ops listed := mem_ready.2 ⟨hjun, oj, hoj, fun e he hb => by
        have hlt := (textOk_spec hok hoj hoj).2.1 e he hb
        have hnot : e.on ∉ j :: rest := fun hin => by
          rcases List.mem_cons.1 hin with h | h
          · omega
          · have := (List.pairwise_cons.1 hp).1 _ h; omega
        have h2 : ¬ (e.on < ops.size ∧ listed.getD e.on true = false) := fun h => hnot ((hm _).2 h)
        have h3 : e.on < listed.size := by omega
        have h4 : listed.getD e.on true = listed[e.on] := by simp [h3]
        have h5 : listed.getD e.on false = listed[e.on] := by simp [h3]
        rw [h4] at h2
        rw [h5]
        cases hb2 : listed[e.on]
        · exact absurd ⟨by omega, hb2⟩ h2
        · rfl⟩
      rw [hnil] at this
      cases this
  intro fuel
  induction fuel with
  | zero =>
    intro listed L a w hlen hp hm hsz ht hS
    have hL : L = [] := List.eq_nil_of_length_eq_zero (by omega)
    subst hL
    refine ⟨?_, hQ a w ht hS⟩
    cases hr : Region.ready .any ops listed with
    | nil => rfl
    | cons x xs =>
      have hx : x ∈ Region.ready .any ops listed := by rw [hr]; exact List.mem_cons_self ..
      obtain ⟨h1, o, ho, _⟩ := mem_ready.1 hx
      have := (hm x).2 ⟨(Array.getElem?_eq_some_iff.1 ho).1, h1⟩
      cases this
  | succ fuel ih =>
    intro listed L a w hlen hp hm hsz ht hS
    refine ⟨fun hnil => ?_, fun i hi => ?_⟩
    · have hL := hready listed L hp hm hsz hnil
      subst hL
      exact hQ a w ht hS
    · obtain ⟨hun, oi, hoi, hdeps⟩ := mem_ready.1 hi
      have hilt := (Array.getElem?_eq_some_iff.1 hoi).1
      have hiL : i ∈ L := (hm i).2 ⟨hilt, hun⟩
      obtain ⟨pre, post, rfl⟩ := List.append_of_mem hiL
      have hpre : ∀ j ∈ pre, j < i := fun j hj => (List.pairwise_append.1 hp).2.2 j hj i (List.mem_cons_self ..)
      have hap : ∀ j ∈ pre, ∀ oj : Oper, ops[j]? = some oj → oj.apart ops oi = true := fun j hj oj hoj => by
        refine (textOk_spec hok hoj hoi).2.2 (hpre j hj) fun e he hb heq => ?_
        have h1 := hdeps e he hb
        have h0 := ((hm j).1 (List.mem_append_left _ hj))
        rw [heq] at h1
        have h3 : j < listed.size := by omega
        rw [show listed.getD j false = listed[j] by simp [h3]] at h1
        rw [show listed.getD j true = listed[j] by simp [h3]] at h0
        rw [h1] at h0
        exact absurd h0.2 (by simp)
      obtain ⟨oi', v, hoi', hstep, hrest⟩ := Txt.first hsel hoi post pre a hap ht
      rw [hoi] at hoi'
      injection hoi' with hoi'
      subst hoi'
      refine hstep.wpOp hoi hS fun w' hS' => ih _ (pre ++ post) _ w' (by simp at hlen ⊢; omega) ?_ ?_ (by simpa using hsz) hrest hS'
      · exact hp.sublist (List.Sublist.append (List.Sublist.refl _) (List.sublist_cons_self ..))
      · intro j
        have hnd : (pre ++ i :: post).Nodup := hp.imp (fun h => by omega)
        have hni : i ∉ pre ++ post := by
          intro hin
          rcases List.mem_append.1 hin with h | h
          · have := hpre i h; omega
          · have := (List.pairwise_cons.1 (List.pairwise_append.1 hp).2.1).1 i h; omega
        by_cases hij : i = j
        · subst hij
          constructor
          · intro h; exact absurd h hni
          · rintro ⟨_, h⟩
            rw [show (listed.setIfInBounds i true).getD i true = true by simp [hsz, hilt]] at h
            cases h
        · rw [getD_set_ne true hij, ← hm j]
          constructor
          · intro h
            rcases List.mem_append.1 h with h | h
            · exact List.mem_append_left _ h
            · exact List.mem_append_right _ (List.mem_cons_of_mem _ h)
          · intro h
            rcases List.mem_append.1 h with h | h
            · exact List.mem_append_left _ h
            · rcases List.mem_cons.1 h with h | h
              · exact absurd h.symm hij
              · exact List.mem_append_right _ h

/-- THE REGION, IN THE ORDER OF THE TEXT. -/
theorem wp_region_txt {id : Nat} {a : Act} {w : World} (S : World → Prop) (hm : P.follows .mixedOrders = true) (hok : textOk ops = true) (hS : S w.drew)
    (h : Txt P ops S (fun a' => ∀ w', S w' → Q .normal a' w') (List.range ops.size) a) : (Code.region id ops true).wp P Q a w := by
  refine wp_region_any hm (wpAny_of_txt (R := fun a' => ∀ w', S w' → Q .normal a' w') hok (fun a w hR hS => hR w hS) _ _ (List.range ops.size) a _ (by simp) List.pairwise_lt_range (fun j => ?_) (by simp) h hS)
  rw [List.mem_range]
  constructor
  · intro hj; exact ⟨hj, by simp [hj]⟩
  · intro hj; exact hj.1

/-- the same over the list of the operations themselves -/
def TxtL (P : Program) (ops : Array Oper) (S : World → Prop) (R : Act → Prop) : List Oper → Act → Prop
  | [], a => R a
  | o :: rest, a => ∃ v, TxtStep P ops S o a v ∧ TxtL P ops S R rest (a.put o.dst v)
theorem Txt.of_list {R : Act → Prop} (l : List Oper) : ∀ (k : Nat) (a : Act), (∀ j, l[j]? = ops[k + j]?) → TxtL P ops S R l a → Txt P ops S R (List.range' k l.length) a := by
  induction l with
  | nil => intro k a _ h; exact h
  | cons o l ih =>
    intro k a hj h
    obtain ⟨v, hs, hr⟩ := h
    rw [List.length_cons, List.range'_succ]
    refine ⟨o, v, by simpa using (hj 0).symm, hs, ih (k + 1) _ (fun j => ?_) hr⟩
    have := hj (j + 1)
    simpa [Nat.add_assoc, Nat.add_comm 1 j] using this
/-- THE REGION, IN THE ORDER OF THE TEXT, its operations written out. -/
theorem wp_region_text {id : Nat} {l : List Oper} {a : Act} {w : World} (S : World → Prop) (hm : P.follows .mixedOrders = true) (hok : textOk l.toArray = true) (hS : S w.drew)
    (h : TxtL P l.toArray S (fun a' => ∀ w', S w' → Q .normal a' w') l a) : (Code.region id l.toArray true).wp P Q a w := by
  refine wp_region_txt S hm hok hS ?_
  have := Txt.of_list (ops := l.toArray) l 0 a (fun j => by simp) h
  rwa [← List.range_eq_range'] at this
theorem TxtL.nil {R : Act → Prop} {a : Act} (h : R a) : TxtL P ops S R [] a := h
theorem TxtL.take {R : Act → Prop} {o : Oper} {rest : List Oper} {a : Act} {v : Value} (hw : Region.wanted o (yielded ops a.tmps) = true)
    (h : ∀ w, S w → (execOp a.eval o).run P w = .ok (.value v) w) (hr : TxtL P ops S R rest (a.put o.dst v)) : TxtL P ops S R (o :: rest) a := ⟨v, .inl ⟨hw, h⟩, hr⟩
theorem TxtL.skip {R : Act → Prop} {o : Oper} {rest : List Oper} {a : Act} (hw : Region.wanted o (yielded ops a.tmps) = false)
    (hr : TxtL P ops S R rest (a.put o.dst undef)) : TxtL P ops S R (o :: rest) a := ⟨undef, .inr (.inl ⟨hw, rfl⟩), hr⟩
theorem TxtL.call {R : Act → Prop} {o : Oper} {rest : List Oper} {a : Act} {v : Value} {f : FuncId} {args : Array Value} (hw : Region.wanted o (yielded ops a.tmps) = true)
    (h : ∀ w, S w → (execOp a.eval o).run P w = .ok (.enter f args) w) (hc : ∀ w, S w → Calls P f args w fun e w' => e = .returned v ∧ S w') (hr : TxtL P ops S R rest (a.put o.dst v)) : TxtL P ops S R (o :: rest) a :=
  ⟨v, .inr (.inr ⟨hw, f, args, h, hc⟩), hr⟩
theorem TxtL.take' {R : Act → Prop} {o : Oper} {rest : List Oper} {a : Act} (hw : Region.wanted o (yielded ops a.tmps) = true)
    (h : ∃ v, (∀ w, S w → (execOp a.eval o).run P w = .ok (.value v) w) ∧ TxtL P ops S R rest (a.put o.dst v)) : TxtL P ops S R (o :: rest) a := by
  obtain ⟨v, h1, h2⟩ := h
  exact TxtL.take hw h1 h2
theorem TxtL.call' {R : Act → Prop} {o : Oper} {rest : List Oper} {a : Act} (hw : Region.wanted o (yielded ops a.tmps) = true)
    (h : ∃ f args, (∀ w, S w → (execOp a.eval o).run P w = .ok (.enter f args) w) ∧ ∃ v, (∀ w, S w → Calls P f args w fun e w' => e = .returned v ∧ S w') ∧ TxtL P ops S R rest (a.put o.dst v)) : TxtL P ops S R (o :: rest) a := by
  obtain ⟨f, args, h1, v, h2, h3⟩ := h
  exact TxtL.call hw h1 h2 h3
end
end Go.Proofs.YtiljbfeipfdmdaaDoor
