import Derived.Orders
import Derived.Deep.RegionHeld3
import Derived.Test.YtncimnfhfomddaaDoorBas
/- A region that draws its order may be walked in the order of the text, where each operation yields one value in every world that meets S and leaves a world that meets S. Over any program. -/
namespace Go.Proofs.YtncimnfhfomddaaDoor
open Go
section
variable {P : Program} {ops : Array Oper} {Q : Exit → Act → World → Prop} {S : World → Prop}

/-- in state a operation o leaves v, whatever world that meets S it finds; the world behind it meets S -/
def TxtStep (P : Program) (ops : Array Oper) (S : World → Prop) (o : Oper) (a : Act) (v : Value) : Prop :=
  (Region.wanted o (yielded ops a.tmps) = true ∧ ∀ w, S w → (execOp a.eval o).run P w = .ok (.value v) w) ∨
  (Region.wanted o (yielded ops a.tmps) = false ∧ v = undef) ∨
  (Region.wanted o (yielded ops a.tmps) = true ∧ ∃ f args, (∀ w, S w → (execOp a.eval o).run P w = .ok (.enter f args) w) ∧ ∀ w, S w → Calls P f args w fun e w' => e = .returned v ∧ S w')

/-- the operations with these numbers, one behind the other -/
def Txt (P : Program) (ops : Array Oper) (S : World → Prop) (R : Act → Prop) : List Nat → Act → Prop
  | [], a => R a
  | i :: rest, a => ∃ o v, ops[i]? = some o ∧ TxtStep P ops S o a v ∧ Txt P ops S R rest (a.put o.dst v)

theorem TxtStep.wpOp {i : Nat} {o : Oper} {v : Value} {a : Act} {w : World} (hi : ops[i]? = some o) (h : TxtStep P ops S o a v) (hS : S w) {K : Act → World → Prop}
    (hK : ∀ w', S w' → K (a.put o.dst v) w') : wpOp P ops Q i K a w := by
  unfold Go.wpOp
  simp only [hi]
  rcases h with ⟨hw, hv⟩ | ⟨hw, rfl⟩ | ⟨hw, f, args, hr, hc⟩
  · simp only [hw, if_true, Oper.wp, hv w hS, Oper.upon]; exact .inl (hK w hS)
  · simp only [hw, Bool.false_eq_true, if_false]; exact hK w hS
  · simp only [hw, if_true, Oper.wp, hr w hS, Oper.upon]
    refine .inl ((hc w hS).mono ?_)
    rintro e w' ⟨rfl, hs⟩
    exact hK w' hs

theorem TxtStep.put {o o' : Oper} {v u : Value} {a : Act} (hs : ∀ cs b, o.op ≠ .select cs b) (hn : ∀ d, o'.dst = some d → d ∉ o.looksAt ops) : TxtStep P ops S o (a.put o'.dst u) v ↔ TxtStep P ops S o a v := by
  unfold TxtStep
  rw [execOp_put o hs a o'.dst u hn, wanted_put o a o'.dst u hn]

/-- any two operations: the later one waits for the earlier one, or they are apart; nobody waits for a later one -/
def textOk (ops : Array Oper) : Bool :=
  (List.range ops.size).all fun j => (List.range ops.size).all fun i =>
    match ops[i]?, ops[j]? with
    | some oi, some oj => (oj.op matches .select _ _) == false && (oj.after.all fun e => !Region.binds .any e || decide (e.on < j)) && (!decide (i < j) || oj.after.any (fun e => Region.binds .any e && e.on == i) || oi.apart ops oj)
    | _, _ => true

theorem textOk_spec (h : textOk ops = true) {i j : Nat} {oi oj : Oper} (hi : ops[i]? = some oi) (hj : ops[j]? = some oj) :
    (∀ cs b, oj.op ≠ .select cs b) ∧ (∀ e ∈ oj.after, Region.binds .any e = true → e.on < j) ∧ (i < j → (∀ e ∈ oj.after, Region.binds .any e = true → e.on ≠ i) → oi.apart ops oj = true) := by
  unfold textOk at h
  rw [List.all_eq_true] at h
  have h1 := h j (List.mem_range.2 (Array.getElem?_eq_some_iff.1 hj).1)
  rw [List.all_eq_true] at h1
  have h2 := h1 i (List.mem_range.2 (Array.getElem?_eq_some_iff.1 hi).1)
  simp only [hi, hj, Bool.and_eq_true, Bool.or_eq_true, beq_iff_eq] at h2
  obtain ⟨⟨ha, hb⟩, hc⟩ := h2
  refine ⟨fun cs b he => by rw [he] at ha; simp at ha, fun e he hbind => ?_, fun hlt hno => ?_⟩
  · have := (Array.all_eq_true_iff_forall_mem.1 hb) e he
    simp only [hbind, Bool.not_true, Bool.false_or, decide_eq_true_eq] at this
    exact this
  · rcases hc with (hc | hc) | hc
    · simp [hlt] at hc
    · obtain ⟨e, he, hb⟩ := Array.any_eq_true'.1 hc
      simp only [Bool.and_eq_true, beq_iff_eq] at hb
      exact absurd hb.2 (hno e he hb.1)
    · exact hc

/-- one of them may be taken ahead of those with which it is apart -/
theorem Txt.first {R : Act → Prop} (hsel : ∀ (j : Nat) (oj : Oper), ops[j]? = some oj → ∀ cs b, oj.op ≠ .select cs b) {i : Nat} {oi : Oper} (hi : ops[i]? = some oi) (post : List Nat) :
    ∀ (pre : List Nat) (a : Act), (∀ j ∈ pre, ∀ oj : Oper, ops[j]? = some oj → oj.apart ops oi = true) → Txt P ops S R (pre ++ i :: post) a → Txt P ops S R (i :: (pre ++ post)) a
  | [], _, _, h => h
  | j :: pre, a, hap, h => by
    obtain ⟨oj, vj, hj, hstep, hrest⟩ := h
    obtain ⟨oi', vi, hi', hstepi, hrest'⟩ := Txt.first hsel hi post pre (a.put oj.dst vj) (fun k hk => hap k (List.mem_cons_of_mem _ hk)) hrest
    rw [hi] at hi'
    injection hi' with hi'
    subst hi'
    obtain ⟨h1, h2, h3⟩ := Oper.apart_spec (hap j (List.mem_cons_self ..) oj hj)
    refine ⟨oi, vi, hi, (TxtStep.put (hsel i oi hi) h1).1 hstepi, oj, vj, hj, (TxtStep.put (hsel j oj hj) h3).2 hstep, ?_⟩
    rw [← Act.put_comm a vj vi h2]
    exact hrest'

theorem wpAny_of_txt {R : Act → Prop} (hok : textOk ops = true) (hQ : ∀ a w, R a → S w → Q .normal a w) :
    ∀ (fuel : Nat) (listed : Array Bool) (L : List Nat) (a : Act) (w : World), L.length ≤ fuel → L.Pairwise (· < ·) → (∀ j, j ∈ L ↔ (j < ops.size ∧ listed.getD j true = false)) → listed.size = ops.size →
      Txt P ops S R L a → S w → wpAny P .any ops Q fuel listed a w := by
  have hsel : ∀ (j : Nat) (oj : Oper), ops[j]? = some oj → ∀ cs b, oj.op ≠ .select cs b := fun j oj hj => (textOk_spec hok hj hj).1
  have hready : ∀ (listed : Array Bool) (L : List Nat), L.Pairwise (· < ·) → (∀ j, j ∈ L ↔ (j < ops.size ∧ listed.getD j true = false)) → listed.size = ops.size → Region.ready .any ops listed = [] → L = [] := by
    intro listed L hp hm hsz hnil
    cases L with
    | nil => rfl
    | cons j rest =>
      exfalso
      obtain ⟨hjlt, hjun⟩ := (hm j).1 (List.mem_cons_self ..)
      obtain ⟨oj, hoj⟩ : ∃ oj, ops[j]? = some oj := ⟨ops[j], Array.getElem?_eq_getElem hjlt⟩
      have : j ∈ Region.ready .any ops listed := mem_ready.2 ⟨hjun, oj, hoj, fun e he hb => by
        have hlt := (textOk_spec hok hoj hoj).2.1 e he hb
        have hnot : e.on ∉ j :: rest := fun hin => by
          rcases List.mem_cons.1 hin with h | h
          · omega
          · have := (List.pairwise_cons.1 hp).1 _ h; omega
        have h2 : ¬ (e.on < ops.size ∧ listed.getD e.on true = false) := fun h => hnot ((hm _).2 h)
        have h3 : e.on < listed.size := by omega
        have h4 : listed.getD e.on true = listed[e.on] := by simp [h3]
        have h5 : listed.getD e.on false = listed[e.on] := by simp [h3]
        rw [h4] at h2
        rw [h5]
        cases hb2 : listed[e.on]
        · exact absurd ⟨by omega, hb2⟩ h2
        · rfl⟩
      rw [hnil] at this
      cases this
  intro fuel
  induction fuel with
  | zero =>
    intro listed L a w hlen hp hm hsz ht hS
    have hL : L = [] := List.eq_nil_of_length_eq_zero (by omega)
    subst hL
    refine ⟨?_, hQ a w ht hS⟩
    cases hr : Region.ready .any ops listed with
    | nil => rfl
    | cons x xs =>
      have hx : x ∈ Region.ready .any ops listed := by rw [hr]; exact List.mem_cons_self ..
      obtain ⟨h1, o, ho, _⟩ := mem_ready.1 hx
      have := (hm x).2 ⟨(Array.getElem?_eq_some_iff.1 ho).1, h1⟩
      cases this
  | succ fuel ih =>
    intro listed L a w hlen hp hm hsz ht hS
    refine ⟨fun hnil => ?_, fun i hi => ?_⟩
    · have hL := hready listed L hp hm hsz hnil
      subst hL
      exact hQ a w ht hS
    · obtain ⟨hun, oi, hoi, hdeps⟩ := mem_ready.1 hi
      have hilt := (Array.getElem?_eq_some_iff.1 hoi).1
      have hiL : i ∈ L := (hm i).2 ⟨hilt, hun⟩
      obtain ⟨pre, post, rfl⟩ := List.append_of_mem hiL
      have hpre : ∀ j ∈ pre, j < i := fun j hj => (List.pairwise_append.1 hp).2.2 j hj i (List.mem_cons_self ..)
      have hap : ∀ j ∈ pre, ∀ oj : Oper, ops[j]? = some oj → oj.apart ops oi = true := fun j hj oj hoj => by
        refine (textOk_spec hok hoj hoi).2.2 (hpre j hj) fun e he hb heq => ?_
        have h1 := hdeps e he hb
        have h0 := ((hm j).1 (List.mem_append_left _ hj))
        rw [heq] at h1
        have h3 : j < listed.size := by omega
        rw [show listed.getD j false = listed[j] by simp [h3]] at h1
        rw [show listed.getD j true = listed[j] by simp [h3]] at h0
        rw [h1] at h0
        exact absurd h0.2 (by simp)
      obtain ⟨oi', v, hoi', hstep, hrest⟩ := Txt.first hsel hoi post pre a hap ht
      rw [hoi] at hoi'
      injection hoi' with hoi'
      subst hoi'
      refine hstep.wpOp hoi hS fun w' hS' => ih _ (pre ++ post) _ w' (by simp at hlen ⊢; omega) ?_ ?_ (by simpa using hsz) hrest hS'
      · exact hp.sublist (List.Sublist.append (List.Sublist.refl _) (List.sublist_cons_self ..))
      · intro j
        have hnd : (pre ++ i :: post).Nodup := hp.imp (fun h => by omega)
        have hni : i ∉ pre ++ post := by
          intro hin
          rcases List.mem_append.1 hin with h | h
          · have := hpre i h; omega
          · have := (List.pairwise_cons.1 (List.pairwise_append.1 hp).2.1).1 i h; omega
        by_cases hij : i = j
        · subst hij
          constructor
          · intro h; exact absurd h hni
          · rintro ⟨_, h⟩
            rw [show (listed.setIfInBounds i true).getD i true = true by simp [hsz, hilt]] at h
            cases h
        · rw [getD_set_ne true hij, ← hm j]
          constructor
          · intro h
            rcases List.mem_append.1 h with h | h
            · exact List.mem_append_left _ h
            · exact List.mem_append_right _ (List.mem_cons_of_mem _ h)
          · intro h
            rcases List.mem_append.1 h with h | h
            · exact List.mem_append_left _ h
            · rcases List.mem_cons.1 h with h | h
              · exact absurd h.symm hij
              · exact List.mem_append_right _ h

/-- THE REGION, IN THE ORDER OF THE TEXT. -/
theorem wp_region_txt {id : Nat} {a : Act} {w : World} (S : World → Prop) (hm : P.follows .mixedOrders = true) (hok : textOk ops = true) (hS : S w.drew)
    (h : Txt P ops S (fun a' => ∀ w', S w' → Q .normal a' w') (List.range ops.size) a) : (Code.region id ops true).wp P Q a w := by
  refine wp_region_any hm (wpAny_of_txt (R := fun a' => ∀ w', S w' → Q .normal a' w') hok (fun a w hR hS => hR w hS) _ _ (List.range ops.size) a _ (by simp) List.pairwise_lt_range (fun j => ?_) (by simp) h hS)
  rw [List.mem_range]
  constructor
  · intro hj; exact ⟨hj, by simp [hj]⟩
  · intro hj; exact hj.1

/-- the same over the list of the operations themselves -/
def TxtL (P : Program) (ops : Array Oper) (S : World → Prop) (R : Act → Prop) : List Oper → Act → Prop
  | [], a => R a
  | o :: rest, a => ∃ v, TxtStep P ops S o a v ∧ TxtL P ops S R rest (a.put o.dst v)
theorem Txt.of_list {R : Act → Prop} (l : List Oper) : ∀ (k : Nat) (a : Act), (∀ j, l[j]? = ops[k + j]?) → TxtL P ops S R l a → Txt P ops S R (List.range' k l.length) a := by
  induction l with
  | nil => intro k a _ h; exact h
  | cons o l ih =>
    intro k a hj h
    obtain ⟨v, hs, hr⟩ := h
    rw [List.length_cons, List.range'_succ]
    refine ⟨o, v, by simpa using (hj 0).symm, hs, ih (k + 1) _ (fun j => ?_) hr⟩
    have := hj (j + 1)
    simpa [Nat.add_assoc, Nat.add_comm 1 j] using this
/-- THE REGION, IN THE ORDER OF THE TEXT, its operations written out. -/
theorem wp_region_text {id : Nat} {l : List Oper} {a : Act} {w : World} (S : World → Prop) (hm : P.follows .mixedOrders = true) (hok : textOk l.toArray = true) (hS : S w.drew)
    (h : TxtL P l.toArray S (fun a' => ∀ w', S w' → Q .normal a' w') l a) : (Code.region id l.toArray true).wp P Q a w := by
  refine wp_region_txt S hm hok hS ?_
  have := Txt.of_list (ops := l.toArray) l 0 a (fun j => by simp) h
  rwa [← List.range_eq_range'] at this
theorem TxtL.nil {R : Act → Prop} {a : Act} (h : R a) : TxtL P ops S R [] a := h
theorem TxtL.take {R : Act → Prop} {o : Oper} {rest : List Oper} {a : Act} {v : Value} (hw : Region.wanted o (yielded ops a.tmps) = true)
    (h : ∀ w, S w → (execOp a.eval o).run P w = .ok (.value v) w) (hr : TxtL P ops S R rest (a.put o.dst v)) : TxtL P ops S R (o :: rest) a := ⟨v, .inl ⟨hw, h⟩, hr⟩
theorem TxtL.skip {R : Act → Prop} {o : Oper} {rest : List Oper} {a : Act} (hw : Region.wanted o (yielded ops a.tmps) = false)
    (hr : TxtL P ops S R rest (a.put o.dst undef)) : TxtL P ops S R (o :: rest) a := ⟨undef, .inr (.inl ⟨hw, rfl⟩), hr⟩
theorem TxtL.call {R : Act → Prop} {o : Oper} {rest : List Oper} {a : Act} {v : Value} {f : FuncId} {args : Array Value} (hw : Region.wanted o (yielded ops a.tmps) = true)
    (h : ∀ w, S w → (execOp a.eval o).run P w = .ok (.enter f args) w) (hc : ∀ w, S w → Calls P f args w fun e w' => e = .returned v ∧ S w') (hr : TxtL P ops S R rest (a.put o.dst v)) : TxtL P ops S R (o :: rest) a :=
  ⟨v, .inr (.inr ⟨hw, f, args, h, hc⟩), hr⟩
theorem TxtL.take' {R : Act → Prop} {o : Oper} {rest : List Oper} {a : Act} (hw : Region.wanted o (yielded ops a.tmps) = true)
    (h : ∃ v, (∀ w, S w → (execOp a.eval o).run P w = .ok (.value v) w) ∧ TxtL P ops S R rest (a.put o.dst v)) : TxtL P ops S R (o :: rest) a := by
  obtain ⟨v, h1, h2⟩ := h
  exact TxtL.take hw h1 h2
theorem TxtL.call' {R : Act → Prop} {o : Oper} {rest : List Oper} {a : Act} (hw : Region.wanted o (yielded ops a.tmps) = true)
    (h : ∃ f args, (∀ w, S w → (execOp a.eval o).run P w = .ok (.enter f args) w) ∧ ∃ v, (∀ w, S w → Calls P f args w fun e w' => e = .returned v ∧ S w') ∧ TxtL P ops S R rest (a.put o.dst v)) : TxtL P ops S R (o :: rest) a := by
  obtain ⟨f, args, h1, v, h2, h3⟩ := h
  exact TxtL.call hw h1 h2 h3
end
end Go.Proofs.YtncimnfhfomddaaDoor

/- A region that draws its order, walked in the order of the text, where some operations are effects: calls, allocations, appends whose result is not one value. The effects stand in a chain. Over any program. -/
namespace Go.Proofs.YtncimnfhfomddaaDoor
open Go
section
variable {P : Program} {ops : Array Oper} {Q : Exit → Act → World → Prop} {S : World → Prop} {es : List Nat}

/-- operation o leaves v, whatever world that meets S it finds, and the world as it is; or it is passed over -/
def Pure (P : Program) (ops : Array Oper) (S : World → Prop) (o : Oper) (a : Act) (v : Value) : Prop :=
  (Region.wanted o (yielded ops a.tmps) = true ∧ ∀ w, S w → (execOp a.eval o).run P w = .ok (.value v) w) ∨ (Region.wanted o (yielded ops a.tmps) = false ∧ v = undef)
theorem Pure.step {o : Oper} {a : Act} {v : Value} (h : Pure P ops S o a v) : TxtStep P ops S o a v := h.elim .inl (fun h => .inr (.inl h))
theorem Pure.put {o o' : Oper} {v u : Value} {a : Act} (hs : ∀ cs b, o.op ≠ .select cs b) (hn : ∀ d, o'.dst = some d → d ∉ o.looksAt ops) : Pure P ops S o (a.put o'.dst u) v ↔ Pure P ops S o a v := by
  unfold Pure
  rw [execOp_put o hs a o'.dst u hn, wanted_put o a o'.dst u hn]
theorem Pure.one {o : Oper} {a : Act} {v v' : Value} (h : Pure P ops S o a v) (k : Pure P ops S o a v') (hin : ∃ w, S w) : v = v' := by
  rcases h with ⟨h1, h2⟩ | ⟨h1, rfl⟩
  · rcases k with ⟨_, k2⟩ | ⟨k1, _⟩
    · obtain ⟨w, hw⟩ := hin
      have := (h2 w hw).symm.trans (k2 w hw)
      simpa using this
    · rw [h1] at k1; cases k1
  · rcases k with ⟨k1, _⟩ | ⟨_, rfl⟩
    · rw [h1] at k1; cases k1
    · rfl

/-- what an effect leaves -/
def Eff (P : Program) (o : Oper) (a : Act) (w : World) (Post : Value → World → Prop) : Prop := o.wp P a w (fun a' w' => ∃ v, a' = a.put o.dst v ∧ Post v w') (fun _ _ _ => False)
theorem Act.put_defers (a : Act) (d : Option Tmp) (v : Value) : (a.put d v).defers = a.defers := by cases d <;> rfl
theorem Eff.put {o o' : Oper} {u : Value} {a : Act} {w : World} {Post : Value → World → Prop} (hs : ∀ cs b, o.op ≠ .select cs b) (hn : ∀ d, o'.dst = some d → d ∉ o.looksAt ops) (hd : ∀ d, o'.dst = some d → o.dst ≠ some d)
    (h : Eff P o a w Post) : Eff P o (a.put o'.dst u) w Post := by
  have key : ∀ v w', (∃ v', a.put o.dst v = a.put o.dst v' ∧ Post v' w') → ∃ v', (a.put o'.dst u).put o.dst v = (a.put o'.dst u).put o.dst v' ∧ Post v' w' := by
    rintro v w' ⟨v', e, hp⟩
    refine ⟨v', ?_, hp⟩
    rw [Act.put_comm a u v hd, Act.put_comm a u v' hd, e]
  unfold Eff Oper.wp at *
  rw [execOp_put o hs a o'.dst u hn]
  generalize (execOp a.eval o).run P w = r at *
  cases r with
  | ok n w' =>
    cases n <;> simp only [Oper.upon] at h ⊢
    case value v => exact key _ _ h
    case skip => exact key _ _ h
    case defer d =>
      obtain ⟨v', e, _⟩ := h
      have := congrArg Act.defers e
      simp only [Act.put_defers] at this
      exact absurd (congrArg List.length this) (by simp)
    case enter f args => exact Calls.mono h (fun e w'' he => by cases e <;> first | exact key _ _ he | exact he.elim | (obtain ⟨_, _, hf⟩ := he; exact hf.elim))
    case row => exact Rows.mono h (fun _ _ he => key _ _ he)
  | halt x w' => cases x <;> simp only [Oper.upon] at h

theorem Eff.unput {o o' : Oper} {u : Value} {a : Act} {w : World} {Post : Value → World → Prop} (hs : ∀ cs b, o.op ≠ .select cs b) (hn : ∀ d, o'.dst = some d → d ∉ o.looksAt ops) (hd : ∀ d, o'.dst = some d → o.dst ≠ some d)
    (h : Eff P o (a.put o'.dst u) w Post) : Eff P o a w Post := by
  have keep : ∀ v v' : Value, (a.put o'.dst u).put o.dst v = (a.put o'.dst u).put o.dst v' → a.put o.dst v = a.put o.dst v' := by
    intro v v' e
    rw [Act.put_comm a u v hd, Act.put_comm a u v' hd] at e
    cases ho : o.dst with
    | none => rfl
    | some t =>
      rw [ho] at e
      have hne : o'.dst ≠ some t := fun h => hd t h ho
      cases h' : o'.dst with
      | none => rw [h'] at e; exact e
      | some t' =>
        rw [h'] at e hne
        have htt : t' ≠ t := fun h => hne (by rw [h])
        have e2 := congrArg Act.tmps e
        simp only [Act.put] at e2 ⊢
        have : a.tmps.setIfInBounds t v = a.tmps.setIfInBounds t v' := by
          apply Array.ext
          · simp
          · intro k hk1 hk2
            have e3 := congrArg (fun x : Array Value => x[k]?) e2
            by_cases hkt : k = t'
            · subst hkt
              have hk3 : k < a.tmps.size := by simpa using hk1
              rw [Array.getElem_setIfInBounds hk3, Array.getElem_setIfInBounds hk3, if_neg htt.symm, if_neg htt.symm]
            · simp only [Array.getElem?_setIfInBounds_ne (Ne.symm hkt)] at e3
              rw [Array.getElem?_eq_getElem hk1, Array.getElem?_eq_getElem hk2] at e3
              exact Option.some.inj e3
        rw [this]
  have key : ∀ v w', (∃ v', (a.put o'.dst u).put o.dst v = (a.put o'.dst u).put o.dst v' ∧ Post v' w') → ∃ v', a.put o.dst v = a.put o.dst v' ∧ Post v' w' := fun v w' ⟨v', e, hp⟩ => ⟨v', keep v v' e, hp⟩
  unfold Eff Oper.wp at *
  rw [execOp_put o hs a o'.dst u hn] at h
  generalize (execOp a.eval o).run P w = r at *
  cases r with
  | ok n w' =>
    cases n <;> simp only [Oper.upon] at h ⊢
    case value v => exact key _ _ h
    case skip => exact key _ _ h
    case defer d =>
      obtain ⟨v', e, _⟩ := h
      have := congrArg Act.defers e
      simp only [Act.put_defers] at this
      exact absurd (congrArg List.length this) (by simp)
    case enter f args => exact Calls.mono h (fun e w'' he => by cases e <;> first | exact key _ _ he | exact he.elim | (obtain ⟨_, _, hf⟩ := he; exact hf.elim))
    case row => exact Rows.mono h (fun _ _ he => key _ _ he)
  | halt x w' => cases x <;> simp only [Oper.upon] at h

/-- the operations with these numbers, one behind the other; those in es are effects; J is what is known of the world besides S -/
def TxtB (P : Program) (ops : Array Oper) (Q : Exit → Act → World → Prop) (S : World → Prop) (es : List Nat) : List Nat → (World → Prop) → Act → Prop
  | [], J, a => ∀ w, S w → J w → Q .normal a w
  | i :: rest, J, a => ∃ o, ops[i]? = some o ∧
    ((i ∉ es ∧ ∃ v, Pure P ops S o a v ∧ TxtB P ops Q S es rest J (a.put o.dst v)) ∨
     (i ∈ es ∧ Region.wanted o (yielded ops a.tmps) = true ∧ ∃ (Sh : Value → Prop) (J' : Value → World → Prop), (∃ v, Sh v) ∧ (∀ w, S w → J w → Eff P o a w fun v w' => S w' ∧ Sh v ∧ J' v w') ∧ ∀ v, Sh v → TxtB P ops Q S es rest (J' v) (a.put o.dst v)) ∨
     (i ∈ es ∧ Region.wanted o (yielded ops a.tmps) = false ∧ TxtB P ops Q S es rest J (a.put o.dst undef)))

theorem TxtB.first (hin : ∃ w, S w) (hsel : ∀ (j : Nat) (oj : Oper), ops[j]? = some oj → ∀ cs b, oj.op ≠ .select cs b) {i : Nat} {oi : Oper} (hi : ops[i]? = some oi) (post : List Nat) :
    ∀ (pre : List Nat) (J : World → Prop) (a : Act), (∀ j ∈ pre, ∀ oj : Oper, ops[j]? = some oj → oj.apart ops oi = true) → (i ∈ es → ∀ j ∈ pre, j ∉ es) → TxtB P ops Q S es (pre ++ i :: post) J a → TxtB P ops Q S es (i :: (pre ++ post)) J a
  | [], _, _, _, _, h => h
  | j :: pre, J, a, hap, hes, h => by
    obtain ⟨oj, hj, H⟩ := h
    obtain ⟨h1, h2, h3⟩ := Oper.apart_spec (hap j (List.mem_cons_self ..) oj hj)
    have ih : ∀ (J : World → Prop) (a : Act), TxtB P ops Q S es (pre ++ i :: post) J a → TxtB P ops Q S es (i :: (pre ++ post)) J a := fun J a =>
      TxtB.first hin hsel hi post pre J a (fun k hk => hap k (List.mem_cons_of_mem _ hk)) (fun he k hk => hes he k (List.mem_cons_of_mem _ hk))
    have h2' : ∀ d, oi.dst = some d → oj.dst ≠ some d := fun d hd he => h2 d he hd
    rcases H with ⟨hje, vj, hstep, hrest⟩ | ⟨hje, hwj, Sh, J', hex, heff, hrest⟩ | ⟨hje, hwj, hrest⟩
    · obtain ⟨oi', hi', Hi⟩ := ih _ _ hrest
      rw [hi] at hi'
      injection hi' with hi'
      subst hi'
      refine ⟨oi, hi, ?_⟩
      rcases Hi with ⟨hie, vi, hstepi, hresti⟩ | ⟨hie, hwi, Shi, Ji, hexi, heffi, hresti⟩ | ⟨hie, hwi, hresti⟩
      · refine .inl ⟨hie, vi, (Pure.put (hsel i oi hi) h1).1 hstepi, oj, hj, .inl ⟨hje, vj, (Pure.put (hsel j oj hj) h3).2 hstep, ?_⟩⟩
        rw [← Act.put_comm a vj vi h2]
        exact hresti
      · refine .inr (.inl ⟨hie, by rw [← wanted_put oi a oj.dst vj h1]; exact hwi, Shi, Ji, hexi, fun w hS hJ => ?_, fun v hv => ⟨oj, hj, .inl ⟨hje, vj, (Pure.put (hsel j oj hj) h3).2 hstep, ?_⟩⟩⟩)
        · have hb := heffi w hS hJ
          exact Eff.unput (hsel i oi hi) h1 h2 hb
        · rw [← Act.put_comm a vj v h2]
          exact hresti v hv
      · refine .inr (.inr ⟨hie, by rw [← wanted_put oi a oj.dst vj h1]; exact hwi, oj, hj, .inl ⟨hje, vj, (Pure.put (hsel j oj hj) h3).2 hstep, ?_⟩⟩)
        rw [← Act.put_comm a vj undef h2]
        exact hresti
    · have hie : i ∉ es := fun he => hes he j (List.mem_cons_self ..) hje
      have hp : ∀ v, Sh v → ∃ vi, Pure P ops S oi a vi ∧ TxtB P ops Q S es (pre ++ post) (J' v) ((a.put oj.dst v).put oi.dst vi) := fun v hv => by
        obtain ⟨oi', hi', Hi⟩ := ih _ _ (hrest v hv)
        rw [hi] at hi'
        injection hi' with hi'
        subst hi'
        rcases Hi with ⟨_, vi, hstepi, hresti⟩ | ⟨he, _⟩ | ⟨he, _⟩
        · exact ⟨vi, (Pure.put (hsel i oi hi) h1).1 hstepi, hresti⟩
        · exact absurd he hie
        · exact absurd he hie
      obtain ⟨v0, hv0⟩ := hex
      obtain ⟨vi, hpi, _⟩ := hp v0 hv0
      refine ⟨oi, hi, .inl ⟨hie, vi, hpi, oj, hj, .inr (.inl ⟨hje, ?_, Sh, J', ⟨v0, hv0⟩, fun w hS hJ => Eff.put (hsel j oj hj) h3 h2' (heff w hS hJ), fun v hv => ?_⟩)⟩⟩
      · rw [wanted_put oj a oi.dst vi h3]; exact hwj
      · obtain ⟨vi', hpi', hc⟩ := hp v hv
        have := hpi.one hpi' hin
        subst this
        rw [← Act.put_comm a v vi h2]
        exact hc
    · have hie : i ∉ es := fun he => hes he j (List.mem_cons_self ..) hje
      obtain ⟨oi', hi', Hi⟩ := ih _ _ hrest
      rw [hi] at hi'
      injection hi' with hi'
      subst hi'
      rcases Hi with ⟨_, vi, hstepi, hresti⟩ | ⟨he, _⟩ | ⟨he, _⟩
      · refine ⟨oi, hi, .inl ⟨hie, vi, (Pure.put (hsel i oi hi) h1).1 hstepi, oj, hj, .inr (.inr ⟨hje, ?_, ?_⟩)⟩⟩
        · rw [wanted_put oj a oi.dst vi h3]; exact hwj
        · rw [← Act.put_comm a undef vi h2]
          exact hresti
      · exact absurd he hie
      · exact absurd he hie

/-- the effects stand in a chain -/
def chainOk (ops : Array Oper) (es : List Nat) : Bool :=
  es.all fun j => es.all fun i => !decide (i < j) || (ops[j]?.map fun o => o.after.any fun e => Region.binds .any e && (decide (i ≤ e.on) && es.contains e.on)).getD true
theorem chainOk_spec (h : chainOk ops es = true) {i j : Nat} {oj : Oper} (hi : i ∈ es) (hj : j ∈ es) (hij : i < j) (ho : ops[j]? = some oj) : ∃ e ∈ oj.after, Region.binds .any e = true ∧ i ≤ e.on ∧ e.on ∈ es := by
  unfold chainOk at h
  rw [List.all_eq_true] at h
  have h1 := h j hj
  rw [List.all_eq_true] at h1
  have h2 := h1 i hi
  simp only [hij, ho, decide_true, Bool.not_true, Bool.false_or, Option.map_some, Option.getD_some, Array.any_eq_true', Bool.and_eq_true, decide_eq_true_eq, List.contains_iff_mem] at h2
  obtain ⟨e, he, hb, hc, hd⟩ := h2
  exact ⟨e, he, hb, hc, hd⟩

theorem wpAny_of_txtB (hin : ∃ w, S w) (hok : textOk ops = true) (hch : chainOk ops es = true) :
    ∀ (fuel : Nat) (listed : Array Bool) (L : List Nat) (J : World → Prop) (a : Act) (w : World), L.length ≤ fuel → L.Pairwise (· < ·) → (∀ j, j ∈ L ↔ (j < ops.size ∧ listed.getD j true = false)) → listed.size = ops.size →
      (∀ i j, i ∈ es → j ∈ es → i < j → j < ops.size → j ∉ L → i ∉ L) → TxtB P ops Q S es L J a → S w → J w → wpAny P .any ops Q fuel listed a w := by
  have hsel : ∀ (j : Nat) (oj : Oper), ops[j]? = some oj → ∀ cs b, oj.op ≠ .select cs b := fun j oj hj => (textOk_spec hok hj hj).1
  have hready : ∀ (listed : Array Bool) (L : List Nat), L.Pairwise (· < ·) → (∀ j, j ∈ L ↔ (j < ops.size ∧ listed.getD j true = false)) → listed.size = ops.size → Region.ready .any ops listed = [] → L = [] := by
    intro listed L hp hm hsz hnil
    cases L with
    | nil => rfl
    | cons j rest =>
      exfalso
      obtain ⟨hjlt, hjun⟩ := (hm j).1 (List.mem_cons_self ..)
      obtain ⟨oj, hoj⟩ : ∃ oj, ops[j]? = some oj := ⟨ops[j], Array.getElem?_eq_getElem hjlt⟩
      have : j ∈ Region.ready .any ops listed := mem_ready.2 ⟨hjun, oj, hoj, fun e he hb => by
        have hlt := (textOk_spec hok hoj hoj).2.1 e he hb
        have hnot : e.on ∉ j :: rest := fun hin => by
          rcases List.mem_cons.1 hin with h | h
          · omega
          · have := (List.pairwise_cons.1 hp).1 _ h; omega
        have h2 : ¬ (e.on < ops.size ∧ listed.getD e.on true = false) := fun h => hnot ((hm _).2 h)
        have h3 : e.on < listed.size := by omega
        have h4 : listed.getD e.on true = listed[e.on] := by simp [h3]
        have h5 : listed.getD e.on false = listed[e.on] := by simp [h3]
        rw [h4] at h2
        rw [h5]
        cases hb2 : listed[e.on]
        · exact absurd ⟨by omega, hb2⟩ h2
        · rfl⟩
      rw [hnil] at this
      cases this
  intro fuel
  induction fuel with
  | zero =>
    intro listed L J a w hlen hp hm hsz hes ht hS hJ
    have hL : L = [] := List.eq_nil_of_length_eq_zero (by omega)
    subst hL
    refine ⟨?_, ht w hS hJ⟩
    cases hr : Region.ready .any ops listed with
    | nil => rfl
    | cons x xs =>
      have hx : x ∈ Region.ready .any ops listed := by rw [hr]; exact List.mem_cons_self ..
      obtain ⟨h1, o, ho, _⟩ := mem_ready.1 hx
      have := (hm x).2 ⟨(Array.getElem?_eq_some_iff.1 ho).1, h1⟩
      cases this
  | succ fuel ih =>
    intro listed L J a w hlen hp hm hsz hes ht hS hJ
    refine ⟨fun hnil => ?_, fun i hi => ?_⟩
    · have hL := hready listed L hp hm hsz hnil
      subst hL
      exact ht w hS hJ
    · obtain ⟨hun, oi, hoi, hdeps⟩ := mem_ready.1 hi
      have hilt := (Array.getElem?_eq_some_iff.1 hoi).1
      have hiL : i ∈ L := (hm i).2 ⟨hilt, hun⟩
      obtain ⟨pre, post, rfl⟩ := List.append_of_mem hiL
      have hpre : ∀ j ∈ pre, j < i := fun j hj => (List.pairwise_append.1 hp).2.2 j hj i (List.mem_cons_self ..)
      have hdone : ∀ e ∈ oi.after, Region.binds .any e = true → e.on ∉ pre ++ i :: post ∧ e.on < ops.size := fun e he hb => by
        have h1 := hdeps e he hb
        have hlt := (textOk_spec hok hoi hoi).2.1 e he hb
        have h3 : e.on < listed.size := by omega
        refine ⟨fun hmem => ?_, by omega⟩
        have h0 := (hm e.on).1 hmem
        rw [show listed.getD e.on false = listed[e.on] by simp [h3]] at h1
        rw [show listed.getD e.on true = listed[e.on] by simp [h3]] at h0
        rw [h1] at h0
        exact absurd h0.2 (by simp)
      have hap : ∀ j ∈ pre, ∀ oj : Oper, ops[j]? = some oj → oj.apart ops oi = true := fun j hj oj hoj => by
        refine (textOk_spec hok hoj hoi).2.2 (hpre j hj) fun e he hb heq => ?_
        exact (hdone e he hb).1 (by rw [heq]; exact List.mem_append_left _ hj)
      have hesI : i ∈ es → ∀ j ∈ pre, j ∉ es := fun hie j hj hje => by
        obtain ⟨e, he, hb, hle, hee⟩ := chainOk_spec hch hje hie (hpre j hj) hoi
        obtain ⟨hn1, hn2⟩ := hdone e he hb
        have hjL : j ∈ pre ++ i :: post := List.mem_append_left _ hj
        rcases Nat.lt_or_ge j e.on with hlt | hge
        · exact hes j e.on hje hee hlt hn2 hn1 hjL
        · have : e.on = j := by omega
          rw [this] at hn1
          exact hn1 hjL
      obtain ⟨oi', hoi', hstep⟩ := TxtB.first hin hsel hoi post pre J a hap hesI ht
      rw [hoi] at hoi'
      injection hoi' with hoi'
      subst hoi'
      have hnd : (pre ++ i :: post).Nodup := hp.imp (fun h => by omega)
      have hni : i ∉ pre ++ post := by
        intro hin
        rcases List.mem_append.1 hin with h | h
        · have := hpre i h; omega
        · have := (List.pairwise_cons.1 (List.pairwise_append.1 hp).2.1).1 i h; omega
      have hmem : ∀ j, j ∈ pre ++ i :: post ↔ (j = i ∨ j ∈ pre ++ post) := fun j => by simp only [List.mem_append, List.mem_cons]; constructor <;> rintro (h | h | h) <;> simp [h]
      have next : ∀ (J : World → Prop) (a : Act) (w : World), TxtB P ops Q S es (pre ++ post) J a → S w → J w → wpAny P .any ops Q fuel (listed.setIfInBounds i true) a w := fun J a w hc hS hJ => by
        refine ih _ (pre ++ post) J a w (by simp at hlen ⊢; omega) ?_ ?_ (by simpa using hsz) ?_ hc hS hJ
        · exact hp.sublist (List.Sublist.append (List.Sublist.refl _) (List.sublist_cons_self ..))
        · intro j
          by_cases hij : i = j
          · subst hij
            constructor
            · intro h; exact absurd h hni
            · rintro ⟨_, h⟩
              rw [show (listed.setIfInBounds i true).getD i true = true by simp [hsz, hilt]] at h
              cases h
          · rw [getD_set_ne true hij, ← hm j, hmem j]
            constructor
            · intro h; exact .inr h
            · rintro (h | h)
              · exact absurd h.symm hij
              · exact h
        · intro k j hk hj hkj hjs hjL hkL
          by_cases hji : j = i
          · subst hji
            rcases List.mem_append.1 hkL with h | h
            · exact hesI hj k h hk
            · have := (List.pairwise_cons.1 (List.pairwise_append.1 hp).2.1).1 k h; omega
          · exact hes k j hk hj hkj hjs (fun h => by rcases (hmem j).1 h with h | h; exact hji h; exact hjL h) ((hmem k).2 (.inr hkL))
      rcases hstep with ⟨_, v, hv, hrest⟩ | ⟨_, hw, Sh, J', _, heff, hrest⟩ | ⟨_, hw, hrest⟩
      · unfold wpOp
        simp only [hoi]
        rcases hv with ⟨hw, hv⟩ | ⟨hw, rfl⟩
        · simp only [hw, if_true, Oper.wp, hv w hS, Oper.upon]; exact .inl (next _ _ _ hrest hS hJ)
        · simp only [hw, Bool.false_eq_true, if_false]; exact next _ _ _ hrest hS hJ
      · unfold wpOp
        simp only [hoi, hw, if_true]
        have he := heff w hS hJ
        refine .inl ?_
        have key : ∀ v w', (∃ v', a.put oi.dst v = a.put oi.dst v' ∧ S w' ∧ Sh v' ∧ J' v' w') → wpAny P .any ops Q fuel (listed.setIfInBounds i true) (a.put oi.dst v) w' := by
          rintro v w' ⟨v', e, hS', hsh, hJ'⟩
          rw [e]
          exact next _ _ _ (hrest v' hsh) hS' hJ'
        unfold Eff Oper.wp at *
        generalize (execOp a.eval oi).run P w = r at *
        cases r with
        | ok n w' =>
          cases n <;> simp only [Oper.upon] at he ⊢
          case value v => exact key _ _ he
          case skip => exact key _ _ he
          case defer d =>
            obtain ⟨v', e, _⟩ := he
            have := congrArg Act.defers e
            simp only [Act.put_defers] at this
            exact absurd (congrArg List.length this) (by simp)
          case enter f args => exact Calls.mono he (fun e w'' he => by cases e <;> first | exact key _ _ he | exact he.elim | (obtain ⟨_, _, hf⟩ := he; exact hf.elim))
          case row => exact Rows.mono he (fun _ _ he => key _ _ he)
        | halt x w' => cases x <;> simp only [Oper.upon] at he
      · unfold wpOp
        simp only [hoi, hw, Bool.false_eq_true, if_false]
        exact next _ _ _ hrest hS hJ

/-- the same over the list of the operations themselves, the number of the first one given -/
def TxtBL (P : Program) (ops : Array Oper) (Q : Exit → Act → World → Prop) (S : World → Prop) (es : List Nat) : Nat → List Oper → (World → Prop) → Act → Prop
  | _, [], J, a => ∀ w, S w → J w → Q .normal a w
  | k, o :: rest, J, a =>
    ((es.contains k = false ∧ ∃ v, Pure P ops S o a v ∧ TxtBL P ops Q S es (k + 1) rest J (a.put o.dst v)) ∨
     (es.contains k = true ∧ Region.wanted o (yielded ops a.tmps) = true ∧ ∃ (Sh : Value → Prop) (J' : Value → World → Prop), (∃ v, Sh v) ∧ (∀ w, S w → J w → Eff P o a w fun v w' => S w' ∧ Sh v ∧ J' v w') ∧ ∀ v, Sh v → TxtBL P ops Q S es (k + 1) rest (J' v) (a.put o.dst v)) ∨
     (es.contains k = true ∧ Region.wanted o (yielded ops a.tmps) = false ∧ TxtBL P ops Q S es (k + 1) rest J (a.put o.dst undef)))
theorem TxtB.of_list (l : List Oper) : ∀ (k : Nat) (J : World → Prop) (a : Act), (∀ j, l[j]? = ops[k + j]?) → TxtBL P ops Q S es k l J a → TxtB P ops Q S es (List.range' k l.length) J a := by
  induction l with
  | nil => intro k J a _ h; exact h
  | cons o l ih =>
    intro k J a hj h
    rw [List.length_cons, List.range'_succ]
    have hnext : ∀ j, l[j]? = ops[k + 1 + j]? := fun j => by
      have := hj (j + 1)
      simpa [Nat.add_assoc, Nat.add_comm 1 j] using this
    refine ⟨o, by simpa using (hj 0).symm, ?_⟩
    rcases h with ⟨h1, v, h2, h3⟩ | ⟨h1, h2, Sh, J', h3, h4, h5⟩ | ⟨h1, h2, h3⟩
    · exact .inl ⟨by simpa using h1, v, h2, ih _ _ _ hnext h3⟩
    · exact .inr (.inl ⟨by simpa using h1, h2, Sh, J', h3, h4, fun v hv => ih _ _ _ hnext (h5 v hv)⟩)
    · exact .inr (.inr ⟨by simpa using h1, h2, ih _ _ _ hnext h3⟩)
/-- THE REGION, IN THE ORDER OF THE TEXT, its effects in their chain. -/
theorem wp_region_textB {id : Nat} {l : List Oper} {a : Act} {w : World} (es : List Nat) (S : World → Prop) (J : World → Prop) (hm : P.follows .mixedOrders = true) (hok : textOk l.toArray = true) (hch : chainOk l.toArray es = true) (hS : S w.drew) (hJ : J w.drew)
    (h : TxtBL P l.toArray Q S es 0 l J a) : (Code.region id l.toArray true).wp P Q a w := by
  have h2 := TxtB.of_list (ops := l.toArray) l 0 J a (fun j => by simp) h
  rw [← List.range_eq_range'] at h2
  refine wp_region_any hm (wpAny_of_txtB ⟨_, hS⟩ hok hch _ _ (List.range l.length) J a _ (by simp) List.pairwise_lt_range (fun j => ?_) (by simp) (fun i j _ _ hij hjs hj => absurd (List.mem_range.2 (by simpa using hjs)) hj) h2 hS hJ)
  rw [List.mem_range]
  constructor
  · intro hj; exact ⟨by simpa using hj, by simp [hj]⟩
  · intro hj; simpa using hj.1
theorem TxtBL.imp {J J' : World → Prop} (hJ : ∀ w, J' w → J w) : ∀ (l : List Oper) (k : Nat) (a : Act), TxtBL P ops Q S es k l J a → TxtBL P ops Q S es k l J' a
  | [], _, _, h => fun w hS h' => h w hS (hJ w h')
  | o :: l, k, a, h => by
    rcases h with ⟨h1, v, h2, h3⟩ | ⟨h1, h2, Sh, J'', h3, h4, h5⟩ | ⟨h1, h2, h3⟩
    · exact .inl ⟨h1, v, h2, TxtBL.imp hJ l _ _ h3⟩
    · exact .inr (.inl ⟨h1, h2, Sh, J'', h3, fun w hS h' => h4 w hS (hJ w h'), h5⟩)
    · exact .inr (.inr ⟨h1, h2, TxtBL.imp hJ l _ _ h3⟩)
theorem TxtBL.nil {k : Nat} {J : World → Prop} {a : Act} (h : ∀ w, S w → J w → Q .normal a w) : TxtBL P ops Q S es k [] J a := h
theorem TxtBL.take {k : Nat} {J : World → Prop} {o : Oper} {rest : List Oper} {a : Act} (hk : es.contains k = false) (hw : Region.wanted o (yielded ops a.tmps) = true)
    (h : ∃ v, (∀ w, S w → (execOp a.eval o).run P w = .ok (.value v) w) ∧ TxtBL P ops Q S es (k + 1) rest J (a.put o.dst v)) : TxtBL P ops Q S es k (o :: rest) J a := by
  obtain ⟨v, h1, h2⟩ := h
  exact .inl ⟨hk, v, .inl ⟨hw, h1⟩, h2⟩
/-- a pure operation that stands in the chain -/
theorem TxtBL.takeE {k : Nat} {J : World → Prop} {o : Oper} {rest : List Oper} {a : Act} (hk : es.contains k = true) (hw : Region.wanted o (yielded ops a.tmps) = true)
    (h : ∃ v, (∀ w, S w → (execOp a.eval o).run P w = .ok (.value v) w) ∧ TxtBL P ops Q S es (k + 1) rest J (a.put o.dst v)) : TxtBL P ops Q S es k (o :: rest) J a := by
  obtain ⟨v, h1, h2⟩ := h
  refine .inr (.inl ⟨hk, hw, fun u => u = v, fun _ => J, ⟨v, rfl⟩, fun w hS hJ => ?_, fun u hu => by subst hu; exact h2⟩)
  unfold Eff Oper.wp
  rw [h1 w hS]
  exact ⟨v, rfl, hS, rfl, hJ⟩
theorem TxtBL.skip {k : Nat} {J : World → Prop} {o : Oper} {rest : List Oper} {a : Act} (hw : Region.wanted o (yielded ops a.tmps) = false) (h : TxtBL P ops Q S es (k + 1) rest J (a.put o.dst undef)) : TxtBL P ops Q S es k (o :: rest) J a := by
  cases hk : es.contains k
  · exact .inl ⟨hk, undef, .inr ⟨hw, rfl⟩, h⟩
  · exact .inr (.inr ⟨hk, hw, h⟩)
theorem TxtBL.eff {k : Nat} {J : World → Prop} {o : Oper} {rest : List Oper} {a : Act} (Sh : Value → Prop) (J' : Value → World → Prop) (hk : es.contains k = true) (hw : Region.wanted o (yielded ops a.tmps) = true) (hex : ∃ v, Sh v)
    (h : ∀ w, S w → J w → Eff P o a w fun v w' => S w' ∧ Sh v ∧ J' v w') (hr : ∀ v, Sh v → TxtBL P ops Q S es (k + 1) rest (J' v) (a.put o.dst v)) : TxtBL P ops Q S es k (o :: rest) J a :=
  .inr (.inl ⟨hk, hw, Sh, J', hex, h, hr⟩)
/-- an effect that leaves a value -/
theorem TxtBL.value {k : Nat} {J : World → Prop} {o : Oper} {rest : List Oper} {a : Act} (Sh : Value → Prop) (J' : Value → World → Prop) (hk : es.contains k = true) (hw : Region.wanted o (yielded ops a.tmps) = true) (hex : ∃ v, Sh v)
    (h : ∀ w, S w → J w → ∃ v w', (execOp a.eval o).run P w = .ok (.value v) w' ∧ S w' ∧ Sh v ∧ J' v w') (hr : ∀ v, Sh v → TxtBL P ops Q S es (k + 1) rest (J' v) (a.put o.dst v)) : TxtBL P ops Q S es k (o :: rest) J a := by
  refine TxtBL.eff Sh J' hk hw hex (fun w hS hJ => ?_) hr
  obtain ⟨v, w', hrun, hp⟩ := h w hS hJ
  unfold Eff Oper.wp
  rw [hrun]
  exact ⟨v, rfl, hp⟩
/-- an effect that is a call of a Go function -/
theorem TxtBL.call {k : Nat} {J : World → Prop} {o : Oper} {rest : List Oper} {a : Act} {f : FuncId} {args : Array Value} (Sh : Value → Prop) (J' : Value → World → Prop) (hk : es.contains k = true) (hw : Region.wanted o (yielded ops a.tmps) = true) (hex : ∃ v, Sh v)
    (hrun : ∀ w, S w → J w → (execOp a.eval o).run P w = .ok (.enter f args) w) (h : ∀ w, S w → J w → Calls P f args w fun e w' => ∃ v, e = .returned v ∧ S w' ∧ Sh v ∧ J' v w')
    (hr : ∀ v, Sh v → TxtBL P ops Q S es (k + 1) rest (J' v) (a.put o.dst v)) : TxtBL P ops Q S es k (o :: rest) J a := by
  refine TxtBL.eff Sh J' hk hw hex (fun w hS hJ => ?_) hr
  unfold Eff Oper.wp
  rw [hrun w hS hJ]
  refine (h w hS hJ).mono ?_
  rintro e w' ⟨v, rfl, h1⟩
  exact ⟨v, rfl, h1⟩
end
end Go.Proofs.YtncimnfhfomddaaDoor

/- A region that draws its order, as a tree: its pure operations first, then every effect that is ready. Over any program. -/
namespace Go.Proofs.YtncimnfhfomddaaDoor
open Go
section
variable {P : Program} {ops : Array Oper} {Q : Exit → Act → World → Prop} {S : World → Prop} {es : List Nat}

/-- operation i waits for none of these -/
def readyIn (ops : Array Oper) (L : List Nat) (i : Nat) : Bool := (ops[i]?.map fun o => o.after.all fun e => !Region.binds .any e || !L.contains e.on).getD false
theorem readyIn_spec {L : List Nat} {i : Nat} {o : Oper} (h : readyIn ops L i = true) (ho : ops[i]? = some o) : ∀ e ∈ o.after, Region.binds .any e = true → e.on ∉ L := by
  intro e he hb
  unfold readyIn at h
  rw [ho] at h
  simp only [Option.map_some, Option.getD_some, Array.all_eq_true_iff_forall_mem, Bool.or_eq_true, Bool.not_eq_true', List.contains_eq_mem, decide_eq_false_iff_not] at h
  rcases h e he with h | h
  · rw [hb] at h; cases h
  · exact h
theorem readyIn_mk {L : List Nat} {i : Nat} {o : Oper} (ho : ops[i]? = some o) (h : ∀ e ∈ o.after, Region.binds .any e = true → e.on ∉ L) : readyIn ops L i = true := by
  unfold readyIn
  rw [ho]
  simp only [Option.map_some, Option.getD_some, Array.all_eq_true_iff_forall_mem, Bool.or_eq_true, Bool.not_eq_true', List.contains_eq_mem, decide_eq_false_iff_not]
  intro e he
  cases hb : Region.binds .any e
  · exact .inl rfl
  · exact .inr (h e he hb)
theorem readyIn_less {L : List Nat} {i j : Nat} (h : readyIn ops L i = true) : readyIn ops (L.erase j) i = true := by
  cases ho : ops[i]? with
  | none => unfold readyIn at h; rw [ho] at h; cases h
  | some o => exact readyIn_mk ho fun e he hb hm => readyIn_spec h ho e he hb (List.mem_of_mem_erase hm)
theorem apart_of {L : List Nat} (hok : textOk ops = true) {i j : Nat} {oi oj : Oper} (hi : ops[i]? = some oi) (hj : ops[j]? = some oj) (hij : i ≠ j) (hiL : i ∈ L) (hjL : j ∈ L) (ri : readyIn ops L i = true) (rj : readyIn ops L j = true) :
    (∀ d, oi.dst = some d → d ∉ oj.looksAt ops) ∧ (∀ d, oi.dst = some d → oj.dst ≠ some d) ∧ (∀ d, oj.dst = some d → d ∉ oi.looksAt ops) := by
  rcases Nat.lt_or_gt_of_ne hij with h | h
  · exact Oper.apart_spec ((textOk_spec hok hi hj).2.2 h fun e he hb heq => readyIn_spec rj hj e he hb (by rw [heq]; exact hiL))
  · obtain ⟨h1, h2, h3⟩ := Oper.apart_spec ((textOk_spec hok hj hi).2.2 h fun e he hb heq => readyIn_spec ri hi e he hb (by rw [heq]; exact hjL))
    exact ⟨h3, fun d hd he => h2 d he hd, h1⟩

/-- the tree -/
def TxtT (P : Program) (ops : Array Oper) (Q : Exit → Act → World → Prop) (S : World → Prop) (es : List Nat) : Nat → List Nat → (World → Prop) → Act → Prop
  | 0, L, J, a => L = [] ∧ ∀ w, S w → J w → Q .normal a w
  | n + 1, L, J, a =>
    (∃ i o, i ∈ L ∧ ops[i]? = some o ∧ es.contains i = false ∧ readyIn ops L i = true ∧ ∃ v, Pure P ops S o a v ∧ TxtT P ops Q S es n (L.erase i) J (a.put o.dst v)) ∨
    (L ≠ [] ∧ (∀ i ∈ L, readyIn ops L i = true → es.contains i = true) ∧ ∀ i ∈ L, readyIn ops L i = true → ∃ o, ops[i]? = some o ∧ Region.wanted o (yielded ops a.tmps) = true ∧
      ∃ (Sh : Value → Prop) (J' : Value → World → Prop), (∀ w, S w → J w → Eff P o a w fun v w' => S w' ∧ Sh v ∧ J' v w') ∧ ∀ v, Sh v → TxtT P ops Q S es n (L.erase i) (J' v) (a.put o.dst v))

theorem TxtT.pull (hok : textOk ops = true) {i : Nat} {oi : Oper} (hi : ops[i]? = some oi) : ∀ (n : Nat) (L : List Nat) (J : World → Prop) (a : Act), TxtT P ops Q S es n L J a → L.Nodup → i ∈ L → readyIn ops L i = true →
    (∃ v, Pure P ops S oi a v ∧ TxtT P ops Q S es (n - 1) (L.erase i) J (a.put oi.dst v)) ∨
    (Region.wanted oi (yielded ops a.tmps) = true ∧ ∃ (Sh : Value → Prop) (J' : Value → World → Prop), (∀ w, S w → J w → Eff P oi a w fun v w' => S w' ∧ Sh v ∧ J' v w') ∧ ∀ v, Sh v → TxtT P ops Q S es (n - 1) (L.erase i) (J' v) (a.put oi.dst v))
  | 0, L, J, a, h, _, hiL, _ => by rw [h.1] at hiL; cases hiL
  | n + 1, L, J, a, h, hnd, hiL, hri => by
    have hsel : ∀ (j : Nat) (oj : Oper), ops[j]? = some oj → ∀ cs b, oj.op ≠ .select cs b := fun j oj hj => (textOk_spec hok hj hj).1
    rcases h with ⟨j, oj, hjL, hj, hje, hrj, vj, hstep, hrest⟩ | ⟨_, _, hall⟩
    · by_cases hij : i = j
      · subst hij
        rw [hi] at hj
        injection hj with hj
        subst hj
        exact .inl ⟨vj, hstep, hrest⟩
      · obtain ⟨h1, h2, h3⟩ := apart_of hok hj hi (fun e => hij e.symm) hjL hiL hrj hri
        have hiL' : i ∈ L.erase j := (List.mem_erase_of_ne hij).2 hiL
        have hjL' : j ∈ L.erase i := (List.mem_erase_of_ne (fun e => hij e.symm)).2 hjL
        have hn : 0 < n := by
          cases n with
          | zero => rw [hrest.1] at hiL'; cases hiL'
          | succ n => omega
        obtain ⟨n, rfl⟩ : ∃ m, n = m + 1 := ⟨n - 1, by omega⟩
        have hcomm : (L.erase j).erase i = (L.erase i).erase j := List.erase_comm ..
        rcases TxtT.pull hok hi (n + 1) (L.erase j) J (a.put oj.dst vj) hrest (hnd.erase _) hiL' (readyIn_less hri) with ⟨vi, hpi, hr⟩ | ⟨hw, Sh, J', heff, hr⟩
        · refine .inl ⟨vi, (Pure.put (hsel i oi hi) h1).1 hpi, .inl ⟨j, oj, hjL', hj, hje, readyIn_less hrj, vj, (Pure.put (hsel j oj hj) h3).2 hstep, ?_⟩⟩
          rw [← Act.put_comm a vj vi h2, ← hcomm]
          exact hr
        · refine .inr ⟨by rw [← wanted_put oi a oj.dst vj h1]; exact hw, Sh, J', fun w hS hJ => Eff.unput (hsel i oi hi) h1 h2 (heff w hS hJ), fun v hv => .inl ⟨j, oj, hjL', hj, hje, readyIn_less hrj, vj, (Pure.put (hsel j oj hj) h3).2 hstep, ?_⟩⟩
          rw [← Act.put_comm a vj v h2, ← hcomm]
          exact hr v hv
    · obtain ⟨o, ho, hw, Sh, J', heff, hr⟩ := hall i hiL hri
      rw [hi] at ho
      injection ho with ho
      subst ho
      exact .inr ⟨hw, Sh, J', heff, hr⟩

theorem wpAny_of_txtT (hok : textOk ops = true) :
    ∀ (fuel : Nat) (listed : Array Bool) (L : List Nat) (J : World → Prop) (a : Act) (w : World), L.length ≤ fuel → L.Nodup → (∀ j, j ∈ L ↔ (j < ops.size ∧ listed.getD j true = false)) → listed.size = ops.size →
      TxtT P ops Q S es L.length L J a → S w → J w → wpAny P .any ops Q fuel listed a w := by
  have hready : ∀ (listed : Array Bool) (L : List Nat) (i : Nat), (∀ j, j ∈ L ↔ (j < ops.size ∧ listed.getD j true = false)) → listed.size = ops.size → i ∈ Region.ready .any ops listed → i ∈ L ∧ readyIn ops L i = true := by
    intro listed L i hm hsz hi
    obtain ⟨hun, oi, hoi, hdeps⟩ := mem_ready.1 hi
    have hilt := (Array.getElem?_eq_some_iff.1 hoi).1
    refine ⟨(hm i).2 ⟨hilt, hun⟩, readyIn_mk hoi fun e he hb hmem => ?_⟩
    have h1 := hdeps e he hb
    have h0 := (hm e.on).1 hmem
    have h3 : e.on < listed.size := by omega
    rw [show listed.getD e.on false = listed[e.on] by simp [h3]] at h1
    rw [show listed.getD e.on true = listed[e.on] by simp [h3]] at h0
    rw [h1] at h0
    exact absurd h0.2 (by simp)
  have hempty : ∀ (listed : Array Bool) (L : List Nat), (∀ j, j ∈ L ↔ (j < ops.size ∧ listed.getD j true = false)) → listed.size = ops.size → Region.ready .any ops listed = [] → L = [] := by
    intro listed L hm hsz hnil
    refine Classical.byContradiction fun hne => ?_
    -- the least number that is left waits for none that is left
    have least : ∀ k, ∀ j ∈ L, j ≤ k → ∃ i ∈ L, ∀ m ∈ L, i ≤ m := by
      intro k
      induction k with
      | zero => exact fun j hj hjk => ⟨j, hj, fun m _ => by omega⟩
      | succ k ih =>
        intro j hj hjk
        by_cases h : ∃ m ∈ L, m < j
        · obtain ⟨m, hm, hmj⟩ := h
          exact ih m hm (by omega)
        · exact ⟨j, hj, fun m hm => Nat.le_of_not_lt fun h2 => h ⟨m, hm, h2⟩⟩
    obtain ⟨j0, hj0⟩ := List.exists_mem_of_ne_nil L hne
    obtain ⟨i, hiL, hmin⟩ := least j0 j0 hj0 (Nat.le_refl _)
    obtain ⟨hilt, hiun⟩ := (hm i).1 hiL
    obtain ⟨oi, hoi⟩ : ∃ oi, ops[i]? = some oi := ⟨ops[i], Array.getElem?_eq_getElem hilt⟩
    have : i ∈ Region.ready .any ops listed := mem_ready.2 ⟨hiun, oi, hoi, fun e he hb => by
      have hlt := (textOk_spec hok hoi hoi).2.1 e he hb
      have hnot : e.on ∉ L := fun h => by have := hmin _ h; omega
      have h2 : ¬ (e.on < ops.size ∧ listed.getD e.on true = false) := fun h => hnot ((hm _).2 h)
      have h3 : e.on < listed.size := by omega
      have h4 : listed.getD e.on true = listed[e.on] := by simp [h3]
      have h5 : listed.getD e.on false = listed[e.on] := by simp [h3]
      rw [h4] at h2
      rw [h5]
      cases hb2 : listed[e.on]
      · exact absurd ⟨by omega, hb2⟩ h2
      · rfl⟩
    rw [hnil] at this
    cases this
  intro fuel
  induction fuel with
  | zero =>
    intro listed L J a w hlen hnd hm hsz ht hS hJ
    have hL : L = [] := List.eq_nil_of_length_eq_zero (by omega)
    subst hL
    refine ⟨?_, ht.2 w hS hJ⟩
    cases hr : Region.ready .any ops listed with
    | nil => rfl
    | cons x xs =>
      have hx : x ∈ Region.ready .any ops listed := by rw [hr]; exact List.mem_cons_self ..
      have := (hready listed [] x hm hsz hx).1
      cases this
  | succ fuel ih =>
    intro listed L J a w hlen hnd hm hsz ht hS hJ
    refine ⟨fun hnil => ?_, fun i hi => ?_⟩
    · have hL := hempty listed L hm hsz hnil
      subst hL
      exact ht.2 w hS hJ
    · obtain ⟨hiL, hri⟩ := hready listed L i hm hsz hi
      obtain ⟨hun, oi, hoi, hdeps⟩ := mem_ready.1 hi
      have hilt := (Array.getElem?_eq_some_iff.1 hoi).1
      have hle : (L.erase i).length = L.length - 1 := List.length_erase_of_mem hiL
      have next : ∀ (J : World → Prop) (a : Act) (w : World), TxtT P ops Q S es (L.length - 1) (L.erase i) J a → S w → J w → wpAny P .any ops Q fuel (listed.setIfInBounds i true) a w := fun J a w hc hS hJ => by
        refine ih _ (L.erase i) J a w (by omega) (hnd.erase _) (fun j => ?_) (by simpa using hsz) (by rw [hle]; exact hc) hS hJ
        by_cases hij : i = j
        · subst hij
          constructor
          · intro h; exact absurd h (fun h => by have := (hnd.mem_erase_iff).1 h; exact this.1 rfl)
          · rintro ⟨_, h⟩
            rw [show (listed.setIfInBounds i true).getD i true = true by simp [hsz, hilt]] at h
            cases h
        · rw [getD_set_ne true hij, ← hm j, List.mem_erase_of_ne (fun e => hij e.symm)]
      rcases TxtT.pull hok hoi L.length L J a ht hnd hiL hri with ⟨v, hv, hrest⟩ | ⟨hw, Sh, J', heff, hrest⟩
      · unfold wpOp
        simp only [hoi]
        rcases hv with ⟨hw, hv⟩ | ⟨hw, rfl⟩
        · simp only [hw, if_true, Oper.wp, hv w hS, Oper.upon]; exact .inl (next _ _ _ hrest hS hJ)
        · simp only [hw, Bool.false_eq_true, if_false]; exact next _ _ _ hrest hS hJ
      · unfold wpOp
        simp only [hoi, hw, if_true]
        have he := heff w hS hJ
        refine .inl ?_
        have key : ∀ v w', (∃ v', a.put oi.dst v = a.put oi.dst v' ∧ S w' ∧ Sh v' ∧ J' v' w') → wpAny P .any ops Q fuel (listed.setIfInBounds i true) (a.put oi.dst v) w' := by
          rintro v w' ⟨v', e, hS', hsh, hJ'⟩
          rw [e]
          exact next _ _ _ (hrest v' hsh) hS' hJ'
        unfold Eff Oper.wp at *
        generalize (execOp a.eval oi).run P w = r at *
        cases r with
        | ok n w' =>
          cases n <;> simp only [Oper.upon] at he ⊢
          case value v => exact key _ _ he
          case skip => exact key _ _ he
          case defer d =>
            obtain ⟨v', e, _⟩ := he
            have := congrArg Act.defers e
            simp only [Act.put_defers] at this
            exact absurd (congrArg List.length this) (by simp)
          case enter f args => exact Calls.mono he (fun e w'' he => by cases e <;> first | exact key _ _ he | exact he.elim | (obtain ⟨_, _, hf⟩ := he; exact hf.elim))
          case row => exact Rows.mono he (fun _ _ he => key _ _ he)
        | halt x w' => cases x <;> simp only [Oper.upon] at he
/-- THE REGION, AS A TREE. -/
theorem wp_region_tree {id : Nat} {l : List Oper} {a : Act} {w : World} (es : List Nat) (S : World → Prop) (J : World → Prop) (n : Nat) (L : List Nat) (hn : l.length = n) (hL : List.range n = L) (hm : P.follows .mixedOrders = true) (hok : textOk l.toArray = true) (hS : S w.drew) (hJ : J w.drew)
    (h : TxtT P l.toArray Q S es n L J a) : (Code.region id l.toArray true).wp P Q a w := by
  subst hL
  subst hn
  refine wp_region_any hm (wpAny_of_txtT hok _ _ (List.range l.length) J a _ (by simp) List.nodup_range (fun j => ?_) (by simp) (by simpa using h) hS hJ)
  rw [List.mem_range]
  constructor
  · intro hj; exact ⟨by simpa using hj, by simp [hj]⟩
  · intro hj; simpa using hj.1
end
end Go.Proofs.YtncimnfhfomddaaDoor

/- The chained region with calls that return one value, or a new slice of numbers. -/
namespace Go.Proofs.YtncimnfhfomddaaDoor
open Go.ChangeShapes Go.WideShapes Go.ChangeAt Go.RowKit
section
variable {P : Program} {ops : Array Oper} {Q : Exit → Act → World → Prop} {W0 : World} {es : List Nat}

/-- the lists that can be read -/
def RIs (Js : List (Option Addr × List Int)) (w : World) : Prop := ∀ q ∈ Js, RI w q.1 q.2
theorem RIs.below {Js : List (Option Addr × List Int)} {w w' : World} (h : RIs Js w) (hb : Below w.heap.size w w') : RIs Js w' := fun q hq => (h q hq).below hb
theorem RIs.nil (w : World) : RIs [] w := fun _ h => by cases h
theorem RIs.head {Js : List (Option Addr × List Int)} {w : World} {A : Option Addr} {l : List Int} (h : RIs ((A, l) :: Js) w) : RI w A l := h (A, l) (List.mem_cons_self ..)
theorem RIs.tail {Js : List (Option Addr × List Int)} {w : World} {q : Option Addr × List Int} (h : RIs (q :: Js) w) : RIs Js w := fun r hr => h r (List.mem_cons_of_mem _ hr)

abbrev SB (W0 : World) : World → Prop := fun w' => Below W0.heap.size W0 w'

theorem TxtBL.callB {k : Nat} {Js : List (Option Addr × List Int)} {o : Oper} {rest : List Oper} {a : Act} (hk : es.contains k = true) (hw : Region.wanted o (yielded ops a.tmps) = true)
    (h : ∃ f args, (∀ w, SB W0 w → (execOp a.eval o).run P w = .ok (.enter f args) w) ∧ ∃ b, (∀ w, SB W0 w → RIs Js w → Calls P f args w (RetB b w)) ∧ TxtBL P ops Q (SB W0) es (k + 1) rest (RIs Js) (a.put o.dst b)) :
    TxtBL P ops Q (SB W0) es k (o :: rest) (RIs Js) a := by
  obtain ⟨f, args, h1, b, h2, h3⟩ := h
  refine TxtBL.call (fun v => v = b) (fun _ => RIs Js) hk hw ⟨b, rfl⟩ (fun w hS _ => h1 w hS) (fun w hS hJ => (h2 w hS hJ).mono ?_) (fun v hv => by subst hv; exact h3)
  rintro e w' ⟨rfl, hb⟩
  exact ⟨b, rfl, hS.trans (hb.mono hS.size), rfl, hJ.below hb⟩
theorem TxtBL.callI {k : Nat} {Js : List (Option Addr × List Int)} {o : Oper} {rest : List Oper} {a : Act} (hk : es.contains k = true) (hw : Region.wanted o (yielded ops a.tmps) = true)
    (h : ∃ f args, (∀ w, SB W0 w → (execOp a.eval o).run P w = .ok (.enter f args) w) ∧ ∃ l, (∀ w, SB W0 w → RIs Js w → Calls P f args w (RetI l w)) ∧ ∀ A c, TxtBL P ops Q (SB W0) es (k + 1) rest (RIs ((A, l) :: Js)) (a.put o.dst (.slice A l.length c))) :
    TxtBL P ops Q (SB W0) es k (o :: rest) (RIs Js) a := by
  obtain ⟨f, args, h1, l, h2, h3⟩ := h
  refine TxtBL.call (fun v => ∃ A c, v = .slice A l.length c) (fun v w => RIs Js w ∧ ∀ A c, v = .slice A l.length c → RI w A l) hk hw ⟨_, none, 0, rfl⟩ (fun w hS _ => h1 w hS) (fun w hS hJ => (h2 w hS hJ).mono ?_) ?_
  · rintro e w' ⟨A, c, rfl, _, hri, _, hb⟩
    exact ⟨_, rfl, hS.trans (hb.mono hS.size), ⟨A, c, rfl⟩, hJ.below hb, fun A' c' e => by injection e with e1; subst e1; exact hri⟩
  · rintro v ⟨A, c, rfl⟩
    exact TxtBL.imp (fun w h => fun q hq => by
      rcases List.mem_cons.1 hq with rfl | hq
      · exact h.2 A c rfl
      · exact h.1 q hq) _ _ _ (h3 A c)
end
end Go.Proofs.YtncimnfhfomddaaDoor
