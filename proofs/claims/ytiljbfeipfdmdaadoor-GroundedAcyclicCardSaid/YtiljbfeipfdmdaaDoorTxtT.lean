/- A region that draws its order, as a tree: its pure operations first, then every effect that is ready. Over any program. -/
import Derived.Test.YtiljbfeipfdmdaaDoorTxtB
namespace Go.Proofs.YtiljbfeipfdmdaaDoor
open Go
section
variable {P : Program} {ops : Array Oper} {Q : Exit → Act → World → Prop} {S : World → Prop} {es : List Nat}

/-- operation i waits for none of these -/
def readyIn (ops : Array Oper) (L : List Nat) (i : Nat) : Bool := (ops[i]?.map fun o => o.after.all fun e => !Region.binds .any e || !L.contains e.on).getD false
theorem readyIn_spec {L : List Nat} {i : Nat} {o : Oper} (h : readyIn ops L i = true) (ho : ops[i]? = some o) : ∀ e ∈ o.after, Region.binds .any e = true → e.on ∉ L := by
  intro e he hb
  unfold readyIn at h
  rw [ho] at h
  simp only [Option.map_some, Option.getD_some, Array.all_eq_true_iff_forall_mem, Bool.or_eq_true, Bool.not_eq_true', List.contains_eq_mem, decide_eq_false_iff_not] at h
  rcases h e he with h | h
  · rw [hb] at h; cases h
  · exact h
theorem readyIn_mk {L : List Nat} {i : Nat} {o : Oper} (ho : ops[i]? = some o) (h : ∀ e ∈ o.after, Region.binds .any e = true → e.on ∉ L) : readyIn ops L i = true := by
  unfold readyIn
  rw [ho]
  simp only [Option.map_some, Option.getD_some, Array.all_eq_true_iff_forall_mem, Bool.or_eq_true, Bool.not_eq_true', List.contains_eq_mem, decide_eq_false_iff_not]
  intro e he
  cases hb : Region.binds .any e
  · exact .inl rfl
  · exact .inr (h e he hb)
theorem readyIn_less {L : List Nat} {i j : Nat} (h : readyIn ops L i = true) : readyIn ops (L.erase j) i = true := by
  cases ho : ops[i]? with
  | none => unfold readyIn at h; rw [ho] at h; cases h
  | some o => exact readyIn_mk ho fun e he hb hm => readyIn_spec h ho e he hb (List.mem_of_mem_erase hm)
theorem apart_of {L : List Nat} (hok : textOk ops = true) {i j : Nat} {oi oj : Oper} (hi : ops[i]? = some oi) (hj : ops[j]? = some oj) (hij : i ≠ j) (hiL : i ∈ L) (hjL : j ∈ L) (ri : readyIn ops L i = true) (rj : readyIn ops L j = true) :
    (∀ d, oi.dst = some d → d ∉ oj.looksAt ops) ∧ (∀ d, oi.dst = some d → oj.dst ≠ some d) ∧ (∀ d, oj.dst = some d → d ∉ oi.looksAt ops) := by
  rcases Nat.lt_or_gt_of_ne hij with h | h
  · exact Oper.apart_spec ((textOk_spec hok hi hj).2.2 h fun e he hb heq => readyIn_spec rj hj e he hb (by rw [heq]; exact hiL))
  · obtain ⟨h1, h2, h3⟩ := Oper.apart_spec ((textOk_spec hok hj hi).2.2 h fun e he hb heq => readyIn_spec ri hi e he hb (by rw [heq]; exact hjL))
    exact ⟨h3, fun d hd he => h2 d he hd, h1⟩

/-- the tree -/
def TxtT (P : Program) (ops : Array Oper) (Q : Exit → Act → World → Prop) (S : World → Prop) (es : List Nat) : Nat → List Nat → (World → Prop) → Act → Prop
  | 0, L, J, a => L = [] ∧ ∀ w, S w → J w → Q .normal a w
  | n + 1, L, J, a =>
    (∃ i o, i ∈ L ∧ ops[i]? = some o ∧ es.contains i = false ∧ readyIn ops L i = true ∧ ∃ v, Pure P ops S o a v ∧ TxtT P ops Q S es n (L.erase i) J (a.put o.dst v)) ∨
    (L ≠ [] ∧ (∀ i ∈ L, readyIn ops L i = true → es.contains i = true) ∧ ∀ i ∈ L, readyIn ops L i = true → ∃ o, ops[i]? = some o ∧ Region.wanted o (yielded ops a.tmps) = true ∧
      ∃ (Sh : Value → Prop) (J' : Value → World → Prop), (∀ w, S w → J w → Eff P o a w fun v w' => S w' ∧ Sh v ∧ J' v w') ∧ ∀ v, Sh v → TxtT P ops Q S es n (L.erase i) (J' v) (a.put o.dst v))

theorem TxtT.pull (hok : textOk ops = true) {i : Nat} {oi : Oper} (hi : ops[i]? = some oi) : ∀ (n : Nat) (L : List Nat) (J : World → Prop) (a : Act), TxtT P ops Q S es n L J a → L.Nodup → i ∈ L → readyIn ops L i = true →
    (∃ v, Pure P ops S oi a v ∧ TxtT P ops Q S es (n - 1) (L.erase i) J (a.put oi.dst v)) ∨
    (Region.wanted oi (yielded ops a.tmps) = true ∧ ∃ (Sh : Value → Prop) (J' : Value → World → Prop), (∀ w, S w → J w → Eff P oi a w fun v w' => S w' ∧ Sh v ∧ J' v w') ∧ ∀ v, Sh v → TxtT P ops Q S es (n - 1) (L.erase i) (J' v) (a.put oi.dst v))
  | 0, L, J, a, h, _, hiL, _ => by rw [h.1] at hiL; cases hiL
  | n + 1, L, J, a, h, hnd, hiL, hri => by
    have hsel : ∀ (j : Nat) (oj : Oper), ops[j]? = some oj → ∀ cs b, oj.op ≠ .select cs b := fun j oj hj => (textOk_spec hok hj hj).1
    rcases h with ⟨j, oj, hjL, hj, hje, hrj, vj, hstep, hrest⟩ | ⟨_, _, hall⟩
    · by_cases hij : i = j
      · subst hij
        rw [hi] at hj
        injection hj with hj
        subst hj
        exact .inl ⟨vj, hstep, hrest⟩
      · obtain ⟨h1, h2, h3⟩ := apart_of hok hj hi (fun e => hij e.symm) hjL hiL hrj hri
        have hiL' : i ∈ L.erase j := (List.mem_erase_of_ne hij).2 hiL
        have hjL' : j ∈ L.erase i := (List.mem_erase_of_ne (fun e => hij e.symm)).2 hjL
        have hn : 0 < n := by
          cases n with
          | zero => rw [hrest.1] at hiL'; cases hiL'
          | succ n => omega
        obtain ⟨n, rfl⟩ : ∃ m, n = m + 1 := ⟨n - 1, by omega⟩
        have hcomm : (L.erase j).erase i = (L.erase i).erase j := List.erase_comm ..
        rcases TxtT.pull hok hi (n + 1) (L.erase j) J (a.put oj.dst vj) hrest (hnd.erase _) hiL' (readyIn_less hri) with ⟨vi, hpi, hr⟩ | ⟨hw, Sh, J', heff, hr⟩
        · refine .inl ⟨vi, (Pure.put (hsel i oi hi) h1).1 hpi, .inl ⟨j, oj, hjL', hj, hje, readyIn_less hrj, vj, (Pure.put (hsel j oj hj) h3).2 hstep, ?_⟩⟩
          rw [← Act.put_comm a vj vi h2, ← hcomm]
          exact hr
        · refine .inr ⟨by rw [← wanted_put oi a oj.dst vj h1]; exact hw, Sh, J', fun w hS hJ => Eff.unput (hsel i oi hi) h1 h2 (heff w hS hJ), fun v hv => .inl ⟨j, oj, hjL', hj, hje, readyIn_less hrj, vj, (Pure.put (hsel j oj hj) h3).2 hstep, ?_⟩⟩
          rw [← Act.put_comm a vj v h2, ← hcomm]
          exact hr v hv
    · obtain ⟨o, ho, hw, Sh, J', heff, hr⟩ := hall i hiL hri
      rw [hi] at ho
      injection ho with ho
      subst ho
      exact .inr ⟨hw, Sh, J', heff, hr⟩

theorem wpAny_of_txtT (hok : textOk ops = true) :
    ∀ (fuel : Nat) (listed : Array Bool) (L : List Nat) (J : World → Prop) (a : Act) (w : World), L.length ≤ fuel → L.Nodup → (∀ j, j ∈ L ↔ (j < ops.size ∧ listed.getD j true = false)) → listed.size = ops.size →
      TxtT P ops Q S es L.length L J a → S w → J w → wpAny P .any ops Q fuel listed a w := by
  have hready : ∀ (listed : Array Bool) (L : List Nat) (i : Nat), (∀ j, j ∈ L ↔ (j < ops.size ∧ listed.getD j true = false)) → listed.size = ops.size → i ∈ Region.ready .any ops listed → i ∈ L ∧ readyIn ops L i = true := by
    intro listed L i hm hsz hi
    obtain ⟨hun, oi, hoi, hdeps⟩ := mem_ready.1 hi
    have hilt := (Array.getElem?_eq_some_iff.1 hoi).1
    refine ⟨(hm i).2 ⟨hilt, hun⟩, readyIn_mk hoi fun e he hb hmem => ?_⟩
    have h1 := hdeps e he hb
    have h0 := (hm e.on).1 hmem
    have h3 : e.on < listed.size := by omega
    rw [show listed.getD e.on false = listed[e.on] by simp [h3]] at h1
    rw [show listed.getD e.on true = listed[e.on] by simp [h3]] at h0
    rw [h1] at h0
    exact absurd h0.2 (by simp)
  have hempty : ∀ (listed : Array Bool) (L : List Nat), (∀ j, j ∈ L ↔ (j < ops.size ∧ listed.getD j true = false)) → listed.size = ops.size → Region.ready .any ops listed = [] → L = [] := by
    intro listed L hm hsz hnil
    refine Classical.byContradiction fun hne => ?_
    -- the least number that is left waits for none that is left
    have least : ∀ k, ∀ j ∈ L, j ≤ k → ∃ i ∈ L, ∀ m ∈ L, i ≤ m := by
      intro k
      induction k with
      | zero => exact fun j hj hjk => ⟨j, hj, fun m _ => by omega⟩
      | succ k ih =>
        intro j hj hjk
        by_cases h : ∃ m ∈ L, m < j
        · obtain ⟨m, hm, hmj⟩ := h
          exact ih m hm (by omega)
        · exact ⟨j, hj, fun m hm => Nat.le_of_not_lt fun h2 => h ⟨m, hm, h2⟩⟩
    obtain ⟨j0, hj0⟩ := List.exists_mem_of_ne_nil L hne
    obtain ⟨i, hiL, hmin⟩ := least j0 j0 hj0 (Nat.le_refl _)
    obtain ⟨hilt, hiun⟩ := (hm i).1 hiL
    obtain ⟨oi, hoi⟩ : ∃ oi, ops[i]? = some oi := ⟨ops[i], Array.getElem?_eq_getElem hilt⟩
    have : i ∈ Region.ready .any ops listed := mem_ready.2 ⟨hiun, oi, hoi, fun e he hb => by
      have hlt := (textOk_spec hok hoi hoi).2.1 e he hb
      have hnot : e.on ∉ L := fun h => by have := hmin _ h; omega
      have h2 : ¬ (e.on < ops.size ∧ listed.getD e.on true = false) := fun h => hnot ((hm _).2 h)
      have h3 : e.on < listed.size := by omega
      have h4 : listed.getD e.on true = listed[e.on] := by simp [h3]
      have h5 : listed.getD e.on false = listed[e.on] := by simp [h3]
      rw [h4] at h2
      rw [h5]
      cases hb2 : listed[e.on]
      · exact absurd ⟨by omega, hb2⟩ h2
      · rfl⟩
    rw [hnil] at this
    cases this
  intro fuel
  induction fuel with
  | zero =>
    intro listed L J a w hlen hnd hm hsz ht hS hJ
    have hL : L = [] := List.eq_nil_of_length_eq_zero (by omega)
    subst hL
    refine ⟨?_, ht.2 w hS hJ⟩
    cases hr : Region.ready .any ops listed with
    | nil => rfl
    | cons x xs =>
      have hx : x ∈ Region.ready .any ops listed := by rw [hr]; exact List.mem_cons_self ..
      have := (hready listed [] x hm hsz hx).1
      cases this
  | succ fuel ih =>
    intro listed L J a w hlen hnd hm hsz ht hS hJ
    refine ⟨fun hnil => ?_, fun i hi => ?_⟩
    · have hL := hempty listed L hm hsz hnil
      subst hL
      exact ht.2 w hS hJ
    · obtain ⟨hiL, hri⟩ := hready listed L i hm hsz hi
      obtain ⟨hun, oi, hoi, hdeps⟩ := mem_ready.1 hi
      have hilt := (Array.getElem?_eq_some_iff.1 hoi).1
      have hle : (L.erase i).length = L.length - 1 := List.length_erase_of_mem hiL
      have next : ∀ (J : World → Prop) (a : Act) (w : World), TxtT P ops Q S es (L.length - 1) (L.erase i) J a → S w → J w → wpAny P .any ops Q fuel (listed.setIfInBounds i true) a w := fun J a w hc hS hJ => by
        refine ih _ (L.erase i) J a w (by omega) (hnd.erase _) (fun j => ?_) (by simpa using hsz) (by rw [hle]; exact hc) hS hJ
        by_cases hij : i = j
        · subst hij
          constructor
          · intro h; exact absurd h (fun h => by have := (hnd.mem_erase_iff).1 h; exact this.1 rfl)
          · rintro ⟨_, h⟩
            rw [show (listed.setIfInBounds i true).getD i true = true by simp [hsz, hilt]] at h
            cases h
        · rw [getD_set_ne true hij, ← hm j, List.mem_erase_of_ne (fun e => hij e.symm)]
      rcases TxtT.pull hok hoi L.length L J a ht hnd hiL hri with ⟨v, hv, hrest⟩ | ⟨hw, Sh, J', heff, hrest⟩
      · unfold wpOp
        simp only [hoi]
        rcases hv with ⟨hw, hv⟩ | ⟨hw, rfl⟩
        · simp only [hw, if_true, Oper.wp, hv w hS, Oper.upon]; exact .inl (next _ _ _ hrest hS hJ)
        · simp only [hw, Bool.false_eq_true, if_false]; exact next _ _ _ hrest hS hJ
      · unfold wpOp
        simp only [hoi, hw, if_true]
        have he := heff w hS hJ
        refine .inl ?_
        have key : ∀ v w', (∃ v', a.put oi.dst v = a.put oi.dst v' ∧ S w' ∧ Sh v' ∧ J' v' w') → wpAny P .any ops Q fuel (listed.setIfInBounds i true) (a.put oi.dst v) w' := by
          rintro v w' ⟨v', e, hS', hsh, hJ'⟩
          rw [e]
          exact next _ _ _ (hrest v' hsh) hS' hJ'
        unfold Eff Oper.wp at *
        generalize (execOp a.eval oi).run P w = r at *
        cases r with
        | ok n w' =>
          cases n <;> simp only [Oper.upon] at he ⊢
          case value v => exact key _ _ he
          case skip => exact key _ _ he
          case defer d =>
            obtain ⟨v', e, _⟩ := he
            have := congrArg Act.defers e
            simp only [Act.put_defers] at this
            exact absurd (congrArg List.length this) (by simp)
          case enter f args => exact Calls.mono he (fun e w'' he => by cases e <;> first | exact key _ _ he | exact he.elim | (obtain ⟨_, _, hf⟩ := he; exact hf.elim))
          case row => exact Rows.mono he (fun _ _ he => key _ _ he)
        | halt x w' => cases x <;> simp only [Oper.upon] at he
/-- THE REGION, AS A TREE. -/
theorem wp_region_tree {id : Nat} {l : List Oper} {a : Act} {w : World} (es : List Nat) (S : World → Prop) (J : World → Prop) (n : Nat) (L : List Nat) (hn : l.length = n) (hL : List.range n = L) (hm : P.follows .mixedOrders = true) (hok : textOk l.toArray = true) (hS : S w.drew) (hJ : J w.drew)
    (h : TxtT P l.toArray Q S es n L J a) : (Code.region id l.toArray true).wp P Q a w := by
  subst hL
  subst hn
  refine wp_region_any hm (wpAny_of_txtT hok _ _ (List.range l.length) J a _ (by simp) List.nodup_range (fun j => ?_) (by simp) (by simpa using h) hS hJ)
  rw [List.mem_range]
  constructor
  · intro hj; exact ⟨by simpa using hj, by simp [hj]⟩
  · intro hj; simpa using hj.1
end
end Go.Proofs.YtiljbfeipfdmdaaDoor
