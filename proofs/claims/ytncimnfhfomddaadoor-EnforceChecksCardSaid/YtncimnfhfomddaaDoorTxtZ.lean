/- A region whose last operation waits for all others (the store of an assignment): what is known of the world need not outlive it. Over any program. -/
import Derived.Test.YtncimnfhfomddaaDoorTxtE
namespace Go.Proofs.YtncimnfhfomddaaDoor
open Go
section
variable {P : Program} {ops : Array Oper} {Q : Exit → Act → World → Prop} {S : World → Prop} {es : List Nat}

theorem Eff.imp {o : Oper} {a : Act} {w : World} {Post Post' : Value → World → Prop} (h : ∀ v w', Post v w' → Post' v w') (hh : Eff P o a w Post) : Eff P o a w Post' := by
  unfold Eff at *
  refine Oper.wp_mono (fun a' w' => ?_) hh
  rintro ⟨v, e, hp⟩
  exact ⟨v, e, h v w' hp⟩
theorem Eff.skip {P : Program} {o : Oper} {a : Act} {w w' : World} {Post : Value → World → Prop} (hrun : (execOp a.eval o).run P w = .ok .skip w') (hp : Post undef w') : Eff P o a w Post := by
  unfold Eff Oper.wp
  rw [hrun]
  exact ⟨undef, rfl, hp⟩
/-- the last operation waits for all others, be it through others -/
def lastOk (ops : Array Oper) (es : List Nat) : Bool := es.contains (ops.size - 1) && (List.range (ops.size - 1)).all fun i => es.contains i || (List.range ops.size).any fun j => decide (i < j) && (ops[j]?.map fun o => o.after.any fun e => Region.binds .any e && e.on == i).getD false
theorem lastOk_spec (h : lastOk ops es = true) : ops.size - 1 ∈ es ∧ ∀ {i : Nat}, i < ops.size - 1 → i ∈ es ∨ ∃ j o, i < j ∧ j < ops.size ∧ ops[j]? = some o ∧ ∃ e ∈ o.after, Region.binds .any e = true ∧ e.on = i := by
  unfold lastOk at h
  rw [Bool.and_eq_true, List.all_eq_true] at h
  refine ⟨by simpa using h.1, fun {i} hi => ?_⟩
  have h1 := h.2 i (List.mem_range.2 hi)
  rw [Bool.or_eq_true, List.any_eq_true] at h1
  rcases h1 with h1 | ⟨j, hj, h1⟩
  · exact .inl (by simpa using h1)
  · rw [Bool.and_eq_true, decide_eq_true_iff] at h1
    rw [List.mem_range] at hj
    obtain ⟨o, ho⟩ : ∃ o, ops[j]? = some o := ⟨ops[j], Array.getElem?_eq_getElem hj⟩
    have h2 := h1.2
    rw [ho] at h2
    simp only [Option.map_some, Option.getD_some, Array.any_eq_true', Bool.and_eq_true, beq_iff_eq] at h2
    obtain ⟨e, he, hb, hc⟩ := h2
    exact .inr ⟨j, o, h1.1, hj, ho, e, he, hb, hc⟩

/-- the operations with these numbers, one behind the other; those in es are effects; J is what is known of the world besides S -/
def TxtZ (P : Program) (ops : Array Oper) (Q : Exit → Act → World → Prop) (S : World → Prop) (es : List Nat) : List Nat → (World → Prop) → Act → Prop
  | [], J, a => ∀ w, J w → Q .normal a w
  | i :: rest, J, a => ∃ o, ops[i]? = some o ∧
    ((i ∉ es ∧ ∃ v, Pure P ops S o a v ∧ TxtZ P ops Q S es rest J (a.put o.dst v)) ∨
     (i ∈ es ∧ Region.wanted o (yielded ops a.tmps) = true ∧ ∃ (Sh : Value → Prop) (J' : Value → World → Prop), (∃ v, Sh v) ∧ (∀ w, S w → J w → Eff P o a w fun v w' => (rest ≠ [] → S w') ∧ Sh v ∧ J' v w') ∧ ∀ v, Sh v → TxtZ P ops Q S es rest (J' v) (a.put o.dst v)) ∨
     (i ∈ es ∧ Region.wanted o (yielded ops a.tmps) = false ∧ TxtZ P ops Q S es rest J (a.put o.dst undef)))

theorem TxtZ.first (hin : ∃ w, S w) (hsel : ∀ (j : Nat) (oj : Oper), ops[j]? = some oj → ∀ cs b, oj.op ≠ .select cs b) {i : Nat} {oi : Oper} (hi : ops[i]? = some oi) (post : List Nat) (hpost : post ≠ []) :
    ∀ (pre : List Nat) (J : World → Prop) (a : Act), (∀ j ∈ pre, ∀ oj : Oper, ops[j]? = some oj → oj.apart ops oi = true) → (i ∈ es → ∀ j ∈ pre, j ∉ es) → TxtZ P ops Q S es (pre ++ i :: post) J a → TxtZ P ops Q S es (i :: (pre ++ post)) J a
  | [], _, _, _, _, h => h
  | j :: pre, J, a, hap, hes, h => by
    obtain ⟨oj, hj, H⟩ := h
    obtain ⟨h1, h2, h3⟩ := Oper.apart_spec (hap j (List.mem_cons_self ..) oj hj)
    have ih : ∀ (J : World → Prop) (a : Act), TxtZ P ops Q S es (pre ++ i :: post) J a → TxtZ P ops Q S es (i :: (pre ++ post)) J a := fun J a =>
      TxtZ.first hin hsel hi post hpost pre J a (fun k hk => hap k (List.mem_cons_of_mem _ hk)) (fun he k hk => hes he k (List.mem_cons_of_mem _ hk))
    have h2' : ∀ d, oi.dst = some d → oj.dst ≠ some d := fun d hd he => h2 d he hd
    rcases H with ⟨hje, vj, hstep, hrest⟩ | ⟨hje, hwj, Sh, J', hex, heff, hrest⟩ | ⟨hje, hwj, hrest⟩
    · obtain ⟨oi', hi', Hi⟩ := ih _ _ hrest
      rw [hi] at hi'
      injection hi' with hi'
      subst hi'
      refine ⟨oi, hi, ?_⟩
      rcases Hi with ⟨hie, vi, hstepi, hresti⟩ | ⟨hie, hwi, Shi, Ji, hexi, heffi, hresti⟩ | ⟨hie, hwi, hresti⟩
      · refine .inl ⟨hie, vi, (Pure.put (hsel i oi hi) h1).1 hstepi, oj, hj, .inl ⟨hje, vj, (Pure.put (hsel j oj hj) h3).2 hstep, ?_⟩⟩
        rw [← Act.put_comm a vj vi h2]
        exact hresti
      · refine .inr (.inl ⟨hie, by rw [← wanted_put oi a oj.dst vj h1]; exact hwi, Shi, Ji, hexi, fun w hS hJ => ?_, fun v hv => ⟨oj, hj, .inl ⟨hje, vj, (Pure.put (hsel j oj hj) h3).2 hstep, ?_⟩⟩⟩)
        · have hb := heffi w hS hJ
          exact Eff.imp (fun v w' h => ⟨fun _ => h.1 (by simp [hpost]), h.2⟩) (Eff.unput (hsel i oi hi) h1 h2 hb)
        · rw [← Act.put_comm a vj v h2]
          exact hresti v hv
      · refine .inr (.inr ⟨hie, by rw [← wanted_put oi a oj.dst vj h1]; exact hwi, oj, hj, .inl ⟨hje, vj, (Pure.put (hsel j oj hj) h3).2 hstep, ?_⟩⟩)
        rw [← Act.put_comm a vj undef h2]
        exact hresti
    · have hie : i ∉ es := fun he => hes he j (List.mem_cons_self ..) hje
      have hp : ∀ v, Sh v → ∃ vi, Pure P ops S oi a vi ∧ TxtZ P ops Q S es (pre ++ post) (J' v) ((a.put oj.dst v).put oi.dst vi) := fun v hv => by
        obtain ⟨oi', hi', Hi⟩ := ih _ _ (hrest v hv)
        rw [hi] at hi'
        injection hi' with hi'
        subst hi'
        rcases Hi with ⟨_, vi, hstepi, hresti⟩ | ⟨he, _⟩ | ⟨he, _⟩
        · exact ⟨vi, (Pure.put (hsel i oi hi) h1).1 hstepi, hresti⟩
        · exact absurd he hie
        · exact absurd he hie
      obtain ⟨v0, hv0⟩ := hex
      obtain ⟨vi, hpi, _⟩ := hp v0 hv0
      refine ⟨oi, hi, .inl ⟨hie, vi, hpi, oj, hj, .inr (.inl ⟨hje, ?_, Sh, J', ⟨v0, hv0⟩, fun w hS hJ => Eff.imp (fun v w' h => ⟨fun _ => h.1 (by simp), h.2⟩) (Eff.put (hsel j oj hj) h3 h2' (heff w hS hJ)), fun v hv => ?_⟩)⟩⟩
      · rw [wanted_put oj a oi.dst vi h3]; exact hwj
      · obtain ⟨vi', hpi', hc⟩ := hp v hv
        have := hpi.one hpi' hin
        subst this
        rw [← Act.put_comm a v vi h2]
        exact hc
    · have hie : i ∉ es := fun he => hes he j (List.mem_cons_self ..) hje
      obtain ⟨oi', hi', Hi⟩ := ih _ _ hrest
      rw [hi] at hi'
      injection hi' with hi'
      subst hi'
      rcases Hi with ⟨_, vi, hstepi, hresti⟩ | ⟨he, _⟩ | ⟨he, _⟩
      · refine ⟨oi, hi, .inl ⟨hie, vi, (Pure.put (hsel i oi hi) h1).1 hstepi, oj, hj, .inr (.inr ⟨hje, ?_, ?_⟩)⟩⟩
        · rw [wanted_put oj a oi.dst vi h3]; exact hwj
        · rw [← Act.put_comm a undef vi h2]
          exact hresti
      · exact absurd he hie
      · exact absurd he hie

theorem wpAny_of_txtZ (hin : ∃ w, S w) (hok : textOk ops = true) (hch : chainOk ops es = true) (hlo : lastOk ops es = true) :
    ∀ (fuel : Nat) (listed : Array Bool) (L : List Nat) (J : World → Prop) (a : Act) (w : World), L.length ≤ fuel → L.Pairwise (· < ·) → (∀ j, j ∈ L ↔ (j < ops.size ∧ listed.getD j true = false)) → listed.size = ops.size →
      (∀ i j, i ∈ es → j ∈ es → i < j → j < ops.size → j ∉ L → i ∉ L) → (∀ (j : Nat) (oj : Oper), j ∉ L → ops[j]? = some oj → ∀ e ∈ oj.after, Region.binds .any e = true → e.on ∉ L) → (L ≠ [] → ops.size - 1 ∈ L) → TxtZ P ops Q S es L J a → (L ≠ [] → S w) → J w → wpAny P .any ops Q fuel listed a w := by
  have hsel : ∀ (j : Nat) (oj : Oper), ops[j]? = some oj → ∀ cs b, oj.op ≠ .select cs b := fun j oj hj => (textOk_spec hok hj hj).1
  have hready : ∀ (listed : Array Bool) (L : List Nat), L.Pairwise (· < ·) → (∀ j, j ∈ L ↔ (j < ops.size ∧ listed.getD j true = false)) → listed.size = ops.size → Region.ready .any ops listed = [] → L = [] := by
    intro listed L hp hm hsz hnil
    cases L with
    | nil => rfl
    | cons j rest =>
      exfalso
      obtain ⟨hjlt, hjun⟩ := (hm j).1 (List.mem_cons_self ..)
      obtain ⟨oj, hoj⟩ : ∃ oj, ops[j]? = some oj := ⟨ops[j], Array.getElem?_eq_getElem hjlt⟩
      have : j ∈ Region.ready .any ops listed := mem_ready.2 ⟨hjun, oj, hoj, fun e he hb => by
        have hlt := (textOk_spec hok hoj hoj).2.1 e he hb
        have hnot : e.on ∉ j :: rest := fun hin => by
          rcases List.mem_cons.1 hin with h | h
          · omega
          · have := (List.pairwise_cons.1 hp).1 _ h; omega
        have h2 : ¬ (e.on < ops.size ∧ listed.getD e.on true = false) := fun h => hnot ((hm _).2 h)
        have h3 : e.on < listed.size := by omega
        have h4 : listed.getD e.on true = listed[e.on] := by simp [h3]
        have h5 : listed.getD e.on false = listed[e.on] := by simp [h3]
        rw [h4] at h2
        rw [h5]
        cases hb2 : listed[e.on]
        · exact absurd ⟨by omega, hb2⟩ h2
        · rfl⟩
      rw [hnil] at this
      cases this
  intro fuel
  induction fuel with
  | zero =>
    intro listed L J a w hlen hp hm hsz hes hcl hlast ht hS hJ
    have hL : L = [] := List.eq_nil_of_length_eq_zero (by omega)
    subst hL
    refine ⟨?_, ht w hJ⟩
    cases hr : Region.ready .any ops listed with
    | nil => rfl
    | cons x xs =>
      have hx : x ∈ Region.ready .any ops listed := by rw [hr]; exact List.mem_cons_self ..
      obtain ⟨h1, o, ho, _⟩ := mem_ready.1 hx
      have := (hm x).2 ⟨(Array.getElem?_eq_some_iff.1 ho).1, h1⟩
      cases this
  | succ fuel ih =>
    intro listed L J a w hlen hp hm hsz hes hcl hlast ht hS hJ
    refine ⟨fun hnil => ?_, fun i hi => ?_⟩
    · have hL := hready listed L hp hm hsz hnil
      subst hL
      exact ht w hJ
    · obtain ⟨hun, oi, hoi, hdeps⟩ := mem_ready.1 hi
      have hilt := (Array.getElem?_eq_some_iff.1 hoi).1
      have hiL : i ∈ L := (hm i).2 ⟨hilt, hun⟩
      obtain ⟨pre, post, rfl⟩ := List.append_of_mem hiL
      have hS := hS (by simp)
      have hlast := hlast (by simp)
      have hpre : ∀ j ∈ pre, j < i := fun j hj => (List.pairwise_append.1 hp).2.2 j hj i (List.mem_cons_self ..)
      have hdone : ∀ e ∈ oi.after, Region.binds .any e = true → e.on ∉ pre ++ i :: post ∧ e.on < ops.size := fun e he hb => by
        have h1 := hdeps e he hb
        have hlt := (textOk_spec hok hoi hoi).2.1 e he hb
        have h3 : e.on < listed.size := by omega
        refine ⟨fun hmem => ?_, by omega⟩
        have h0 := (hm e.on).1 hmem
        rw [show listed.getD e.on false = listed[e.on] by simp [h3]] at h1
        rw [show listed.getD e.on true = listed[e.on] by simp [h3]] at h0
        rw [h1] at h0
        exact absurd h0.2 (by simp)
      have hap : ∀ j ∈ pre, ∀ oj : Oper, ops[j]? = some oj → oj.apart ops oi = true := fun j hj oj hoj => by
        refine (textOk_spec hok hoj hoi).2.2 (hpre j hj) fun e he hb heq => ?_
        exact (hdone e he hb).1 (by rw [heq]; exact List.mem_append_left _ hj)
      have hesI : i ∈ es → ∀ j ∈ pre, j ∉ es := fun hie j hj hje => by
        obtain ⟨e, he, hb, hle, hee⟩ := chainOk_spec hch hje hie (hpre j hj) hoi
        obtain ⟨hn1, hn2⟩ := hdone e he hb
        have hjL : j ∈ pre ++ i :: post := List.mem_append_left _ hj
        rcases Nat.lt_or_ge j e.on with hlt | hge
        · exact hes j e.on hje hee hlt hn2 hn1 hjL
        · have : e.on = j := by omega
          rw [this] at hn1
          exact hn1 hjL
      have hend : i = ops.size - 1 → pre = [] ∧ post = [] := fun e => by
        constructor
        · rw [List.eq_nil_iff_forall_not_mem]
          intro j hj
          have hji := hpre j hj
          have key : ∀ (d j : Nat), ops.size - 1 - j ≤ d → j < ops.size - 1 → j ∉ pre := by
            intro d
            induction d with
            | zero => intro j h1 h2; omega
            | succ d ih =>
              intro j h1 h2 hjp
              rcases (lastOk_spec hlo).2 (i := j) h2 with hje | ⟨k, o, hjk, hk, ho, e1, he, hb, hc⟩
              · exact hesI (by rw [e]; exact (lastOk_spec hlo).1) j hjp hje
              · by_cases hki : k = i
                · subst hki
                  rw [hoi] at ho
                  injection ho with ho
                  subst ho
                  exact (hdone e1 he hb).1 (by rw [hc]; exact List.mem_append_left _ hjp)
                · have hkn := ih k (by omega) (by omega)
                  have hkL : k ∉ pre ++ i :: post := fun hin => by
                    rcases List.mem_append.1 hin with h | h
                    · exact hkn h
                    · rcases List.mem_cons.1 h with h | h
                      · exact hki h
                      · have := (List.pairwise_cons.1 (List.pairwise_append.1 hp).2.1).1 k h; omega
                  exact hcl k o hkL ho e1 he hb (by rw [hc]; exact List.mem_append_left _ hjp)
          exact key _ j (Nat.le_refl _) (by omega) hj
        · rw [List.eq_nil_iff_forall_not_mem]
          intro j hj
          have h1 := (List.pairwise_cons.1 (List.pairwise_append.1 hp).2.1).1 j hj
          have h2 := ((hm j).1 (List.mem_append_right _ (List.mem_cons_of_mem _ hj))).1
          omega
      have hpost : post = [] → pre = [] := fun e => by
        subst e
        rcases List.mem_append.1 hlast with h | h
        · have := hpre _ h; omega
        · rcases List.mem_cons.1 h with h | h
          · exact (hend h.symm).1
          · cases h
      have hfirst : TxtZ P ops Q S es (i :: (pre ++ post)) J a := by
        by_cases hpe : post = []
        · have hp0 := hpost hpe
          subst hpe hp0
          exact ht
        · exact TxtZ.first hin hsel hoi post hpe pre J a hap hesI ht
      obtain ⟨oi', hoi', hstep⟩ := hfirst
      rw [hoi] at hoi'
      injection hoi' with hoi'
      subst hoi'
      have hnd : (pre ++ i :: post).Nodup := hp.imp (fun h => by omega)
      have hni : i ∉ pre ++ post := by
        intro hin
        rcases List.mem_append.1 hin with h | h
        · have := hpre i h; omega
        · have := (List.pairwise_cons.1 (List.pairwise_append.1 hp).2.1).1 i h; omega
      have hmem : ∀ j, j ∈ pre ++ i :: post ↔ (j = i ∨ j ∈ pre ++ post) := fun j => by simp only [List.mem_append, List.mem_cons]; constructor <;> rintro (h | h | h) <;> simp [h]
      have next : ∀ (J : World → Prop) (a : Act) (w : World), TxtZ P ops Q S es (pre ++ post) J a → (pre ++ post ≠ [] → S w) → J w → wpAny P .any ops Q fuel (listed.setIfInBounds i true) a w := fun J a w hc hS hJ => by
        refine ih _ (pre ++ post) J a w (by simp at hlen ⊢; omega) ?_ ?_ (by simpa using hsz) ?_ ?_ ?_ hc hS hJ
        · exact hp.sublist (List.Sublist.append (List.Sublist.refl _) (List.sublist_cons_self ..))
        · intro j
          by_cases hij : i = j
          · subst hij
            constructor
            · intro h; exact absurd h hni
            · rintro ⟨_, h⟩
              rw [show (listed.setIfInBounds i true).getD i true = true by simp [hsz, hilt]] at h
              cases h
          · rw [getD_set_ne true hij, ← hm j, hmem j]
            constructor
            · intro h; exact .inr h
            · rintro (h | h)
              · exact absurd h.symm hij
              · exact h
        · intro k j hk hj hkj hjs hjL hkL
          by_cases hji : j = i
          · subst hji
            rcases List.mem_append.1 hkL with h | h
            · exact hesI hj k h hk
            · have := (List.pairwise_cons.1 (List.pairwise_append.1 hp).2.1).1 k h; omega
          · exact hes k j hk hj hkj hjs (fun h => by rcases (hmem j).1 h with h | h; exact hji h; exact hjL h) ((hmem k).2 (.inr hkL))
        · intro k ok hkL hok' e1 he1 hb1 hin
          have hin' := (hmem e1.on).2 (.inr hin)
          by_cases hki : k = i
          · subst hki
            rw [hoi] at hok'
            injection hok' with hok'
            subst hok'
            exact (hdone e1 he1 hb1).1 hin'
          · exact hcl k ok (fun h => by rcases (hmem k).1 h with h | h; exact hki h; exact hkL h) hok' e1 he1 hb1 hin'
        · intro hne
          by_cases e : i = ops.size - 1
          · obtain ⟨e1, e2⟩ := hend e
            subst e1 e2
            exact absurd rfl hne
          · rcases (hmem _).1 hlast with h | h
            · exact absurd h.symm e
            · exact h
      rcases hstep with ⟨_, v, hv, hrest⟩ | ⟨_, hw, Sh, J', _, heff, hrest⟩ | ⟨_, hw, hrest⟩
      · unfold wpOp
        simp only [hoi]
        rcases hv with ⟨hw, hv⟩ | ⟨hw, rfl⟩
        · simp only [hw, if_true, Oper.wp, hv w hS, Oper.upon]; exact .inl (next _ _ _ hrest (fun _ => hS) hJ)
        · simp only [hw, Bool.false_eq_true, if_false]; exact next _ _ _ hrest (fun _ => hS) hJ
      · unfold wpOp
        simp only [hoi, hw, if_true]
        have he := heff w hS hJ
        refine .inl ?_
        have key : ∀ v w', (∃ v', a.put oi.dst v = a.put oi.dst v' ∧ (pre ++ post ≠ [] → S w') ∧ Sh v' ∧ J' v' w') → wpAny P .any ops Q fuel (listed.setIfInBounds i true) (a.put oi.dst v) w' := by
          rintro v w' ⟨v', e, hS', hsh, hJ'⟩
          rw [e]
          exact next _ _ _ (hrest v' hsh) hS' hJ'
        unfold Eff Oper.wp at *
        generalize (execOp a.eval oi).run P w = r at *
        cases r with
        | ok n w' =>
          cases n <;> simp only [Oper.upon] at he ⊢
          case value v => exact key _ _ he
          case skip => exact key _ _ he
          case defer d =>
            obtain ⟨v', e, _⟩ := he
            have := congrArg Act.defers e
            simp only [Act.put_defers] at this
            exact absurd (congrArg List.length this) (by simp)
          case enter f args => exact Calls.mono he (fun e w'' he => by cases e <;> first | exact key _ _ he | exact he.elim | (obtain ⟨_, _, hf⟩ := he; exact hf.elim))
          case row => exact Rows.mono he (fun _ _ he => key _ _ he)
        | halt x w' => cases x <;> simp only [Oper.upon] at he
      · unfold wpOp
        simp only [hoi, hw, Bool.false_eq_true, if_false]
        exact next _ _ _ hrest (fun _ => hS) hJ

/-- the same over the list of the operations themselves, the number of the first one given -/
def TxtZL (P : Program) (ops : Array Oper) (Q : Exit → Act → World → Prop) (S : World → Prop) (es : List Nat) : Nat → List Oper → (World → Prop) → Act → Prop
  | _, [], J, a => ∀ w, J w → Q .normal a w
  | k, o :: rest, J, a =>
    ((es.contains k = false ∧ ∃ v, Pure P ops S o a v ∧ TxtZL P ops Q S es (k + 1) rest J (a.put o.dst v)) ∨
     (es.contains k = true ∧ Region.wanted o (yielded ops a.tmps) = true ∧ ∃ (Sh : Value → Prop) (J' : Value → World → Prop), (∃ v, Sh v) ∧ (∀ w, S w → J w → Eff P o a w fun v w' => (rest ≠ [] → S w') ∧ Sh v ∧ J' v w') ∧ ∀ v, Sh v → TxtZL P ops Q S es (k + 1) rest (J' v) (a.put o.dst v)) ∨
     (es.contains k = true ∧ Region.wanted o (yielded ops a.tmps) = false ∧ TxtZL P ops Q S es (k + 1) rest J (a.put o.dst undef)))
theorem TxtZ.of_list (l : List Oper) : ∀ (k : Nat) (J : World → Prop) (a : Act), (∀ j, l[j]? = ops[k + j]?) → TxtZL P ops Q S es k l J a → TxtZ P ops Q S es (List.range' k l.length) J a := by
  induction l with
  | nil => intro k J a _ h; exact h
  | cons o l ih =>
    intro k J a hj h
    rw [List.length_cons, List.range'_succ]
    have hnext : ∀ j, l[j]? = ops[k + 1 + j]? := fun j => by
      have := hj (j + 1)
      simpa [Nat.add_assoc, Nat.add_comm 1 j] using this
    refine ⟨o, by simpa using (hj 0).symm, ?_⟩
    rcases h with ⟨h1, v, h2, h3⟩ | ⟨h1, h2, Sh, J', h3, h4, h5⟩ | ⟨h1, h2, h3⟩
    · exact .inl ⟨by simpa using h1, v, h2, ih _ _ _ hnext h3⟩
    · exact .inr (.inl ⟨by simpa using h1, h2, Sh, J', h3, fun w a b => Eff.imp (fun _ _ h => ⟨fun hr => h.1 (by rintro rfl; exact hr rfl), h.2⟩) (h4 w a b), fun v hv => ih _ _ _ hnext (h5 v hv)⟩)
    · exact .inr (.inr ⟨by simpa using h1, h2, ih _ _ _ hnext h3⟩)
/-- THE REGION, IN THE ORDER OF THE TEXT, its effects in their chain. -/
theorem wp_region_textZ {id : Nat} {l : List Oper} {a : Act} {w : World} (es : List Nat) (S : World → Prop) (J : World → Prop) (hm : P.follows .mixedOrders = true) (hok : textOk l.toArray = true) (hch : chainOk l.toArray es = true) (hlo : lastOk l.toArray es = true) (hS : S w.drew) (hJ : J w.drew)
    (h : TxtZL P l.toArray Q S es 0 l J a) : (Code.region id l.toArray true).wp P Q a w := by
  have h2 := TxtZ.of_list (ops := l.toArray) l 0 J a (fun j => by simp) h
  rw [← List.range_eq_range'] at h2
  refine wp_region_any hm (wpAny_of_txtZ ⟨_, hS⟩ hok hch hlo _ _ (List.range l.length) J a _ (by simp) List.pairwise_lt_range (fun j => ?_) (by simp) (fun i j _ _ hij hjs hj => absurd (List.mem_range.2 (by simpa using hjs)) hj) (fun j oj hj hoj => absurd (List.mem_range.2 (by have := (Array.getElem?_eq_some_iff.1 hoj).1; simpa using this)) hj) (fun h => List.mem_range.2 (by have : 0 < l.length := List.length_pos_iff.2 (fun e => h (by simp [e])); simp only [List.size_toArray]; omega)) h2 (fun _ => hS) hJ)
  rw [List.mem_range]
  constructor
  · intro hj; exact ⟨by simpa using hj, by simp [hj]⟩
  · intro hj; simpa using hj.1
theorem TxtZL.imp {J J' : World → Prop} (hJ : ∀ w, J' w → J w) : ∀ (l : List Oper) (k : Nat) (a : Act), TxtZL P ops Q S es k l J a → TxtZL P ops Q S es k l J' a
  | [], _, _, h => fun w h' => h w (hJ w h')
  | o :: l, k, a, h => by
    rcases h with ⟨h1, v, h2, h3⟩ | ⟨h1, h2, Sh, J'', h3, h4, h5⟩ | ⟨h1, h2, h3⟩
    · exact .inl ⟨h1, v, h2, TxtZL.imp hJ l _ _ h3⟩
    · exact .inr (.inl ⟨h1, h2, Sh, J'', h3, fun w hS h' => h4 w hS (hJ w h'), h5⟩)
    · exact .inr (.inr ⟨h1, h2, TxtZL.imp hJ l _ _ h3⟩)
theorem TxtZL.nil {k : Nat} {J : World → Prop} {a : Act} (h : ∀ w, J w → Q .normal a w) : TxtZL P ops Q S es k [] J a := h
theorem TxtZL.take {k : Nat} {J : World → Prop} {o : Oper} {rest : List Oper} {a : Act} (hk : es.contains k = false) (hw : Region.wanted o (yielded ops a.tmps) = true)
    (h : ∃ v, (∀ w, S w → (execOp a.eval o).run P w = .ok (.value v) w) ∧ TxtZL P ops Q S es (k + 1) rest J (a.put o.dst v)) : TxtZL P ops Q S es k (o :: rest) J a := by
  obtain ⟨v, h1, h2⟩ := h
  exact .inl ⟨hk, v, .inl ⟨hw, h1⟩, h2⟩
/-- a pure operation that stands in the chain -/
theorem TxtZL.takeE {k : Nat} {J : World → Prop} {o : Oper} {rest : List Oper} {a : Act} (hk : es.contains k = true) (hw : Region.wanted o (yielded ops a.tmps) = true)
    (h : ∃ v, (∀ w, S w → (execOp a.eval o).run P w = .ok (.value v) w) ∧ TxtZL P ops Q S es (k + 1) rest J (a.put o.dst v)) : TxtZL P ops Q S es k (o :: rest) J a := by
  obtain ⟨v, h1, h2⟩ := h
  refine .inr (.inl ⟨hk, hw, fun u => u = v, fun _ => J, ⟨v, rfl⟩, fun w hS hJ => ?_, fun u hu => by subst hu; exact h2⟩)
  unfold Eff Oper.wp
  rw [h1 w hS]
  exact ⟨v, rfl, fun _ => hS, rfl, hJ⟩
/-- .. that is not the last -/
theorem TxtZL.takeE' {k : Nat} {J : World → Prop} {o o2 : Oper} {rest : List Oper} {a : Act} (hk : es.contains k = true) (hw : Region.wanted o (yielded ops a.tmps) = true)
    (h : ∃ v, (∀ w, S w → (execOp a.eval o).run P w = .ok (.value v) w) ∧ TxtZL P ops Q S es (k + 1) (o2 :: rest) J (a.put o.dst v)) : TxtZL P ops Q S es k (o :: o2 :: rest) J a := TxtZL.takeE hk hw h
theorem TxtZL.skip {k : Nat} {J : World → Prop} {o : Oper} {rest : List Oper} {a : Act} (hw : Region.wanted o (yielded ops a.tmps) = false) (h : TxtZL P ops Q S es (k + 1) rest J (a.put o.dst undef)) : TxtZL P ops Q S es k (o :: rest) J a := by
  cases hk : es.contains k
  · exact .inl ⟨hk, undef, .inr ⟨hw, rfl⟩, h⟩
  · exact .inr (.inr ⟨hk, hw, h⟩)
theorem TxtZL.eff {k : Nat} {J : World → Prop} {o : Oper} {rest : List Oper} {a : Act} (Sh : Value → Prop) (J' : Value → World → Prop) (hk : es.contains k = true) (hw : Region.wanted o (yielded ops a.tmps) = true) (hex : ∃ v, Sh v)
    (h : ∀ w, S w → J w → Eff P o a w fun v w' => S w' ∧ Sh v ∧ J' v w') (hr : ∀ v, Sh v → TxtZL P ops Q S es (k + 1) rest (J' v) (a.put o.dst v)) : TxtZL P ops Q S es k (o :: rest) J a :=
  .inr (.inl ⟨hk, hw, Sh, J', hex, fun w hS hJ => Eff.imp (fun _ _ h => ⟨fun _ => h.1, h.2⟩) (h w hS hJ), hr⟩)
/-- the last one -/
theorem TxtZL.last {k : Nat} {J : World → Prop} {o : Oper} {a : Act} (J' : World → Prop) (hk : es.contains k = true) (hw : Region.wanted o (yielded ops a.tmps) = true)
    (h : ∀ w, S w → J w → Eff P o a w fun _ w' => J' w') (hr : ∀ v w, J' w → Q .normal (a.put o.dst v) w) : TxtZL P ops Q S es k [o] J a :=
  .inr (.inl ⟨hk, hw, fun _ => True, fun _ => J', ⟨undef, trivial⟩, fun w hS hJ => Eff.imp (fun _ _ h => ⟨fun h2 => absurd rfl h2, trivial, h⟩) (h w hS hJ), fun v _ w hJ => hr v w hJ⟩)
/-- an effect that leaves a value -/
theorem TxtZL.value {k : Nat} {J : World → Prop} {o : Oper} {rest : List Oper} {a : Act} (Sh : Value → Prop) (J' : Value → World → Prop) (hk : es.contains k = true) (hw : Region.wanted o (yielded ops a.tmps) = true) (hex : ∃ v, Sh v)
    (h : ∀ w, S w → J w → ∃ v w', (execOp a.eval o).run P w = .ok (.value v) w' ∧ S w' ∧ Sh v ∧ J' v w') (hr : ∀ v, Sh v → TxtZL P ops Q S es (k + 1) rest (J' v) (a.put o.dst v)) : TxtZL P ops Q S es k (o :: rest) J a := by
  refine TxtZL.eff Sh J' hk hw hex (fun w hS hJ => ?_) hr
  obtain ⟨v, w', hrun, hp⟩ := h w hS hJ
  unfold Eff Oper.wp
  rw [hrun]
  exact ⟨v, rfl, hp⟩
/-- an effect that is a call of a Go function -/
theorem TxtZL.call {k : Nat} {J : World → Prop} {o : Oper} {rest : List Oper} {a : Act} {f : FuncId} {args : Array Value} (Sh : Value → Prop) (J' : Value → World → Prop) (hk : es.contains k = true) (hw : Region.wanted o (yielded ops a.tmps) = true) (hex : ∃ v, Sh v)
    (hrun : ∀ w, S w → J w → (execOp a.eval o).run P w = .ok (.enter f args) w) (h : ∀ w, S w → J w → Calls P f args w fun e w' => ∃ v, e = .returned v ∧ S w' ∧ Sh v ∧ J' v w')
    (hr : ∀ v, Sh v → TxtZL P ops Q S es (k + 1) rest (J' v) (a.put o.dst v)) : TxtZL P ops Q S es k (o :: rest) J a := by
  refine TxtZL.eff Sh J' hk hw hex (fun w hS hJ => ?_) hr
  unfold Eff Oper.wp
  rw [hrun w hS hJ]
  refine (h w hS hJ).mono ?_
  rintro e w' ⟨v, rfl, h1⟩
  exact ⟨v, rfl, h1⟩
end
end Go.Proofs.YtncimnfhfomddaaDoor
