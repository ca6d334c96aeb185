/- A channel: what its functions make of it. Plain words, no program in sight. -/
import Derived.Test.YthkknlnfdckdfaaPk4
namespace Go.Proofs.Ythkknlnfdckdfaa
open Go.ChangeShapes Go.WideShapes Go.ChangeAt Go.RowKit

structure Chn where
  items : List Int
  win : Int
  base : Int
  rc : List Int
  held : List Pk
  fl : List Pk
def hasN (l : List Pk) (n : Int) : Bool := l.any fun q => q.2.1 == n
def insF (l : List Pk) (p : Pk) : List Pk := (l.filter fun q => decide (q.2.1 < p.2.1)) ++ p :: l.filter fun q => !decide (q.2.1 < p.2.1)
def goesIn (c : Chn) (p : Pk) : Bool := decide ((c.rc.length : Int) ≤ p.2.1) && (decide (p.2.1 < (c.rc.length : Int) + c.win) && !hasN c.held p.2.1)
def drainF : List Pk → List Int → List Int × List Pk
  | [], r => (r, [])
  | p :: h, r => if p.2.1 = (r.length : Int) then drainF h (r ++ [p.2.2]) else (r, p :: h)
def recvH (c : Chn) (p : Pk) : List Pk := if goesIn c p = true then insF c.held p else c.held
def ackF (fl : List Pk) (r : List Int) : List Pk := if 200 ≤ fl.length then fl else fl ++ [(true, (r.length : Int), 0)]
def recvF (c : Chn) (p : Pk) : Chn := { c with rc := (drainF (recvH c p) c.rc).1, held := (drainF (recvH c p) c.rc).2, fl := ackF c.fl (drainF (recvH c p) c.rc).1 }
def dropK (l : List Pk) (i : Nat) : List Pk := l.take i ++ l.drop (i + 1)
def delivF (c : Chn) (n : Nat) : Chn := if (pk c.fl n).1 = true then { c with fl := dropK c.fl n, base := max c.base (pk c.fl n).2.1 } else recvF { c with fl := dropK c.fl n } (pk c.fl n)
def sendE (c : Chn) (n : Int) : Int := if n < 0 ∨ c.win ≤ n ∨ c.base + n < 0 ∨ (c.items.length : Int) ≤ c.base + n then 1 else if 200 ≤ c.fl.length then 2 else 0
def itemAt (l : List Int) (k : Int) : Int := l.getD k.toNat 0
def sendF (c : Chn) (n : Int) : Chn := if sendE c n = 0 then { c with fl := c.fl ++ [(false, c.base + n, itemAt c.items (c.base + n))] } else c

/-- a packet that was sent -/
def PkOk (items : List Int) (r : Nat) (p : Pk) : Prop := if p.1 = true then 0 ≤ p.2.1 ∧ p.2.1 ≤ (r : Int) else 0 ≤ p.2.1 ∧ p.2.1 < (items.length : Int) ∧ p.2.2 = itemAt items p.2.1
/-- packets that came early -/
structure HeldOk (items : List Int) (r : Int) (h : List Pk) : Prop where
  asc : AscK h
  inr : ∀ p ∈ h, r ≤ p.2.1 ∧ p.2.1 < (items.length : Int) ∧ p.2.2 = itemAt items p.2.1
def Pre (items rc : List Int) : Prop := rc.length ≤ items.length ∧ rc = items.take rc.length
structure CI (c : Chn) : Prop where
  w0 : 1 ≤ c.win
  w1 : c.win ≤ 8
  n60 : c.items.length ≤ 60
  b0 : 0 ≤ c.base
  b1 : c.base ≤ (c.rc.length : Int)
  pre : Pre c.items c.rc
  hd : HeldOk c.items ((c.rc.length : Int) + 1) c.held
  fl : c.fl.length ≤ 200
  pk : ∀ p ∈ c.fl, PkOk c.items c.rc.length p

theorem asc_len : ∀ (l : List Pk) (a b : Int), AscK l → (∀ p ∈ l, a ≤ p.2.1 ∧ p.2.1 < b) → l.length = 0 ∨ (l.length : Int) ≤ b - a
  | [], _, _, _, _ => .inl rfl
  | p :: l, a, b, h, hb => by
    unfold AscK at h
    rw [List.pairwise_cons] at h
    have hp := hb p (by simp)
    rcases asc_len l (p.2.1 + 1) b h.2 (fun q hq => by have := h.1 q hq; have := hb q (by simp [hq]); omega) with e | e
    · right; rw [List.length_cons, e]; omega
    · right; rw [List.length_cons]; omega
theorem HeldOk.len {items : List Int} {r : Int} {h : List Pk} (hh : HeldOk items r h) (hr : 0 ≤ r) (hn : items.length ≤ 60) : h.length ≤ 60 := by
  rcases asc_len h r items.length hh.asc (fun p hp => ⟨(hh.inr p hp).1, (hh.inr p hp).2.1⟩) with e | e <;> omega
theorem Pre.snoc {items rc : List Int} (h : Pre items rc) (hl : rc.length < items.length) : Pre items (rc ++ [itemAt items (rc.length : Int)]) := by
  refine ⟨by simp; omega, ?_⟩
  rw [List.length_append, List.length_singleton, List.take_succ_eq_append_getElem hl, ← h.2]
  congr 1
  unfold itemAt
  rw [Int.toNat_natCast, List.getD_eq_getElem?_getD, List.getElem?_eq_getElem hl]; rfl
theorem drain_ok {items : List Int} : ∀ (h : List Pk) (r : List Int), Pre items r → HeldOk items (r.length : Int) h →
    Pre items (drainF h r).1 ∧ r.length ≤ (drainF h r).1.length ∧ HeldOk items (((drainF h r).1.length : Int) + 1) (drainF h r).2 ∧ (∀ p t, h = p :: t → p.2.1 = (r.length : Int) → r.length < (drainF h r).1.length)
  | [], r, hp, hh => ⟨hp, Nat.le_refl _, ⟨List.Pairwise.nil, fun p hp => by cases hp⟩, fun p t e => by cases e⟩
  | p :: t, r, hp, hh => by
    have ha := hh.asc
    unfold AscK at ha
    rw [List.pairwise_cons] at ha
    have h0 := hh.inr p (by simp)
    unfold drainF
    by_cases e : p.2.1 = (r.length : Int)
    · rw [if_pos e]
      have hl : r.length < items.length := by omega
      have hv : p.2.2 = itemAt items (r.length : Int) := by rw [h0.2.2, e]
      have hp' : Pre items (r ++ [p.2.2]) := by rw [hv]; exact hp.snoc hl
      have hlen : (r ++ [p.2.2]).length = r.length + 1 := by simp
      obtain ⟨g1, g2, g3, _⟩ := drain_ok t (r ++ [p.2.2]) hp' ⟨ha.2, fun q hq => by have := ha.1 q hq; have := hh.inr q (by simp [hq]); rw [hlen]; refine ⟨by omega, this.2⟩⟩
      rw [hlen] at g2
      exact ⟨g1, by omega, g3, fun _ _ _ _ => by omega⟩
    · rw [if_neg e]
      refine ⟨hp, Nat.le_refl _, ⟨hh.asc, fun q hq => ?_⟩, fun p' t' e' e2 => ?_⟩
      · have hq' := hh.inr q hq
        refine ⟨?_, hq'.2⟩
        rw [List.mem_cons] at hq
        rcases hq with rfl | hq
        · show ((r.length : Int)) + 1 ≤ _; omega
        · have := ha.1 q hq; show ((r.length : Int)) + 1 ≤ _; omega
      · injection e' with e1 _; subst e1; exact absurd e2 e
theorem drain_le {items : List Int} {h : List Pk} {r : List Int} (hp : Pre items r) (hh : HeldOk items (r.length : Int) h) : (drainF h r).1.length ≤ items.length := (drain_ok h r hp hh).1.1
theorem hasN_false {l : List Pk} {n : Int} : hasN l n = false ↔ ∀ q ∈ l, q.2.1 ≠ n := by
  unfold hasN
  rw [List.any_eq_false]
  exact ⟨fun h q hq e => h q hq (beq_iff_eq.2 e), fun h q hq e => h q hq (beq_iff_eq.1 e)⟩
theorem ins_asc {l : List Pk} {p : Pk} (h : AscK l) (hn : hasN l p.2.1 = false) : AscK (insF l p) := by
  unfold AscK insF at *
  rw [hasN_false] at hn
  rw [List.pairwise_append, List.pairwise_cons]
  refine ⟨h.sublist List.filter_sublist, ⟨fun q hq => ?_, h.sublist List.filter_sublist⟩, fun a ha b hb => ?_⟩
  · rw [List.mem_filter] at hq
    have h1 := hn q hq.1
    have h2 := hq.2
    rw [Bool.not_eq_true', decide_eq_false_iff_not] at h2
    omega
  · rw [List.mem_filter, decide_eq_true_iff] at ha
    rw [List.mem_cons] at hb
    rcases hb with rfl | hb
    · exact ha.2
    · rw [List.mem_filter, Bool.not_eq_true', decide_eq_false_iff_not] at hb
      omega
theorem mem_ins {l : List Pk} {p q : Pk} (h : q ∈ insF l p) : q = p ∨ q ∈ l := by
  unfold insF at h
  rw [List.mem_append, List.mem_cons, List.mem_filter, List.mem_filter] at h
  rcases h with h | h | h
  · exact .inr h.1
  · exact .inl h
  · exact .inr h.1
/-- what is held once a packet has come, before it is taken over -/
theorem recvH_ok {c : Chn} (h : CI c) {p : Pk} (hp : 0 ≤ p.2.1 ∧ p.2.1 < (c.items.length : Int) ∧ p.2.2 = itemAt c.items p.2.1) : HeldOk c.items (c.rc.length : Int) (recvH c p) := by
  unfold recvH
  split
  case isTrue hg =>
    unfold goesIn at hg
    rw [Bool.and_eq_true, Bool.and_eq_true, decide_eq_true_iff, decide_eq_true_iff, Bool.not_eq_true'] at hg
    refine ⟨ins_asc h.hd.asc hg.2.2, fun q hq => ?_⟩
    rcases mem_ins hq with rfl | hq
    · exact ⟨hg.1, hp.2⟩
    · have := h.hd.inr q hq
      exact ⟨by omega, this.2⟩
  case isFalse => exact ⟨h.hd.asc, fun q hq => by have := h.hd.inr q hq; exact ⟨by omega, this.2⟩⟩
theorem PkOk.mono {items : List Int} {r r' : Nat} {p : Pk} (h : PkOk items r p) (hr : r ≤ r') : PkOk items r' p := by
  unfold PkOk at *
  split at h
  · rw [if_pos (by assumption)]; exact ⟨h.1, by omega⟩
  · rw [if_neg (by assumption)]; exact h
theorem recv_ok {c : Chn} (h : CI c) {p : Pk} (hp : 0 ≤ p.2.1 ∧ p.2.1 < (c.items.length : Int) ∧ p.2.2 = itemAt c.items p.2.1) : CI (recvF c p) ∧ c.rc.length ≤ (recvF c p).rc.length ∧ (p.2.1 = (c.rc.length : Int) → c.rc.length < (recvF c p).rc.length) := by
  obtain ⟨g1, g2, g3, g4⟩ := drain_ok (recvH c p) c.rc h.pre (recvH_ok h hp)
  have hb := h.b1
  refine ⟨⟨h.w0, h.w1, h.n60, h.b0, ?_, g1, g3, ?_, fun q hq => ?_⟩, g2, fun e => ?_⟩
  · show c.base ≤ ((drainF (recvH c p) c.rc).1.length : Int); omega
  · show (ackF c.fl (drainF (recvH c p) c.rc).1).length ≤ 200
    unfold ackF
    have := h.fl
    split
    · exact this
    · simp; omega
  · have hq' : q ∈ ackF c.fl (drainF (recvH c p) c.rc).1 := hq
    show PkOk c.items (drainF (recvH c p) c.rc).1.length q
    unfold ackF at hq'
    split at hq'
    · exact (h.pk q hq').mono g2
    · rw [List.mem_append, List.mem_singleton] at hq'
      rcases hq' with hq' | rfl
      · exact (h.pk q hq').mono g2
      · unfold PkOk; rw [if_pos rfl]; exact ⟨by simp, by simp⟩
  · have hgo : goesIn c p = true := by
      unfold goesIn
      rw [Bool.and_eq_true, Bool.and_eq_true, decide_eq_true_iff, decide_eq_true_iff, Bool.not_eq_true', hasN_false]
      have := h.w0
      exact ⟨by omega, by omega, fun q hq => by have := (h.hd.inr q hq).1; omega⟩
    have hH : recvH c p = p :: (c.held.filter fun q => !decide (q.2.1 < p.2.1)) := by
      unfold recvH insF
      rw [if_pos hgo, List.filter_eq_nil_iff.2 (fun q hq => by have := (h.hd.inr q hq).1; rw [decide_eq_true_iff]; omega), List.nil_append]
    exact g4 _ _ hH e
theorem dropK_sub {l : List Pk} {i : Nat} : ∀ q ∈ dropK l i, q ∈ l := fun q hq => by
  unfold dropK at hq
  rw [List.mem_append] at hq
  rcases hq with hq | hq
  · exact List.mem_of_mem_take hq
  · exact List.mem_of_mem_drop hq
theorem dropK_len {l : List Pk} {i : Nat} : (dropK l i).length ≤ l.length := by
  unfold dropK
  rw [List.length_append, List.length_take, List.length_drop]; omega
theorem CI.flOf {c : Chn} (h : CI c) {l : List Pk} (hl : l.length ≤ 200) (hm : ∀ q ∈ l, PkOk c.items c.rc.length q) : CI { c with fl := l } := ⟨h.w0, h.w1, h.n60, h.b0, h.b1, h.pre, h.hd, hl, hm⟩
theorem deliv_ok {c : Chn} (h : CI c) {n : Nat} (hn : n < c.fl.length) : CI (delivF c n) ∧ c.rc.length ≤ (delivF c n).rc.length := by
  have hp := h.pk _ (pk_mem hn)
  have hl : (dropK c.fl n).length ≤ 200 := Nat.le_trans dropK_len h.fl
  have hc := h.flOf hl (fun q hq => h.pk q (dropK_sub q hq))
  unfold delivF
  unfold PkOk at hp
  split
  case isTrue e =>
    rw [if_pos e] at hp
    have hb0 := h.b0; have hb1 := h.b1
    refine ⟨⟨h.w0, h.w1, h.n60, ?_, ?_, h.pre, h.hd, hl, hc.pk⟩, Nat.le_refl _⟩
    · show 0 ≤ max c.base _; omega
    · show max c.base _ ≤ _; show max c.base _ ≤ ((c.rc.length : Nat) : Int); omega
  case isFalse e =>
    rw [if_neg e] at hp
    have := recv_ok hc hp
    exact ⟨this.1, this.2.1⟩
theorem send_ok {c : Chn} (h : CI c) (n : Int) : CI (sendF c n) := by
  unfold sendF
  split
  case isTrue e =>
    unfold sendE at e
    split at e
    · omega
    case isFalse e1 =>
      split at e
      · omega
      case isFalse e2 =>
        refine h.flOf (by simp; omega) (fun q hq => ?_)
        rw [List.mem_append, List.mem_singleton] at hq
        rcases hq with hq | rfl
        · exact h.pk q hq
        · unfold PkOk
          rw [if_neg (by simp)]
          exact ⟨by simp only; omega, by simp only; omega, rfl⟩
  case isFalse => exact h
/-- one round of the end -/
def finR (c : Chn) : Chn := delivF (delivF (sendF { c with fl := [] } 0) 0) 0
def nofl (c : Chn) : Chn := { c with fl := [] }
theorem fin_send {c : Chn} (h : CI c) (hb : c.base ≠ (c.items.length : Int)) : sendE (nofl c) 0 = 0 ∧ (sendF (nofl c) 0).fl = [(false, c.base, itemAt c.items c.base)] := by
  have h1 := h.w0; have h2 := h.b0; have h3 := h.b1; have h4 := h.pre.1
  have e : sendE (nofl c) 0 = 0 := by
    unfold sendE nofl
    rw [if_neg (by simp only; omega), if_neg (by simp)]
  refine ⟨e, ?_⟩
  unfold sendF
  rw [if_pos e]
  show [] ++ [(false, c.base + 0, itemAt c.items (c.base + 0))] = _
  rw [Int.add_zero]; rfl
theorem fin_ok {c : Chn} (h : CI c) (hb : c.base ≠ (c.items.length : Int)) : CI (finR c) ∧ c.base < (finR c).base ∧ (finR c).items = c.items ∧ (sendF (nofl c) 0).fl.length = 1 ∧ (delivF (sendF (nofl c) 0) 0).fl.length = 1 := by
  obtain ⟨e, ef⟩ := fin_send h hb
  have h2 := h.b0; have h3 := h.b1; have h4 := h.pre.1
  have hc0 : CI (nofl c) := h.flOf (by simp) (fun q hq => by cases hq)
  have hc1 := send_ok hc0 0
  have hp1 : pk (sendF (nofl c) 0).fl 0 = (false, c.base, itemAt c.items c.base) := by rw [ef]; rfl
  have hd1 : delivF (sendF (nofl c) 0) 0 = recvF (nofl c) (false, c.base, itemAt c.items c.base) := by
    unfold delivF
    rw [hp1, if_neg (by simp), ef]
    unfold sendF
    rw [if_pos e]
    rfl
  have hr := recv_ok hc0 (p := (false, c.base, itemAt c.items c.base)) ⟨h2, by show c.base < (c.items.length : Int); omega, rfl⟩
  have hlt : c.base < ((recvF (nofl c) (false, c.base, itemAt c.items c.base)).rc.length : Int) := by
    by_cases e2 : c.base = (c.rc.length : Int)
    · have := hr.2.2 e2
      have e3 : (nofl c).rc = c.rc := rfl
      rw [e3] at this
      omega
    · have := hr.2.1
      have e3 : (nofl c).rc = c.rc := rfl
      rw [e3] at this
      omega
  have dfl : (recvF (nofl c) (false, c.base, itemAt c.items c.base)).fl = [(true, ((recvF (nofl c) (false, c.base, itemAt c.items c.base)).rc.length : Int), 0)] := by
    show ackF [] _ = _
    unfold ackF
    rw [if_neg (by simp), List.nil_append]; rfl
  have dit : (recvF (nofl c) (false, c.base, itemAt c.items c.base)).items = c.items := rfl
  have db : (recvF (nofl c) (false, c.base, itemAt c.items c.base)).base = c.base := rfl
  unfold finR
  rw [show { c with fl := [] } = nofl c from rfl, hd1]
  have hci := hr.1
  generalize recvF (nofl c) (false, c.base, itemAt c.items c.base) = d at *
  have hp2 : pk d.fl 0 = (true, (d.rc.length : Int), 0) := by rw [dfl]; rfl
  have hde : delivF d 0 = { d with fl := dropK d.fl 0, base := max d.base (d.rc.length : Int) } := by
    unfold delivF
    rw [hp2, if_pos rfl]
  refine ⟨(deliv_ok hci (by rw [dfl]; simp)).1, ?_, ?_, by rw [ef]; rfl, by rw [dfl]; rfl⟩
  · rw [hde]; show c.base < max d.base _; omega
  · rw [hde]; exact dit
theorem fin_done {c : Chn} (h : CI c) (hb : c.base = (c.items.length : Int)) : c.rc = c.items := by
  have h3 := h.b1; have h4 := h.pre
  have : c.rc.length = c.items.length := by have := h4.1; omega
  rw [h4.2, this, List.take_length]
/-- what a step makes of it -/
def stepE (c : Chn) (k n : Int) : Int := if k = 1 then sendE c n else if k = 2 ∨ k = 3 ∨ k = 4 then if n < 0 ∨ (c.fl.length : Int) ≤ n then 1 else if k = 4 ∧ 200 ≤ c.fl.length then 2 else 0 else 4
def stepF (c : Chn) (k n : Int) : Chn := if k = 1 then sendF c n else if k = 2 then delivF c n.toNat else if k = 3 then { c with fl := dropK c.fl n.toNat } else { c with fl := c.fl ++ [pk c.fl n.toNat] }
theorem step_ok {c : Chn} (h : CI c) {k n : Int} (he : stepE c k n = 0) : CI (stepF c k n) := by
  unfold stepE at he
  unfold stepF
  by_cases h1 : k = 1
  · rw [if_pos h1]; exact send_ok h n
  rw [if_neg h1] at he
  rw [if_neg h1]
  by_cases hk : k = 2 ∨ k = 3 ∨ k = 4
  · rw [if_pos hk] at he
    by_cases hn : n < 0 ∨ (c.fl.length : Int) ≤ n
    · rw [if_pos hn] at he; omega
    rw [if_neg hn] at he
    have hn' : n.toNat < c.fl.length := by omega
    by_cases h2 : k = 2
    · rw [if_pos h2]; exact (deliv_ok h hn').1
    rw [if_neg h2]
    by_cases h3 : k = 3
    · rw [if_pos h3]
      exact h.flOf (Nat.le_trans dropK_len h.fl) (fun q hq => h.pk q (dropK_sub q hq))
    · rw [if_neg h3]
      have h4 : k = 4 := by omega
      by_cases hf : 200 ≤ c.fl.length
      · rw [if_pos ⟨h4, hf⟩] at he; omega
      · refine h.flOf (by simp; omega) (fun q hq => ?_)
        rw [List.mem_append, List.mem_singleton] at hq
        rcases hq with hq | rfl
        · exact h.pk q hq
        · exact h.pk _ (pk_mem hn')
  · rw [if_neg hk] at he; omega
theorem step_items {c : Chn} {k n : Int} : (stepF c k n).items = c.items ∧ (stepF c k n).win = c.win := by
  have hd : ∀ m, (delivF c m).items = c.items ∧ (delivF c m).win = c.win := fun m => by unfold delivF; split <;> exact ⟨rfl, rfl⟩
  have hs : ∀ m, (sendF c m).items = c.items ∧ (sendF c m).win = c.win := fun m => by unfold sendF; split <;> exact ⟨rfl, rfl⟩
  unfold stepF
  split
  · exact hs _
  · split
    · exact hd _
    · split <;> exact ⟨rfl, rfl⟩
end Go.Proofs.Ythkknlnfdckdfaa
