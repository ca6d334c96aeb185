import Derived.Test.YtncimnfhfomddaaDoorNw
import Derived.Test.YtncimnfhfomddaaDoorRwB
import Derived.Deep.CutBlock
import Derived.Test.YtncimnfhfomddaaDoorSvA
/- The reference of layer 25: game, reply, Reached. -/
namespace Go.Proofs.YtncimnfhfomddaaDoor
open Go.ChangeShapes Go.WideShapes Go.ChangeAt Go.RowKit

set_option maxHeartbeats 1000000 in
theorem rGame_any (k : Int) (w : World) : Calls Tryd.prog 83 #[.int .i64 k] w (Ret (.bool (k == 1 || k == 2)) w) := by
  by_cases h1 : k = 1
  · subst h1
    go_enter Tryd.func83, Tryd.ntmps83
    go_wp2_with fail
    go_ret
    exact ⟨rfl, rfl⟩
  · have h1b : (k == 1) = false := beq_eq_false_iff_ne.2 h1
    rw [h1b, Bool.false_or]
    obtain ⟨b, hb⟩ : ∃ b, (k == 2) = b := ⟨_, rfl⟩
    rw [hb]
    clear h1
    go_enter Tryd.func83, Tryd.ntmps83
    go_wp2_with fail
    go_ret
    exact ⟨rfl, rfl⟩
/-- the reply to a node, or -1 -/
def rpI (OO : List (Nat × Nat)) (x : Nat) : Int := match rpF OO x with
  | some y => (y : Int)
  | none => -1
theorem rpI_some {OO : List (Nat × Nat)} {x y : Nat} (h : rpF OO x = some y) : rpI OO x = (y : Int) := by unfold rpI; rw [h]
set_option maxRecDepth 100000 in
set_option maxHeartbeats 2000000 in
theorem rReply_any (k root by_ : Int) (A : Option Addr) (OO : List (Nat × Nat)) (c x : Nat) (w : World) (hr : RP w A (OO.map toI)) (hl : OO.length ≤ 100000) :
    Calls Tryd.prog 120 #[.agg #[.int .i64 k, .int .i64 root, .int .i64 by_, .slice A OO.length c], .int .i64 (x : Int)] w (RetB (.int .i64 (rpI OO x)) w) := by
  go_enter Tryd.func120, Tryd.ntmps120
  go_upto_region 1 with fail
  obtain ⟨W0, hW, kS, hb0, hs0⟩ := boxA w 64 #[.int .i64 k, .int .i64 root, .int .i64 by_, .slice A OO.length c]
  rw [hW]
  have s3 : W0.cell? ⟨w.heap.size, 3, none⟩ = some (.slice A OO.length c) := kS.cell 3
  have hr0 := hr.below hb0
  clear hW hr kS hs0
  go_wp2_with fail
  go_loop [5] (fun i => ∃ q : Nat, q ≤ OO.length ∧ i = .int .i64 (q : Int) ∧ (OO.take q).find? (fun p => p.1 == x) = none) (fun i => OO.length - (intOf i).toNat)
  case atStart => exact ⟨0, Nat.zero_le _, rfl, rfl⟩
  case round =>
    obtain ⟨q, hq, rfl, hno⟩ := hrel
    have Hno := Lib.hid hno; clear hno
    by_cases hlt : q < OO.length
    case neg =>
      have Hend : RowKit.Hid (rpI OO x = -1) := Lib.hid (by
        have h := Hno.out
        rw [List.take_of_length_le (by omega)] at h
        unfold rpI rpF
        rw [h]; rfl)
      go_wp2_with fail
      go_ret
      exact ⟨by rw [Hend.out]; rfl, hb0⟩
    case pos =>
    obtain ⟨b, o, rfl, hc, hd⟩ := toI_at hr0 hlt
    obtain ⟨y, hy⟩ : ∃ y, OO[q].1 = y := ⟨_, rfl⟩
    obtain ⟨z, hz⟩ : ∃ z, OO[q].2 = z := ⟨_, rfl⟩
    rw [hy] at hc; rw [hz] at hd
    have hsplit : (OO.take (q + 1)).find? (fun p => p.1 == x) = if y = x then some OO[q] else none := by
      rw [List.take_succ_eq_append_getElem hlt, List.find?_append, Hno.out, Option.none_or, List.find?_cons, hy]
      by_cases e : y = x
      · rw [if_pos e, show (y == x) = true from beq_iff_eq.2 e]
      · rw [if_neg e, show (y == x) = false from beq_eq_false_iff_ne.2 e]; rfl
    have hall : y = x → rpI OO x = (z : Int) := fun e => by
      refine rpI_some ?_
      unfold rpF
      have h2 : OO.find? (fun p => p.1 == x) = some OO[q] := by
        have h3 : (OO.take (q + 1) ++ OO.drop (q + 1)).find? (fun p => p.1 == x) = some OO[q] := by rw [List.find?_append, hsplit, if_pos e]; rfl
        rwa [List.take_append_drop] at h3
      rw [h2, ← hz]; rfl
    have Hsplit := Lib.hid hsplit; have Hall := Lib.hid hall
    clear hsplit hall hy hz
    by_cases e : y = x
    · have he : ((y : Int) == (x : Int)) = true := by rw [beq_iff_eq, e]
      have Hz := Lib.hid (Hall.out e)
      clear e
      go_wp2_with fail
      go_ret
      exact ⟨by rw [Hz.out]; rfl, hb0⟩
    · have he : ((y : Int) == (x : Int)) = false := by rw [beq_eq_false_iff_ne]; omega
      have hn := Hsplit.out
      rw [if_neg e] at hn
      have Hn := Lib.hid hn
      clear e hn
      go_wp2_with fail
      go_round
      case rel => exact ⟨q + 1, by omega, by go_num, Hn.out⟩
      case measure => simp [intOf]; omega
end Go.Proofs.YtncimnfhfomddaaDoor

/- Reached and loops of layer 25's reference: plain. -/
namespace Go.Proofs.YtncimnfhfomddaaDoor
/-- how many nodes have a mark -/
def cntB (n : Nat) (f : Nat → Bool) : Nat := (List.range n).countP f
theorem cntB_le (n : Nat) (f : Nat → Bool) : cntB n f ≤ n := by
  have := List.countP_le_length (p := f) (l := List.range n)
  rw [List.length_range] at this; exact this
theorem cntB_lt {n : Nat} {f f' : Nat → Bool} (h : ∀ j, j < n → f j = true → f' j = true) (hx : ∃ j, j < n ∧ f j = false ∧ f' j = true) : cntB n f < cntB n f' :=
  countP_lt_of (fun j hj => h j (List.mem_range.1 hj)) (by obtain ⟨j, h1, h2, h3⟩ := hx; exact ⟨j, List.mem_range.2 h1, h2, h3⟩)
theorem cntB_mono {n : Nat} {f f' : Nat → Bool} (h : ∀ j, j < n → f j = true → f' j = true) : cntB n f ≤ cntB n f' := countP_le_of fun j hj => h j (List.mem_range.1 hj)
section
variable {n : Nat} {at_ : Nat → Nat → Bool} {OO : List (Nat × Nat)}
/-- the marks are not left by replies to attackers -/
def ClsB (n : Nat) (at_ : Nat → Nat → Bool) (OO : List (Nat × Nat)) (f : Nat → Bool) : Prop := ∀ a, a < n → f a = true → ∀ b, at_ b a = true → ∀ y, rpF OO b = some y → f y = true
/-- within a round: from f0 to f, the nodes below a done -/
structure RdB (n : Nat) (at_ : Nat → Nat → Bool) (OO : List (Nat × Nat)) (R : Nat → Prop) (f0 f : Nat → Bool) (a : Nat) : Prop where
  sub : ∀ j, f0 j = true → f j = true
  inR : ∀ j, f j = true → R j
  done : ∀ a', a' < a → f0 a' = true → ∀ b, at_ b a' = true → ∀ y, rpF OO b = some y → f y = true
  cls : ClsB n at_ OO f0 → ∀ j, j < n → f j = f0 j
theorem RdB.start {R : Nat → Prop} {f0 : Nat → Bool} (h : ∀ j, f0 j = true → R j) : RdB n at_ OO R f0 f0 0 :=
  ⟨fun _ h => h, h, fun a' ha => absurd ha (Nat.not_lt_zero a'), fun _ _ _ => rfl⟩
theorem RdB.skip {R : Nat → Prop} {f0 f : Nat → Bool} {a : Nat} (h : RdB n at_ OO R f0 f a) (hf : f a = false) : RdB n at_ OO R f0 f (a + 1) :=
  ⟨h.sub, h.inR, (fun a' ha h0 => by
    rcases Nat.lt_or_ge a' a with e | e
    · exact h.done a' e h0
    · have : a' = a := by omega
      subst this
      rw [h.sub _ h0] at hf; cases hf), h.cls⟩
/-- in the loop over the attackers b of a -/
structure RdC (n : Nat) (at_ : Nat → Nat → Bool) (OO : List (Nat × Nat)) (R : Nat → Prop) (f0 f : Nat → Bool) (a b : Nat) : Prop where
  rd : RdB n at_ OO R f0 f a
  me : f a = true
  got : ∀ b', b' < b → at_ b' a = true → ∀ y, rpF OO b' = some y → f y = true
theorem RdC.start {R : Nat → Prop} {f0 f : Nat → Bool} {a : Nat} (h : RdB n at_ OO R f0 f a) (hf : f a = true) : RdC n at_ OO R f0 f a 0 := ⟨h, hf, fun b' hb => absurd hb (Nat.not_lt_zero b')⟩
theorem RdC.skip {R : Nat → Prop} {f0 f : Nat → Bool} {a b : Nat} (h : RdC n at_ OO R f0 f a b) (hb : at_ b a = false) : RdC n at_ OO R f0 f a (b + 1) :=
  ⟨h.rd, h.me, fun b' hb' hat y hy => by
    rcases Nat.lt_or_ge b' b with e | e
    · exact h.got b' e hat y hy
    · have : b' = b := by omega
      subst this
      rw [hb] at hat; cases hat⟩
theorem RdC.put {R : Nat → Prop} {f0 f : Nat → Bool} {a b y : Nat} (h : RdC n at_ OO R f0 f a b) (ha : a < n) (hb : at_ b a = true) (hy : rpF OO b = some y) (hRy : R y) : RdC n at_ OO R f0 (fun j => if j = y then true else f j) a (b + 1) where
  rd := {
    sub := fun j hj => by split; rfl; exact h.rd.sub j hj
    inR := fun j hj => by
      split at hj
      · rename_i e; rw [e]; exact hRy
      · exact h.rd.inR j hj
    done := fun a' ha' h0 b' hb' y' hy' => by split; rfl; exact h.rd.done a' ha' h0 b' hb' y' hy'
    cls := fun hc j hj => by
      split
      · rename_i e
        subst e
        have hfa : f0 a = true := by rw [← h.rd.cls hc a ha]; exact h.me
        exact (hc a ha hfa b hb _ hy).symm
      · exact h.rd.cls hc j hj }
  me := by split; rfl; exact h.me
  got := fun b' hb' hat y' hy' => by
    rcases Nat.lt_or_ge b' b with e | e
    · split; rfl; exact h.got b' e hat y' hy'
    · have : b' = b := by omega
      subst this
      rw [hy] at hy'; injection hy' with hy'; rw [if_pos hy'.symm]
theorem RdC.fin {R : Nat → Prop} {f0 f : Nat → Bool} {a : Nat} (h : RdC n at_ OO R f0 f a n) (hat : ∀ b a, at_ b a = true → b < n) : RdB n at_ OO R f0 f (a + 1) :=
  ⟨h.rd.sub, h.rd.inR, (fun a' ha h0 b hb y hy => by
    rcases Nat.lt_or_ge a' a with e | e
    · exact h.rd.done a' e h0 b hb y hy
    · have : a' = a := by omega
      subst this
      exact h.got b (hat b _ hb) hb y hy), h.rd.cls⟩
/-- the state between the rounds -/
def RnB (n : Nat) (at_ : Nat → Nat → Bool) (OO : List (Nat × Nat)) (R : Nat → Prop) (root : Nat) (f : Nat → Bool) (k : Nat) : Prop := (∀ j, f j = true → R j) ∧ f root = true ∧ (ClsB n at_ OO f ∨ k + 1 ≤ cntB n f)
theorem RnB.start {R : Nat → Prop} {root : Nat} (hr : root < n) (hR : R root) : RnB n at_ OO R root (fun j => if j = root then true else false) 0 :=
  ⟨(fun j hj => by
    dsimp only at hj
    split at hj
    · rename_i e; rw [e]; exact hR
    · cases hj), if_pos rfl, .inr (by
      have := cntB_lt (n := n) (f := fun _ => false) (f' := fun j => if j = root then true else false) (fun j _ h => by cases h) ⟨root, hr, rfl, if_pos rfl⟩
      omega)⟩
theorem RdB.next {R : Nat → Prop} {root k : Nat} {f0 f : Nat → Bool} (h : RdB n at_ OO R f0 f n) (h0 : RnB n at_ OO R root f0 k) : RnB n at_ OO R root f (k + 1) := by
  refine ⟨h.inR, h.sub _ h0.2.1, ?_⟩
  by_cases e : ∃ j, j < n ∧ f0 j = false ∧ f j = true
  · have h1 := cntB_lt (fun j _ => h.sub j) e
    rcases h0.2.2 with hc | hc
    · obtain ⟨j, hj, h2, h3⟩ := e
      rw [h.cls hc j hj] at h3; rw [h2] at h3; cases h3
    · right; omega
  · left
    intro a ha hfa b hb y hy
    refine h.done a ha ?_ b hb y hy
    cases e0 : f0 a
    · exact absurd ⟨a, ha, e0, hfa⟩ e
    · rfl
theorem RnB.cls {R : Nat → Prop} {root : Nat} {f : Nat → Bool} (h : RnB n at_ OO R root f (n + 1)) : ClsB n at_ OO f := by
  rcases h.2.2 with e | e
  · exact e
  · have := cntB_le n f; omega
/-- ranks that descend at the replies, over the marks f -/
structure RkB (n : Nat) (at_ : Nat → Nat → Bool) (OO : List (Nat × Nat)) (f : Nat → Bool) (rk : Nat → Nat) : Prop where
  step : ∀ a, a < n → f a = true → ∀ b, at_ b a = true → ∃ y, rpF OO b = some y ∧ y < n ∧ f y = true ∧ rk y < rk a
/-- within a round of loops: from s0 to s, the first q of the list done -/
structure LpB (n : Nat) (at_ : Nat → Nat → Bool) (OO : List (Nat × Nat)) (s0 s : Nat → Bool) (qs : List Nat) : Prop where
  sub : ∀ j, s0 j = true → s j = true
  done : ∀ a ∈ qs, (∀ b, at_ b a = true → ∀ y, rpF OO b = some y → s0 y = true) → s a = true
theorem LpB.start {s0 : Nat → Bool} : LpB n at_ OO s0 s0 [] := ⟨fun _ h => h, fun a ha => by cases ha⟩
theorem LpB.more {s0 s : Nat → Bool} {qs : List Nat} {a : Nat} {v : Bool} (h : LpB n at_ OO s0 s qs) (hv : (∀ b, at_ b a = true → ∀ y, rpF OO b = some y → s y = true) → v = true) (hs : s a = true → v = true) : LpB n at_ OO s0 (fun j => if j = a then v else s j) (qs ++ [a]) where
  sub := fun j hj => by
    split
    · rename_i e; subst e; exact hs (h.sub _ hj)
    · exact h.sub j hj
  done := fun x hx hb => by
    split
    · exact hv fun b hb' y hy => h.sub y (hb b (by rename_i e; rw [e]; exact hb') y hy)
    · rename_i e
      rw [List.mem_append, List.mem_singleton] at hx
      rcases hx with hx | hx
      · exact h.done x hx hb
      · exact absurd hx e
def SetB (n : Nat) (f s : Nat → Bool) (k : Nat) : Prop := (∀ j, j < n → f j = true → s j = true) ∨ k ≤ cntB n s
theorem LpB.next {f s0 s : Nat → Bool} {rk : Nat → Nat} {k : Nat} (hk : RkB n at_ OO f rk) (h : LpB n at_ OO s0 s ((List.range n).filter f)) (h0 : SetB n f s0 k) : SetB n f s (k + 1) := by
  rcases h0 with h0 | h0
  · exact .inl fun j hj hf => h.sub j (h0 j hj hf)
  by_cases hall : ∀ j, j < n → f j = true → s0 j = true
  · exact .inl fun j hj hf => h.sub j (hall j hj hf)
  right
  -- the unsettled node with the least rank
  have hex : ∃ r j, j < n ∧ f j = true ∧ s0 j = false ∧ rk j = r := by
    refine Classical.byContradiction fun hne => hall fun j hj hf => ?_
    cases e : s0 j
    · exact absurd ⟨_, j, hj, hf, e, rfl⟩ hne
    · rfl
  have hmin : ∃ j, j < n ∧ f j = true ∧ s0 j = false ∧ ∀ i, i < n → f i = true → s0 i = false → rk j ≤ rk i := by
    obtain ⟨r, hr⟩ := hex
    induction r using Nat.strongRecOn
    rename_i r ih
    obtain ⟨j, h1, h2, h3, h4⟩ := hr
    by_cases hlow : ∃ i, i < n ∧ f i = true ∧ s0 i = false ∧ rk i < rk j
    · obtain ⟨i, i1, i2, i3, i4⟩ := hlow
      exact ih (rk i) (by omega) ⟨i, i1, i2, i3, rfl⟩
    · exact ⟨j, h1, h2, h3, fun i i1 i2 i3 => Nat.le_of_not_lt fun i4 => hlow ⟨i, i1, i2, i3, i4⟩⟩
  obtain ⟨j, hj, hf, hs, hlow⟩ := hmin
  have hsj : s j = true := h.done j (List.mem_filter.2 ⟨List.mem_range.2 hj, hf⟩) fun b hb y hy => by
    obtain ⟨y', e1, e2, e3, e4⟩ := hk.step j hj hf b hb
    rw [hy] at e1; injection e1 with e1; subst e1
    cases e : s0 y
    · have := hlow y e2 e3 e; omega
    · rfl
  have := cntB_lt (n := n) (fun i _ => h.sub i) ⟨j, hj, hs, hsj⟩
  omega
theorem SetB.all {f s : Nat → Bool} (h : SetB n f s (n + 1)) : ∀ j, j < n → f j = true → s j = true := by
  rcases h with h | h
  · exact h
  · have := cntB_le n s; omega
end
end Go.Proofs.YtncimnfhfomddaaDoor

/- The reference of layer 25: Reached, at a strategy that is good. -/
namespace Go.Proofs.YtncimnfhfomddaaDoor
open Go.ChangeShapes Go.WideShapes Go.ChangeAt Go.RowKit

/-- what Reached holds while it goes on -/
structure RcJ (w : World) (n : Nat) (A : Option Addr) (len c : Nat) (k root b : Nat) (A2 : Option Addr) (m c2 g6 : Nat) (f : Nat → Bool) (wr : World) : Prop where
  box : Blk wr w.heap.size 24 #[.int .i64 (n : Int), .slice A len c]
  sbx : Blk wr (w.heap.size + 1) 64 #[.int .i64 (k : Int), .int .i64 (root : Int), .int .i64 (b : Int), .slice A2 m c2]
  row : RowB wr g6 n f
  bel : Below w.heap.size w wr
  h6 : w.heap.size + 1 < g6
section
variable {w : World} {n : Nat} {A : Option Addr} {len c k root b : Nat} {A2 : Option Addr} {m c2 g6 : Nat} {f : Nat → Bool} {wr w' : World}
theorem RcJ.below (h : RcJ w n A len c k root b A2 m c2 g6 f wr) (hb : Below wr.heap.size wr w') : RcJ w n A len c k root b A2 m c2 g6 f w' :=
  { h with box := h.box.below hb h.box.lt, sbx := h.sbx.below hb h.sbx.lt, row := h.row.below hb, bel := h.bel.trans (hb.mono h.bel.size) }
theorem RcJ.put (h : RcJ w n A len c k root b A2 m c2 g6 f wr) (i : Nat) (x : Bool) : RcJ w n A len c k root b A2 m c2 g6 (fun j => if j = i then x else f j) (wr.setCell ⟨g6, i, none⟩ (.bool x)) :=
  { h with box := h.box.far (p := ⟨g6, i, none⟩) (by have := h.h6; show w.heap.size ≠ g6; omega) _, sbx := h.sbx.far (p := ⟨g6, i, none⟩) (by have := h.h6; show w.heap.size + 1 ≠ g6; omega) _, row := h.row.set i x, bel := h.bel.setCell (p := ⟨g6, i, none⟩) (by have := h.h6; show w.heap.size ≤ g6; omega) _ }
theorem RcJ.append {B e size j : Nat} {v : Value} {xs : List Value} (h : RcJ w n A len c k root b A2 m c2 g6 f wr) (hB : g6 < B) (ho : wr.ownsRow B e size v j xs) (hg : wr.grownBy w' v.ownBlock) (hb : Below B wr w') : RcJ w n A len c k root b A2 m c2 g6 f w' :=
  { h with box := h.box.append ho hg (by have := h.h6; omega), sbx := h.sbx.append ho hg (by have := h.h6; omega), row := rowIs_append h.row ho hg hB, bel := h.bel.trans (hb.mono (by have := h.h6; omega)) }
theorem RcJ.congr {f' : Nat → Bool} (h : RcJ w n A len c k root b A2 m c2 g6 f wr) (e : f = f') : RcJ w n A len c k root b A2 m c2 g6 f' wr := by subst e; exact h
end
/-- a strategy that stays within R: b is the player -/
structure StIn (n : Nat) (at_ : Nat → Nat → Bool) (OO : List (Nat × Nat)) (b root : Nat) (R : Nat → Prop) : Prop where
  root : R root
  lt : ∀ a, R a → a < n
  pro : b = 1 → ∀ a, R a → ∀ x, at_ x a = true → ∃ y, rpF OO x = some y ∧ y < n ∧ at_ y x = true ∧ R y
  opp : b = 2 → ∀ a, R a → ∃ y, rpF OO a = some y ∧ y < n ∧ at_ y a = true ∧ ∀ x, at_ x y = true → R x
def RetRc (n : Nat) (l : List (Int × Int)) (OO : List (Nat × Nat)) (b root : Nat) (R : Nat → Prop) (w : World) : Ending → World → Prop := fun e w' => ∃ (f : Nat → Bool) (A : Option Addr) (c : Nat), e = .returned (.tuple #[.slice A (nodesB n f).length c, .bool true]) ∧ RI w' A (nodesB n f) ∧ (∀ j, j < n → f j = true → R j) ∧ f root = true ∧ (b = 1 → ClsB n (attQ l) OO f) ∧ Below w.heap.size w w'
theorem fil_succ (f : Nat → Bool) (k : Nat) : nodesB (k + 1) f = nodesB k f ++ (if f k then [(k : Int)] else []) := by
  unfold nodesB
  rw [List.range_succ, List.filter_append, List.map_append]
  congr 1
  cases h : f k <;> simp [h]
theorem info_boolA : (Tryd.prog.info? 4).map (fun i => (i.zero, i.size, i.bytes)) = some (some (.bool false), 1, 1) := by kernel_rfl

set_option maxRecDepth 100000 in
set_option maxHeartbeats 16000000 in
theorem rReached_any (A : Option Addr) (n : Nat) (l : List (Int × Int)) (c k root b : Nat) (A2 : Option Addr) (OO : List (Nat × Nat)) (c2 : Nat) (R : Nat → Prop) (w : World) (hv : InR n l) (hr : RP w A l) (hr2 : RP w A2 (OO.map toI)) (hlo : OO.length ≤ 100000) (hroot : root < n) (hb : b = 1 ∨ b = 2) (hR : StIn n (attQ l) OO b root R) :
    Calls Tryd.prog 84 #[.agg #[.int .i64 (n : Int), .slice A l.length c], .agg #[.int .i64 (k : Int), .int .i64 (root : Int), .int .i64 (b : Int), .slice A2 OO.length c2]] w (RetRc n l OO b root R w) := by
  have hn := hv.1; have hlen := hv.2.1
  have hmk := run_make_row' (P := Tryd.prog) 142 4 (.bool false) 1 Tryd.underlying142 info_boolA rfl .i64 .i64 n (by omega) (by omega)
  have hrt0 : (0 : Int) ≤ (root : Int) := by omega
  have hrt1 : (root : Int) < (n : Int) := by omega
  have HV := Lib.hid hv; have Hr := Lib.hid hr; have Hr2 := Lib.hid hr2; have Hb := Lib.hid hb; have HR := Lib.hid hR
  clear hv hr hr2 hb hR
  go_enter Tryd.func84, Tryd.ntmps84
  go_upto_region 1 with fail
  obtain ⟨W0, hW, k0, k1, hb0, hs0⟩ := boxg24 w 24 64 (.int .i64 (n : Int)) (.slice A l.length c) (.int .i64 (k : Int)) (.int .i64 (root : Int)) (.int .i64 (b : Int)) (.slice A2 OO.length c2)
  rw [hW]
  have c0 := k0.two.1
  have s1 : W0.cell? ⟨w.heap.size + 1, 1, none⟩ = some (.int .i64 (root : Int)) := k1.cell 1
  clear hW
  go_upto_region 2 with fail
  obtain ⟨W1, hW1, r6, hb1⟩ : ∃ W1, W0.alloc (.cells (madeCells #[.bool false] n) 4) = W1 ∧ RowB W1 W0.heap.size n (fun _ => false) ∧ Below W0.heap.size W0 W1 := ⟨_, rfl, World.rowIs_made _ _ _ _, newB _ _⟩
  rw [hW1]
  have s1' := (hb1.cell (lt_of_cell s1)).trans s1
  have hJ1 : RcJ w n A l.length c k root b A2 OO.length c2 W0.heap.size (fun _ => false) W1 := ⟨k0.below hb1 k0.lt, k1.below hb1 k1.lt, r6, endB hb0 hb1, by omega⟩
  obtain ⟨g6, hg6⟩ : ∃ g6, w.heap.size + 2 = g6 := ⟨_, rfl⟩
  rw [hs0, hg6] at hJ1 r6
  rw [hg6]
  have hcr := r6.cell hroot
  have hzr := r6.frozen root
  have hJ2 := (hJ1.put root true).congr (f' := fun j => if j = root then true else false) rfl
  have HJ2 := Lib.hid hJ2
  clear hW1 hJ1 hJ2 r6 k0 k1 hb1 s1 c0 hg6 hmk hb0
  go_upto_block 0 with fail
  obtain ⟨W2, hW2⟩ : ∃ W2, W1.setCell ⟨g6, root, none⟩ (.bool true) = W2 := ⟨_, rfl⟩
  rw [hW2] at HJ2 ⊢
  clear hW2 hcr hzr s1'
  go_cut [7, 8] (fun t7 _ wx => t7 = .bool true ∧ ∃ f, RcJ w n A l.length c k root b A2 OO.length c2 g6 f wx ∧ (∀ j, f j = true → R j) ∧ f root = true ∧ (b = 1 → ClsB n (attQ l) OO f))
  case first =>
    go_wp2_with fail
    go_loopw [7, 8] (fun t7 t8 wx => ∃ (r : Nat) (f : Nat → Bool), t7 = .bool true ∧ r ≤ n + 1 ∧ t8 = .int .i64 (r : Int) ∧ RcJ w n A l.length c k root b A2 OO.length c2 g6 f wx ∧ (∀ j, f j = true → R j) ∧ f root = true ∧ (b = 1 → RnB n (attQ l) OO R root f r)) (fun _ t8 _ => n + 1 - (intOf t8).toNat)
    case atStart => exact ⟨0, _, rfl, Nat.zero_le _, rfl, HJ2.out, (RnB.start (n := n) (at_ := attQ l) (OO := OO) hroot HR.out.root).1, (RnB.start (n := n) (at_ := attQ l) (OO := OO) (R := R) hroot HR.out.root).2.1, fun _ => RnB.start hroot HR.out.root⟩
    case round =>
      obtain ⟨r, f0, rfl, hrn, rfl, hJ, hfR, hfr, hrn1⟩ := hrel
      have HJ := Lib.hid hJ; have HfR := Lib.hid hfR; have Hfr := Lib.hid hfr; have Hrn1 := Lib.hid hrn1
      have d0 := hJ.box.two.1
      by_cases hlt : r ≤ n
      case neg =>
        have hre : r = n + 1 := by omega
        have Hcl : RowKit.Hid (b = 1 → ClsB n (attQ l) OO f0) := Lib.hid fun e => by
          have := hrn1 e
          rw [hre] at this
          exact this.cls
        clear hJ hfR hfr hrn1 hre
        go_wp2_with fail
        go_meet
        exact ⟨rfl, f0, HJ.out, HfR.out, Hfr.out, Hcl.out⟩
      case pos =>
      clear hJ hfR hfr hrn1
      go_wp2_with fail
      go_loopw [7, 9] (fun t7 t9 wx => ∃ (a : Nat) (f : Nat → Bool), t7 = .bool true ∧ a ≤ n ∧ t9 = .int .i64 (a : Int) ∧ RcJ w n A l.length c k root b A2 OO.length c2 g6 f wx ∧ (∀ j, f j = true → R j) ∧ f root = true ∧ (b = 1 → RdB n (attQ l) OO R f0 f a)) (fun _ t9 _ => n - (intOf t9).toNat)
      case atStart => exact ⟨0, f0, rfl, Nat.zero_le _, rfl, HJ.out, HfR.out, Hfr.out, fun _ => RdB.start HfR.out⟩
      case round =>
        obtain ⟨a, f, rfl, ha, rfl, hJ, hfR, hfr, hrd⟩ := hrel
        have HJ5 := Lib.hid hJ; have HfR5 := Lib.hid hfR; have Hfr5 := Lib.hid hfr; have Hrd := Lib.hid hrd
        have d0 := hJ.box.two.1
        by_cases han : a < n
        case neg =>
          have hae : a = n := by omega
          have Hnx : RowKit.Hid (b = 1 → RnB n (attQ l) OO R root f (r + 1)) := Lib.hid fun e => by
            have h := hrd e
            rw [hae] at h
            exact h.next (Hrn1.out e)
          clear hJ hfR hfr hrd hae
          go_wp2_with fail
          go_roundw
          case rel => exact ⟨r + 1, f, rfl, by omega, by go_num, HJ5.out, HfR5.out, Hfr5.out, Hnx.out⟩
          case measure => simp [intOf]; omega
        case pos =>
        have han' : (a : Int) < (n : Int) := by omega
        have hca := hJ.row.cell han
        obtain ⟨fa, hfa⟩ : ∃ fa, f a = fa := ⟨_, rfl⟩
        rw [hfa] at hca
        have s2 : wr.cell? ⟨w.heap.size + 1, 2, none⟩ = some (.int .i64 (b : Int)) := hJ.sbx.cell 2
        have Hfa := Lib.hid hfa
        clear hfR hfr hrd hfa
        cases fa
        case false =>
          have Hsk : RowKit.Hid (b = 1 → RdB n (attQ l) OO R f0 f (a + 1)) := Lib.hid fun e => (Hrd.out e).skip Hfa.out
          clear hJ s2
          go_wp2_with fail
          go_roundw
          case rel => exact ⟨a + 1, f, rfl, by omega, by go_num, HJ5.out, HfR5.out, Hfr5.out, Hsk.out⟩
          case measure => simp [intOf]; omega
        case true =>
        have hRa := HfR5.out a Hfa.out
        have c1 := hJ.box.two.2.1
        have s0 : wr.cell? ⟨w.heap.size + 1, 0, none⟩ = some (.int .i64 (k : Int)) := hJ.sbx.cell 0
        have s1 : wr.cell? ⟨w.heap.size + 1, 1, none⟩ = some (.int .i64 (root : Int)) := hJ.sbx.cell 1
        have s3 : wr.cell? ⟨w.heap.size + 1, 3, none⟩ = some (.slice A2 OO.length c2) := hJ.sbx.cell 3
        by_cases hb2 : b = 2
        case pos =>
          have hbq : ((b : Int) == 2) = true := by rw [beq_iff_eq]; omega
          have Hb2 := Lib.hid hb2
          obtain ⟨y, hy, hyn, hya, hyR⟩ := HR.out.opp hb2 a hRa
          have hrep := rReply_any (k : Int) (root : Int) (b : Int) A2 OO c2 a wr (Hr2.out.below hJ.bel) hlo
          rw [rpI_some hy] at hrep
          have Hrep := Lib.hid hrep; have HyR := Lib.hid hyR; have Hya := Lib.hid hya
          have hszr := hJ.bel.size
          clear hJ hrep hyR hy hya hb2
          go_wp2_with fail
          refine Hrep.out.mono ?_
          rintro e w5 ⟨rfl, hb5⟩
          have hJ5 := HJ5.out.below hb5
          have HJ6 := Lib.hid hJ5
          have d0 := hJ5.box.two.1; have d1 := hJ5.box.two.2.1
          have hhas := gnHas_any A (n : Int) l c (y : Int) (a : Int) w5 (Hr.out.below hJ5.bel) hlen
          rw [hasB_att, Hya.out] at hhas
          have Hhas := Lib.hid hhas
          have hy0 : decide ((y : Int) < 0) = false := by rw [decide_eq_false_iff_not]; omega
          clear hJ5 hhas hb5 s0 s1 s2 s3 c1 Hrep HJ5 hca
          go_wp2_with fail
          refine Hhas.out.mono ?_
          rintro e w6 ⟨rfl, hb6⟩
          have HJ7 := Lib.hid (HJ6.out.below hb6)
          clear hb6 d0 d1 Hhas HJ6 hy0
          go_wp2_with fail
          go_loopw [11] (fun t11 wx => ∃ (x : Nat) (f' : Nat → Bool), x ≤ n ∧ t11 = .int .i64 (x : Int) ∧ RcJ w n A l.length c k root b A2 OO.length c2 g6 f' wx ∧ (∀ j, f' j = true → R j) ∧ f' root = true) (fun t11 _ => n - (intOf t11).toNat)
          case atStart => exact ⟨0, f, Nat.zero_le _, rfl, HJ7.out, HfR5.out, Hfr5.out⟩
          case round =>
            obtain ⟨x, f', hxn, rfl, hJ, hfR, hfr⟩ := hrel
            have HJ8 := Lib.hid hJ; have HfR8 := Lib.hid hfR; have Hfr8 := Lib.hid hfr
            have d0 := hJ.box.two.1; have d1 := hJ.box.two.2.1
            by_cases hxl : x < n
            case neg =>
              clear hJ hfR hfr d1
              go_wp2_with fail
              go_roundw
              case rel => exact ⟨a + 1, f', rfl, by omega, by go_num, HJ8.out, HfR8.out, Hfr8.out, fun e => by have := Hb2.out; omega⟩
              case measure => simp [intOf]; omega
            case pos =>
            have hxl' : (x : Int) < (n : Int) := by omega
            have hcx := hJ.row.cell hxl
            have hzx := hJ.row.frozen x
            obtain ⟨fx, hfx⟩ : ∃ fx, f' x = fx := ⟨_, rfl⟩
            rw [hfx] at hcx
            have Hfx := Lib.hid hfx
            have hhas := gnHas_any A (n : Int) l c (x : Int) (y : Int) wr (Hr.out.below hJ.bel) hlen
            rw [hasB_att] at hhas
            clear hfR hfr hfx
            cases fx
            case true =>
              have HJ9 := Lib.hid ((hJ.put x true).congr (f' := f') (by funext j; by_cases e : j = x; rw [if_pos e, e, Hfx.out]; rw [if_neg e]))
              clear hJ hhas d1
              go_wp2_with fail
              go_roundw
              case rel => exact ⟨x + 1, f', by omega, by go_num, HJ9.out, HfR8.out, Hfr8.out⟩
              case measure => simp [intOf]; omega
            case false =>
              obtain ⟨h2, hh2⟩ : ∃ h2, attQ l x y = h2 := ⟨_, rfl⟩
              rw [hh2] at hhas
              have Hhas := Lib.hid hhas; have Hh2 := Lib.hid hh2
              have hszx := hJ.bel.size
              clear hJ hhas hh2
              go_wp2_with fail
              refine Hhas.out.mono ?_
              rintro e w7 ⟨rfl, hb7⟩
              have hJ9 := HJ8.out.below hb7
              have hcx := hJ9.row.cell hxl
              have hzx := hJ9.row.frozen x
              have HJ9 := Lib.hid (hJ9.put x h2)
              have HfR9 : RowKit.Hid (∀ j, (fun j => if j = x then h2 else f' j) j = true → R j) := Lib.hid fun j hj => by
                dsimp only at hj
                split at hj
                · rename_i e; rw [e]; exact HyR.out x (by rw [Hh2.out]; exact hj)
                · exact HfR8.out j hj
              have Hfr9 : RowKit.Hid ((fun j => if j = x then h2 else f' j) root = true) := Lib.hid (by
                dsimp only
                split
                · rename_i e; rw [← e, Hfr8.out] at Hfx; exact absurd Hfx.out (by decide)
                · exact Hfr8.out)
              clear hJ9 hb7 Hhas d0 d1
              go_wp2_with fail
              go_roundw
              case rel => exact ⟨x + 1, _, by omega, by go_num, HJ9.out, HfR9.out, Hfr9.out⟩
              case measure => simp [intOf]; omega
        case neg =>
        have hb1 : b = 1 := by have := Hb.out; omega
        have hbq : ((b : Int) == 2) = false := by rw [beq_eq_false_iff_ne]; omega
        have Hb1 := Lib.hid hb1
        have Hrc0 := Lib.hid (RdC.start (Hrd.out hb1) Hfa.out)
        clear hb1 hb2
        clear hJ s0 s1 s3 c1
        go_wp2_with fail
        go_loopw [7, 12] (fun t7 t12 wx => ∃ (x : Nat) (f' : Nat → Bool), t7 = .bool true ∧ x ≤ n ∧ t12 = .int .i64 (x : Int) ∧ RcJ w n A l.length c k root b A2 OO.length c2 g6 f' wx ∧ f' root = true ∧ RdC n (attQ l) OO R f0 f' a x) (fun _ t12 _ => n - (intOf t12).toNat)
        case atStart => exact ⟨0, f, rfl, Nat.zero_le _, rfl, HJ5.out, Hfr5.out, Hrc0.out⟩
        case round =>
          obtain ⟨x, f', rfl, hxn, rfl, hJ, hfr, hrc⟩ := hrel
          have HJ8 := Lib.hid hJ; have Hfr8 := Lib.hid hfr; have Hrc := Lib.hid hrc
          have d0 := hJ.box.two.1; have d1 := hJ.box.two.2.1
          by_cases hxl : x < n
          case neg =>
            have hxe : x = n := by omega
            have Hfin : RowKit.Hid (RdB n (attQ l) OO R f0 f' (a + 1)) := Lib.hid (by rw [hxe] at hrc; exact hrc.fin fun x a h => (att_lt HV.out (attQ_iff.1 h)).1)
            clear hJ hfr hrc d1 hxe
            go_wp2_with fail
            go_roundw
            case rel => exact ⟨a + 1, f', rfl, by omega, by go_num, HJ8.out, Hfin.out.inR, Hfr8.out, fun _ => Hfin.out⟩
            case measure => simp [intOf]; omega
          case pos =>
          have hxl' : (x : Int) < (n : Int) := by omega
          have hhas := gnHas_any A (n : Int) l c (x : Int) (a : Int) wr (Hr.out.below hJ.bel) hlen
          rw [hasB_att] at hhas
          obtain ⟨h2, hh2⟩ : ∃ h2, attQ l x a = h2 := ⟨_, rfl⟩
          rw [hh2] at hhas
          have Hhas := Lib.hid hhas; have Hh2 := Lib.hid hh2
          clear hJ hfr hrc hhas hh2
          go_wp2_with fail
          refine Hhas.out.mono ?_
          rintro e w5 ⟨rfl, hb5⟩
          have hJ6 := HJ8.out.below hb5
          have HJ6 := Lib.hid hJ6
          cases h2
          case false =>
            have Hsk := Lib.hid (Hrc.out.skip Hh2.out)
            clear hJ6 hb5 d0 d1 Hhas
            go_wp2_with fail
            go_roundw
            case rel => exact ⟨x + 1, f', rfl, by omega, by go_num, HJ6.out, Hfr8.out, Hsk.out⟩
            case measure => simp [intOf]; omega
          case true =>
          obtain ⟨y, hy, hyn, hya, hyR⟩ := HR.out.pro Hb1.out a hRa x Hh2.out
          have hrep := rReply_any (k : Int) (root : Int) (b : Int) A2 OO c2 x w5 (Hr2.out.below hJ6.bel) hlo
          rw [rpI_some hy] at hrep
          have s0 : w5.cell? ⟨w.heap.size + 1, 0, none⟩ = some (.int .i64 (k : Int)) := hJ6.sbx.cell 0
          have s1 : w5.cell? ⟨w.heap.size + 1, 1, none⟩ = some (.int .i64 (root : Int)) := hJ6.sbx.cell 1
          have s2 : w5.cell? ⟨w.heap.size + 1, 2, none⟩ = some (.int .i64 (b : Int)) := hJ6.sbx.cell 2
          have s3 : w5.cell? ⟨w.heap.size + 1, 3, none⟩ = some (.slice A2 OO.length c2) := hJ6.sbx.cell 3
          have Hrep := Lib.hid hrep; have Hya := Lib.hid hya; have Hput := Lib.hid (Hrc.out.put han Hh2.out hy hyR)
          clear hJ6 hrep hy hya hyR hb5 d0 d1 Hhas HJ8
          go_wp2_with fail
          refine Hrep.out.mono ?_
          rintro e w6 ⟨rfl, hb6⟩
          have hJ7 := HJ6.out.below hb6
          have HJ7 := Lib.hid hJ7
          have d0 := hJ7.box.two.1; have d1 := hJ7.box.two.2.1
          have hhas := gnHas_any A (n : Int) l c (y : Int) (x : Int) w6 (Hr.out.below hJ7.bel) hlen
          rw [hasB_att, Hya.out] at hhas
          have Hhas := Lib.hid hhas
          have hy0 : decide ((0 : Int) ≤ (y : Int)) = true := by rw [decide_eq_true_iff]; omega
          have hyi : (0 : Int) ≤ (y : Int) := by omega
          have hyl : (y : Int) < (n : Int) := by omega
          clear hJ7 hhas hb6 s0 s1 s2 s3 Hrep HJ6
          go_wp2_with fail
          refine Hhas.out.mono ?_
          rintro e w7 ⟨rfl, hb7⟩
          have hJ8 := HJ7.out.below hb7
          have hcy := hJ8.row.cell hyn
          have hzy := hJ8.row.frozen y
          have HJ9 := Lib.hid (hJ8.put y true)
          have Hfr9 : RowKit.Hid ((fun j => if j = y then true else f' j) root = true) := Lib.hid (by by_cases e : root = y; exact if_pos e; exact (if_neg e).trans Hfr8.out)
          clear hJ8 hb7 d0 d1 Hhas HJ7
          go_wp2_with fail
          go_roundw
          case rel => exact ⟨x + 1, _, rfl, by omega, by go_num, HJ9.out, Hfr9.out, Hput.out⟩
          case measure => simp [intOf]; omega
  obtain ⟨rfl, f, hJ, hfR, hfr, hcl⟩ := hcut
  have HJ := Lib.hid hJ; have HfR := Lib.hid hfR; have Hfr := Lib.hid hfr; have Hcl := Lib.hid hcl
  have h6s := hJ.row.lt
  obtain ⟨M, hM⟩ : ∃ M, wc.heap.size = M := ⟨_, rfl⟩
  have hMr : M ≤ wc.heap.size := by omega
  rw [hM] at h6s
  clear hJ hfR hfr hcl hM
  go_wp2_with fail
  go_loopw [14, 15] (fun v i wr => ∃ x : Nat, x ≤ n ∧ i = .int .i64 (x : Int) ∧ OwnI wr M v (nodesB x f) ∧ RcJ w n A l.length c k root b A2 OO.length c2 g6 f wr ∧ M ≤ wr.heap.size) (fun _ i _ => n - (intOf i).toNat)
  case atStart => exact ⟨0, Nat.zero_le _, rfl, OwnI.nil _ _, HJ.out, hMr⟩
  case round =>
    obtain ⟨x, hx, rfl, hown, hJ, hMs⟩ := hrel
    have Hown := Lib.hid hown; have HJ8 := Lib.hid hJ
    have d0 := hJ.box.two.1
    by_cases hxl : x < n
    case neg =>
      have hxe : x = n := by omega
      obtain ⟨A8, c8, e8, hri8, -⟩ := OwnI.form hown
      rw [hxe] at e8 hri8
      subst e8
      have Hri8 := Lib.hid hri8
      clear hown hJ hri8 hxe
      go_wp2_with fail
      go_ret2
      exact ⟨f, A8, c8, rfl, Hri8.out, fun j _ => HfR.out j, Hfr.out, Hcl.out, HJ8.out.bel⟩
    case pos =>
    have hxl' : (x : Int) < (n : Int) := by omega
    have hcx := hJ.row.cell hxl
    have hsu := fil_succ f x
    have hl0 : (nodesB x f).length ≤ 1000000 := by have := nodes_len2 x f; omega
    obtain ⟨fx, hfx⟩ : ∃ fx, f x = fx := ⟨_, rfl⟩
    rw [hfx] at hcx hsu
    clear hown hJ hfx
    cases fx
    case false =>
      have Hsu : RowKit.Hid (nodesB (x + 1) f = nodesB x f) := Lib.hid (by rw [hsu]; simp)
      clear hsu
      go_wp2_with fail
      go_roundw
      case rel => exact ⟨x + 1, by omega, by go_num, by rw [Hsu.out]; exact Hown.out, HJ8.out, hMs⟩
      case measure => simp [intOf]; omega
    case true =>
      have Hsu : RowKit.Hid (nodesB (x + 1) f = nodesB x f ++ [(x : Int)]) := Lib.hid (by rw [hsu]; simp)
      clear hsu
      go_wp2_with (at_builtin; refine wpList_appI (by rfl) _ _ (by rfl) wr M _ (nodesB x f) (x : Int) Hown.out (by rfl) (by rfl) hl0 hMs ?_; intro v' w10 hown10 hb10 hg10; (have Ho10 := Lib.hid hown10); (have HJ10 := Lib.hid (HJ8.out.append h6s Hown.out hg10 hb10)); (have hM10 := Nat.le_trans hMs hb10.size); clear hown10 hb10 hg10)
      go_roundw
      case rel => exact ⟨x + 1, by omega, by go_num, by rw [Hsu.out]; exact Ho10.out, HJ10.out, hM10⟩
      case measure => simp [intOf]; omega
end Go.Proofs.YtncimnfhfomddaaDoor

/- The reference of layer 25: loops, at a strategy whose ranks descend. -/
namespace Go.Proofs.YtncimnfhfomddaaDoor
open Go.ChangeShapes Go.WideShapes Go.ChangeAt Go.RowKit

theorem allS_take {f : Nat → Bool} {n q : Nat} (h : q < (nodesB n f).length) : ∃ a : Nat, a < n ∧ f a = true ∧ (nodesB n f)[q] = (a : Int) ∧ ((List.range n).filter f).take (q + 1) = ((List.range n).filter f).take q ++ [a] := by
  have hl : q < ((List.range n).filter f).length := by unfold nodesB at h; rwa [List.length_map] at h
  refine ⟨((List.range n).filter f)[q], ?_, ?_, ?_, ?_⟩
  · exact List.mem_range.1 (List.mem_filter.1 (List.getElem_mem hl)).1
  · exact (List.mem_filter.1 (List.getElem_mem hl)).2
  · simp [nodesB]
  · rw [List.take_succ_eq_append_getElem hl]

set_option maxRecDepth 100000 in
set_option maxHeartbeats 16000000 in
theorem rLoops_any (A : Option Addr) (n : Nat) (l : List (Int × Int)) (c k root b : Nat) (A2 : Option Addr) (OO : List (Nat × Nat)) (c2 : Nat) (f : Nat → Bool) (rk : Nat → Nat) (AF : Option Addr) (cf : Nat) (w : World) (hv : InR n l) (hr : RP w A l) (hr2 : RP w A2 (OO.map toI)) (hlo : OO.length ≤ 100000) (hrf : RI w AF (nodesB n f)) (hk : RkB n (attQ l) OO f rk) :
    Calls Tryd.prog 85 #[.agg #[.int .i64 (n : Int), .slice A l.length c], .agg #[.int .i64 (k : Int), .int .i64 (root : Int), .int .i64 (b : Int), .slice A2 OO.length c2], .slice AF (nodesB n f).length cf] w (RetB (.bool false) w) := by
  have hn := hv.1; have hlen := hv.2.1
  have hmk := run_make_row' (P := Tryd.prog) 142 4 (.bool false) 1 Tryd.underlying142 info_boolA rfl .i64 .i64 n (by omega) (by omega)
  have hF0 : ((List.range n).filter f).length = (nodesB n f).length := by unfold nodesB; rw [List.length_map]
  have hFat := fun q (h : q < (nodesB n f).length) => allS_take h
  have hFl := nodes_len2 n f
  obtain ⟨F, hF⟩ : ∃ F, nodesB n f = F := ⟨_, rfl⟩
  rw [hF] at hrf hF0 hFl
  have hFat2 : ∀ q (h : q < F.length), ∃ a : Nat, a < n ∧ f a = true ∧ F[q] = (a : Int) ∧ ((List.range n).filter f).take (q + 1) = ((List.range n).filter f).take q ++ [a] := by subst hF; exact hFat
  rw [hF]
  have HV := Lib.hid hv; have Hr := Lib.hid hr; have Hr2 := Lib.hid hr2; have Hrf := Lib.hid hrf; have Hk := Lib.hid hk; have HF0 := Lib.hid hF0; have HFat := Lib.hid hFat2
  clear hv hr hr2 hrf hk hF0 hFat hFat2 hF
  go_enter Tryd.func85, Tryd.ntmps85
  go_upto_region 1 with fail
  obtain ⟨W0, hW, k0, k1, hb0, hs0⟩ := boxg24 w 24 64 (.int .i64 (n : Int)) (.slice A l.length c) (.int .i64 (k : Int)) (.int .i64 (root : Int)) (.int .i64 (b : Int)) (.slice A2 OO.length c2)
  rw [hW]
  have c0 := k0.two.1
  clear hW
  go_upto_region 2 with fail
  obtain ⟨W1, hW1, r6, hb1⟩ : ∃ W1, W0.alloc (.cells (madeCells #[.bool false] n) 4) = W1 ∧ RowB W1 W0.heap.size n (fun _ => false) ∧ Below W0.heap.size W0 W1 := ⟨_, rfl, World.rowIs_made _ _ _ _, newB _ _⟩
  rw [hW1]
  have hJ1 : RcJ w n A l.length c k root b A2 OO.length c2 W0.heap.size (fun _ => false) W1 := ⟨k0.below hb1 k0.lt, k1.below hb1 k1.lt, r6, endB hb0 hb1, by omega⟩
  obtain ⟨g6, hg6⟩ : ∃ g6, w.heap.size + 2 = g6 := ⟨_, rfl⟩
  rw [hs0, hg6] at hJ1 r6
  rw [hg6]
  have HJ2 := Lib.hid hJ1
  clear hW1 hJ1 r6 k0 k1 hb1 c0 hg6 hmk hb0
  go_upto_block 0 with fail
  go_cut [8] (fun _ wx => ∃ s, RcJ w n A l.length c k root b A2 OO.length c2 g6 s wx ∧ ∀ j, j < n → f j = true → s j = true)
  case first =>
    go_wp2_with fail
    go_loopw [8] (fun t8 wx => ∃ (r : Nat) (s : Nat → Bool), r ≤ n + 1 ∧ t8 = .int .i64 (r : Int) ∧ RcJ w n A l.length c k root b A2 OO.length c2 g6 s wx ∧ SetB n f s r) (fun t8 _ => n + 1 - (intOf t8).toNat)
    case atStart => exact ⟨0, _, Nat.zero_le _, rfl, HJ2.out, .inr (Nat.zero_le _)⟩
    case round =>
      obtain ⟨r, s0, hrn, rfl, hJ, hset⟩ := hrel
      have HJ := Lib.hid hJ; have Hset := Lib.hid hset
      have d0 := hJ.box.two.1
      by_cases hlt : r ≤ n
      case neg =>
        have hre : r = n + 1 := by omega
        have Hall : RowKit.Hid (∀ j, j < n → f j = true → s0 j = true) := Lib.hid (by rw [hre] at hset; exact hset.all)
        clear hJ hset hre
        go_wp2_with fail
        go_meet
        exact ⟨s0, HJ.out, Hall.out⟩
      case pos =>
      clear hJ hset
      go_wp2_with fail
      go_loopw [26] (fun t26 wx => ∃ (q : Nat) (s : Nat → Bool), q ≤ F.length ∧ t26 = .int .i64 (q : Int) ∧ RcJ w n A l.length c k root b A2 OO.length c2 g6 s wx ∧ LpB n (attQ l) OO s0 s (((List.range n).filter f).take q)) (fun t26 _ => F.length - (intOf t26).toNat)
      case atStart => exact ⟨0, s0, Nat.zero_le _, rfl, HJ.out, LpB.start⟩
      case round =>
        obtain ⟨q, s, hq, rfl, hJ, hlp⟩ := hrel
        have HJ5 := Lib.hid hJ; have Hlp := Lib.hid hlp
        have d0 := hJ.box.two.1
        by_cases hqy : q < F.length
        case neg =>
          have Hnx : RowKit.Hid (SetB n f s (r + 1)) := Lib.hid (by
            rw [List.take_of_length_le (by rw [HF0.out]; omega)] at hlp
            exact hlp.next Hk.out Hset.out)
          clear hJ hlp
          go_wp2_with fail
          go_roundw
          case rel => exact ⟨r + 1, s, by omega, by go_num, HJ5.out, Hnx.out⟩
          case measure => simp [intOf]; omega
        case pos =>
        obtain ⟨a, han, hfa, hFa, htk⟩ := HFat.out q hqy
        obtain ⟨b7, o7, rfl, hc7⟩ := (Hrf.out.below hJ.bel).at_ hqy
        rw [hFa] at hc7
        have hq0 : (0 : Int) ≤ (q : Int) := by omega
        have Htk := Lib.hid htk
        clear hlp htk hFa
        go_upto_block 4 with fail
        obtain ⟨W5, hW5⟩ : ∃ W5, W5 = wr := ⟨_, rfl⟩
        subst hW5
        have hJw := hJ
        have HJw := Lib.hid hJw
        clear hJ hJw hc7 d0
        go_cut [11] (fun t11 wx => ∃ v : Bool, t11 = .bool v ∧ ((∀ x, attQ l x a = true → ∀ y, rpF OO x = some y → s y = true) → v = true) ∧ Below W5.heap.size W5 wx)
        case first =>
          go_wp2_with fail
          go_loopw [11, 12] (fun t11 t12 wx => ∃ (v : Bool) (x : Nat), x ≤ n ∧ t11 = .bool v ∧ t12 = .int .i64 (x : Int) ∧ ((∀ x', x' < x → attQ l x' a = true → ∀ y, rpF OO x' = some y → s y = true) → v = true) ∧ Below W5.heap.size W5 wx) (fun _ t12 _ => n - (intOf t12).toNat)
          case atStart => exact ⟨true, 0, Nat.zero_le _, rfl, rfl, fun _ => rfl, Below.refl _ _⟩
          case round =>
            obtain ⟨v, x, hx, rfl, rfl, hvv, hbr⟩ := hrel
            have hJ := HJw.out.below hbr
            have d0 := hJ.box.two.1; have d1 := hJ.box.two.2.1
            have Hvv := Lib.hid hvv; have Hbr := Lib.hid hbr
            have hsz := hbr.size
            by_cases hxl : x < n
            case neg =>
              have Hend : RowKit.Hid ((∀ x, attQ l x a = true → ∀ y, rpF OO x = some y → s y = true) → v = true) := Lib.hid fun h => hvv fun x' _ => h x'
              clear hJ hvv hbr d1
              go_wp2_with fail
              go_meet
              exact ⟨v, rfl, Hend.out, Hbr.out⟩
            case pos =>
            have hxl' : (x : Int) < (n : Int) := by omega
            have hhas := gnHas_any A (n : Int) l c (x : Int) (a : Int) wr (Hr.out.below hJ.bel) hlen
            rw [hasB_att] at hhas
            obtain ⟨h2, hh2⟩ : ∃ h2, attQ l x a = h2 := ⟨_, rfl⟩
            rw [hh2] at hhas
            have Hhas := Lib.hid hhas; have Hh2 := Lib.hid hh2
            clear hJ hvv hbr hhas hh2
            go_wp2_with fail
            refine Hhas.out.mono ?_
            rintro e w6 ⟨rfl, hb6⟩
            have hbr6 := Hbr.out.trans (hb6.mono hsz)
            have Hbr6 := Lib.hid hbr6
            have hsz6 := hbr6.size
            have hJ6 := HJw.out.below hbr6
            cases h2
            case false =>
              have Hn : RowKit.Hid ((∀ x', x' < x + 1 → attQ l x' a = true → ∀ y, rpF OO x' = some y → s y = true) → v = true) := Lib.hid fun h => Hvv.out fun x' hx' => h x' (by omega)
              clear hJ6 hbr6 hb6 Hhas d0 d1
              go_wp2_with fail
              go_roundw
              case rel => exact ⟨v, x + 1, by omega, rfl, by go_num, Hn.out, Hbr6.out⟩
              case measure => simp [intOf]; omega
            case true =>
            obtain ⟨y, hy, hyn, hfy, -⟩ := Hk.out.step a han hfa x Hh2.out
            cases v
            case false =>
              have Hn : RowKit.Hid ((∀ x', x' < x + 1 → attQ l x' a = true → ∀ y, rpF OO x' = some y → s y = true) → false = true) := Lib.hid fun h => Hvv.out fun x' hx' => h x' (by omega)
              clear hJ6 hbr6 hb6 Hhas d0 d1 hy
              go_wp2_with fail
              go_roundw
              case rel => exact ⟨false, x + 1, by omega, rfl, by go_num, Hn.out, Hbr6.out⟩
              case measure => simp [intOf]; omega
            case true =>
            have hrep := rReply_any (k : Int) (root : Int) (b : Int) A2 OO c2 x w6 (Hr2.out.below hJ6.bel) hlo
            rw [rpI_some hy] at hrep
            have s0' : w6.cell? ⟨w.heap.size + 1, 0, none⟩ = some (.int .i64 (k : Int)) := hJ6.sbx.cell 0
            have s1' : w6.cell? ⟨w.heap.size + 1, 1, none⟩ = some (.int .i64 (root : Int)) := hJ6.sbx.cell 1
            have s2' : w6.cell? ⟨w.heap.size + 1, 2, none⟩ = some (.int .i64 (b : Int)) := hJ6.sbx.cell 2
            have s3' : w6.cell? ⟨w.heap.size + 1, 3, none⟩ = some (.slice A2 OO.length c2) := hJ6.sbx.cell 3
            have Hrep := Lib.hid hrep; have Hy := Lib.hid hy
            clear hJ6 hbr6 hb6 Hhas d0 d1 hrep hy
            go_wp2_with fail
            refine Hrep.out.mono ?_
            rintro e w7 ⟨rfl, hb7⟩
            have hbr7 := Hbr6.out.trans (hb7.mono hsz6)
            have hcy := (HJw.out.below hbr7).row.cell hyn
            obtain ⟨sy, hsy⟩ : ∃ sy, s y = sy := ⟨_, rfl⟩
            rw [hsy] at hcy
            have hy0 : (0 : Int) ≤ (y : Int) := by omega
            have hyl : (y : Int) < (n : Int) := by omega
            have Hn : RowKit.Hid ((∀ x', x' < x + 1 → attQ l x' a = true → ∀ y, rpF OO x' = some y → s y = true) → sy = true) := Lib.hid fun h => by
              rw [← hsy]; exact h x (Nat.lt_succ_self x) Hh2.out y Hy.out
            have Hbr7 := Lib.hid hbr7
            clear hb7 hbr7 hsy s0' s1' s2' s3' Hrep
            go_wp2_with fail
            go_roundw
            case rel => exact ⟨sy, x + 1, by omega, rfl, by go_num, Hn.out, Hbr7.out⟩
            case measure => simp [intOf]; omega
        obtain ⟨v, rfl, hvv, hb9⟩ := hcut
        have hJ9 := HJw.out.below hb9
        have hca := hJ9.row.cell han
        have hza := hJ9.row.frozen a
        obtain ⟨sa, hsa⟩ : ∃ sa, s a = sa := ⟨_, rfl⟩
        rw [hsa] at hca
        have ha0 : (0 : Int) ≤ (a : Int) := by omega
        have hal : (a : Int) < (n : Int) := by omega
        have Hmore : RowKit.Hid (LpB n (attQ l) OO s0 (fun j => if j = a then (sa || v) else s j) (((List.range n).filter f).take (q + 1))) := Lib.hid (by
          rw [Htk.out]
          exact Hlp.out.more (fun h => by rw [hvv h, Bool.or_true]) (fun h => by rw [← hsa, h, Bool.true_or]))
        have HJ10 := Lib.hid (hJ9.put a (sa || v))
        clear hvv hb9 hJ9 hsa
        cases sa
        case false =>
          rw [Bool.false_or] at Hmore HJ10
          go_wp2_with fail
          go_roundw
          case rel => exact ⟨q + 1, _, by omega, by go_num, HJ10.out, Hmore.out⟩
          case measure => simp [intOf]; omega
        case true =>
          rw [Bool.true_or] at Hmore HJ10
          go_wp2_with fail
          go_roundw
          case rel => exact ⟨q + 1, _, by omega, by go_num, HJ10.out, Hmore.out⟩
          case measure => simp [intOf]; omega
  obtain ⟨s, hJ, hall⟩ := hcut
  have HJ := Lib.hid hJ; have Hall := Lib.hid hall
  have hrF := Hrf.out.below hJ.bel
  have HrF := Lib.hid hrF
  clear hJ hall hrF
  go_wp2_with fail
  go_loopw [62] (fun t62 wx => ∃ q : Nat, q ≤ F.length ∧ t62 = .int .i64 (q : Int) ∧ wx = wc) (fun t62 _ => F.length - (intOf t62).toNat)
  case atStart => exact ⟨0, Nat.zero_le _, rfl, rfl⟩
  case round =>
    obtain ⟨q, hq, rfl, rfl⟩ := hrel
    by_cases hqy : q < F.length
    case neg =>
      go_wp2_with fail
      go_ret
      exact ⟨rfl, HJ.out.bel⟩
    case pos =>
    obtain ⟨a, han, hfa, hFa, -⟩ := HFat.out q hqy
    obtain ⟨b7, o7, rfl, hc7⟩ := HrF.out.at_ hqy
    rw [hFa] at hc7
    have hca := HJ.out.row.cell han
    rw [Hall.out a han hfa] at hca
    have ha0 : (0 : Int) ≤ (a : Int) := by omega
    have hal : (a : Int) < (n : Int) := by omega
    clear hFa
    go_wp2_with fail
    go_roundw
    case rel => exact ⟨q + 1, by omega, by go_num, trivial⟩
    case measure => simp [intOf]; omega
end Go.Proofs.YtncimnfhfomddaaDoor

/- The reference of layer 25: Wins; Check, at the strategies that Solve returns. -/
namespace Go.Proofs.YtncimnfhfomddaaDoor
open Go.ChangeShapes Go.WideShapes Go.ChangeAt Go.RowKit

/-- what the reference's Check asks of a strategy -/
structure ChkOk (n : Nat) (l : List (Int × Int)) (k b root : Nat) (OO : List (Nat × Nat)) : Prop where
  none : b = 2 → k = 2 → OO = [] ∧ somB n l root = false
  some : ¬ (b = 2 ∧ k = 2) → ∃ R : Nat → Prop, StIn n (attQ l) OO b root R ∧
    (b = 1 → k = 1 → ∃ rk, ∀ f, (∀ j, j < n → f j = true → R j) → ClsB n (attQ l) OO f → RkB n (attQ l) OO f rk) ∧
    (k = 2 → ∀ f, (∀ j, j < n → f j = true → R j) → freB l (nodesB n f) = true)
theorem AnOk.stIn {n root : Nat} {at_ : Nat → Nat → Bool} {pick : Nat → Nat} {P : Nat → Prop} {R : List Nat} {OO : List (Nat × Nat)} (h : AnOk n at_ pick P root R OO) (hpa : ∀ a, P a → ∀ x, at_ x a = true → at_ (pick x) x = true) : StIn n at_ OO 1 root (fun a => a ∈ R) where
  root := h.root
  lt := fun a ha => (h.ok a ha).1
  pro := fun _ a ha x hx => by
    have h1 := h.all a ha x hx
    have h2 := (h.o _ h1).2.1
    exact ⟨pick x, rpF_mem h.asc h1, (h.ok _ h2).1, hpa a (h.ok a ha).2 x hx, h2⟩
  opp := fun e => by cases e
theorem OgOk.stIn {n root : Nat} {l : List (Int × Int)} {R : List Nat} {OO : List (Nat × Nat)} (hv : InR n l) (h : OgOk n l root R OO) : StIn n (attQ l) OO 2 root (fun a => a ∈ R) where
  root := h.root
  lt := fun a ha => (h.ok a ha).1
  pro := fun e => by cases e
  opp := fun _ a ha => by
    have h3 := h.ok a ha
    obtain ⟨h4, h5, _⟩ := pickO_ok hv h3.1 h3.2
    exact ⟨_, rpF_mem h.asc (h.all a ha), h4, attQ_iff.2 h5, fun x hx => h.cl a ha x (attQ_iff.1 hx)⟩
theorem chk_of {n k root : Nat} {l : List (Int × Int)} {OO : List (Nat × Nat)} (hv : InR n l) (hroot : root < n) (hn : k = 2 → byW n l k root = 2 → OO = [])
    (h : (k = 1 ∧ byW n l k root = 1 ∧ ∃ R K, (∀ i, gsF n l K i = gsB n l i) ∧ AnOk n (attQ l) (pickG n l K) (fun a => gsB n l a = true) root R OO) ∨ (k = 1 ∧ byW n l k root = 2 ∧ ∃ R, OgOk n l root R OO) ∨
      (k = 2 ∧ byW n l k root = 1 ∧ ∃ R s, s < 2 ^ n ∧ AdmS n (attQ l) s ∧ AnOk n (attQ l) (pickS n (attQ l) s) (fun a => s.testBit a = true) root R OO) ∨ (k = 2 ∧ byW n l k root = 2)) : ChkOk n l k (byW n l k root) root OO := by
  rcases h with ⟨hk, hb, R, K, hK, ho⟩ | ⟨hk, hb, R, ho⟩ | ⟨hk, hb, R, s, hs, ha, ho⟩ | ⟨hk, hb⟩
  · rw [hb]; subst hk
    refine ⟨(fun e => by cases e), fun _ => ⟨_, ho.stIn fun a hPa x hx => attQ_iff.2 (pickG_ok hv hK hPa (attQ_iff.1 hx)).1, fun _ _ => ⟨gsR n l, fun f hf hc => ⟨fun a han hfa x hx => ?_⟩⟩, (fun e => by cases e)⟩⟩
    have haR := hf a han hfa
    have h1 := ho.all a haR x hx
    have h2 := (ho.o _ h1).2.1
    have hrp := rpF_mem ho.asc h1
    exact ⟨_, hrp, (ho.ok _ h2).1, hc a han hfa x hx _ hrp, (pickG_ok hv hK (ho.ok a haR).2 (attQ_iff.1 hx)).2.2⟩
  · rw [hb]; subst hk
    exact ⟨(fun _ e => by cases e), fun _ => ⟨_, ho.stIn hv, (fun e => by cases e), (fun e => by cases e)⟩⟩
  · rw [hb]; subst hk
    refine ⟨(fun e => by cases e), fun _ => ⟨_, ho.stIn fun a hPa x hx => ?_, (fun _ e => by cases e), fun _ f hf => ?_⟩⟩
    · obtain ⟨hxn, han⟩ := att_lt hv (attQ_iff.1 hx)
      exact (pick_ok ha hxn (foeS_iff.2 ⟨a, han, hPa, hx⟩)).2.2
    · unfold freB
      rw [List.all_eq_true]
      intro x hx
      obtain ⟨j, hj, hfj, rfl⟩ := mem_nodesB.1 hx
      rw [Bool.not_eq_true', Bool.eq_false_iff]
      intro e
      obtain ⟨y, hy, hh⟩ := List.any_eq_true.1 e
      obtain ⟨i, hi, hfi, rfl⟩ := mem_nodesB.1 hy
      rw [hasB_att] at hh
      rw [freeS_iff.1 ha.free i j hi hj (ho.ok i (hf i hi hfi)).2 (ho.ok j (hf j hj hfj)).2] at hh
      cases hh
  · rw [hb]; subst hk
    refine ⟨fun _ _ => ⟨hn rfl hb, ?_⟩, fun e => absurd ⟨rfl, rfl⟩ e⟩
    rw [som_sr hv hroot]
    unfold byW at hb
    rw [if_neg (by decide)] at hb
    cases e : (srS n (attQ l) (n + 1) (1 <<< root)).isSome
    · rfl
    · rw [e, if_pos rfl] at hb; cases hb
theorem wins_byW {n k root : Nat} {l : List (Int × Int)} (hk : k = 1 ∨ k = 2) (hv : InR n l) (hroot : root < n) : (if k = 1 then grL n l root == 1 else somB n l root) = decide (byW n l k root = 1) := by
  unfold byW
  rcases hk with rfl | rfl
  · rw [if_pos rfl, if_pos rfl]
    have : gsB n l root = (grL n l root == 1) := gs_fin root
    rw [← this]
    cases gsB n l root <;> rfl
  · rw [if_neg (by decide), if_neg (by decide), som_sr hv hroot]
    cases (srS n (attQ l) (n + 1) (1 <<< root)).isSome <;> rfl

set_option maxRecDepth 100000 in
set_option maxHeartbeats 4000000 in
theorem rWins_any (A : Option Addr) {n : Nat} {l : List (Int × Int)} (c k root : Nat) (w : World) (hv : InR n l) (hn10 : n ≤ 10) (hk : k = 1 ∨ k = 2) (hroot : root < n) (hr : RP w A l) :
    Calls Tryd.prog 36 #[.agg #[.int .i64 (n : Int), .slice A l.length c], .int .i64 (k : Int), .int .i64 (root : Int)] w (RetB (.bool (decide (byW n l k root = 1))) w) := by
  have hlen := hv.2.1
  have hb := wins_byW hk hv hroot
  have hri0 : (0 : Int) ≤ (root : Int) := by omega
  have hri1 : (root : Int) < (n : Int) := by omega
  have HV := Lib.hid hv
  go_enter Tryd.func36, Tryd.ntmps36
  go_upto_region 1 with fail
  obtain ⟨W0, hW, k0, hb0, hs0⟩ := boxA w 24 #[.int .i64 (n : Int), .slice A l.length c]
  rw [hW]
  obtain ⟨c0, c1, -, -⟩ := k0.two
  have hr0 := hr.below hb0
  clear hW hr k0 hv
  rcases hk with rfl | rfl
  · rw [if_pos rfl] at hb
    have Hb := Lib.hid hb
    have Hg := Lib.hid (nwGrd_any A n l c W0 hr0 HV.out)
    clear hb hr0
    go_wp2_with fail
    refine Hg.out.mono ?_
    rintro e w1 ⟨g1, g2, rfl, hrow, hb1⟩
    have hc := hrow.cell hroot
    have Hb1 := Lib.hid (endB hb0 hb1)
    clear hb0 hb1 hrow Hg c0 c1
    generalize grL n l root = gr at *
    go_wp2_with fail
    go_ret
    exact ⟨by rw [← Hb.out]; rfl, Hb1.out⟩
  · rw [if_neg (by decide)] at hb
    have Hb := Lib.hid hb
    have Hg := Lib.hid (nwSom_any A n l c root W0 (by omega) hroot hr0 hlen)
    clear hb hr0
    go_wp2_with fail
    refine Hg.out.mono ?_
    rintro e w1 ⟨rfl, hb1⟩
    have Hb1 := Lib.hid (endB hb0 hb1)
    clear hb0 hb1 Hg c0 c1
    go_wp2_with fail
    go_ret
    exact ⟨by rw [← Hb.out]; rfl, Hb1.out⟩
set_option maxRecDepth 100000 in
set_option maxHeartbeats 16000000 in
theorem rChk_any (A : Option Addr) {n : Nat} {l : List (Int × Int)} (c k root b : Nat) (A2 : Option Addr) (OO : List (Nat × Nat)) (c2 : Nat) (w : World) (hv : Vld n l) (hn10 : n ≤ 10) (hk : k = 1 ∨ k = 2) (hb : b = 1 ∨ b = 2) (hroot : root < n) (ho : ∀ q ∈ OO, q.1 < n ∧ q.2 < n) (hasc : AscR OO) (hlo : OO.length ≤ 100000) (hok : ChkOk n l k b root OO) (hr : RP w A l) (hr2 : RP w A2 (OO.map toI)) :
    Calls Tryd.prog 37 #[.agg #[.int .i64 (n : Int), .slice A l.length c], .agg #[.int .i64 (k : Int), .int .i64 (root : Int), .int .i64 (b : Int), .slice A2 OO.length c2]] w (RetB (.int .i64 0) w) := by
  have hlen := hv.1.2.1
  have hval := hv.valE
  have hgk : ((k : Int) == 1 || (k : Int) == 2) = true := by rcases hk with rfl | rfl <;> rfl
  have hn1 : (root : Int) < (n : Int) := by omega
  have hr0' : decide ((root : Int) < 0) = false := by rw [decide_eq_false_iff_not]; omega
  have hr1' : decide (n ≤ root) = false := by rw [decide_eq_false_iff_not]; omega
  have Hv := Lib.hid hv; have Hval := Lib.hid hval; have Hgk := Lib.hid hgk; have Hk := Lib.hid hk; have Hb := Lib.hid hb; have Ho := Lib.hid ho; have Hasc := Lib.hid hasc; have Hok := Lib.hid hok
  clear hv hval hgk hk hb ho hasc hok
  go_enter Tryd.func37, Tryd.ntmps37
  go_upto_region 1 with fail
  obtain ⟨W0, hW, k0, k1, hb0, hs0⟩ := boxg24 w 24 64 (.int .i64 (n : Int)) (.slice A l.length c) (.int .i64 (k : Int)) (.int .i64 (root : Int)) (.int .i64 (b : Int)) (.slice A2 OO.length c2)
  rw [hW]
  obtain ⟨c0, c1, -, -⟩ := k0.two
  have hr0 := hr.below hb0; have hr20 := hr2.below hb0
  clear hW hr hr2
  go_wp2_with fail
  refine (r10Validate_any A (n : Int) l c W0 hr0 hlen).mono ?_
  rintro e w1 ⟨rfl, hb1⟩
  rw [Hval.out]
  have k01 := k0.below hb1 k0.lt; have k11 := k1.below hb1 k1.lt
  obtain ⟨c0, c1, -, -⟩ := k01.two
  have s0 : w1.cell? ⟨w.heap.size + 1, 0, none⟩ = some (.int .i64 (k : Int)) := k11.cell 0
  have s1 : w1.cell? ⟨w.heap.size + 1, 1, none⟩ = some (.int .i64 (root : Int)) := k11.cell 1
  have s2 : w1.cell? ⟨w.heap.size + 1, 2, none⟩ = some (.int .i64 (b : Int)) := k11.cell 2
  have s3 : w1.cell? ⟨w.heap.size + 1, 3, none⟩ = some (.slice A2 OO.length c2) := k11.cell 3
  have hr1 := hr0.below hb1; have hr21 := hr20.below hb1
  have hb01 := endB hb0 hb1
  have Hr1 := Lib.hid hr1; have Hr21 := Lib.hid hr21
  have hgame := rGame_any (k : Int) w1
  rw [Hgk.out] at hgame
  have Hgame := Lib.hid hgame
  clear k0 k1 k01 k11 hr0 hr20 hb0 hb1 hs0 hr1 hr21 hgame Hval
  go_upto_region 4 with fail
  go_cut [29] (fun t29 wx => t29 = .bool false ∧ wx = w1)
  case first =>
    rcases Hb.out with hb | hb
    · have hbq : ((b : Int) != 1) = false := by simp [hb]
      clear hb
      go_wp2_with fail
      refine Hgame.out.mono ?_
      rintro e w2 ⟨rfl, hw2⟩
      subst hw2
      go_wp2_with fail
      go_meet
      exact ⟨rfl, rfl⟩
    · have hbq : ((b : Int) != 1) = true := by simp [hb]
      have hbq2 : ((b : Int) != 2) = false := by simp [hb]
      clear hb
      go_wp2_with fail
      refine Hgame.out.mono ?_
      rintro e w2 ⟨rfl, hw2⟩
      subst hw2
      go_wp2_with fail
      go_meet
      exact ⟨rfl, rfl⟩
  obtain ⟨rfl, rfl⟩ := hcut
  go_wp2_with fail
  go_loopw [6] (fun t6 wx => ∃ q : Nat, q ≤ OO.length ∧ t6 = .int .i64 (q : Int) ∧ Below wc.heap.size wc wx) (fun t6 _ => OO.length - (intOf t6).toNat)
  case atStart => exact ⟨0, Nat.zero_le _, rfl, Below.refl _ _⟩
  case round =>
    obtain ⟨q, hq, rfl, hbr⟩ := hrel
    have Hbr := Lib.hid hbr
    have u3 := (hbr.cell (lt_of_cell s3)).trans s3
    have v0 := (hbr.cell (lt_of_cell c0)).trans c0
    have hszr := hbr.size
    by_cases hqy : q < OO.length
    case pos =>
      obtain ⟨hx1, hx2⟩ := Ho.out OO[q] (List.getElem_mem _)
      obtain ⟨bb, oo, hA2, hc, hd⟩ := toI_at (Hr21.out.below hbr) hqy
      obtain ⟨x, hx⟩ : ∃ x, OO[q].1 = x := ⟨_, rfl⟩
      obtain ⟨y, hy⟩ : ∃ y, OO[q].2 = y := ⟨_, rfl⟩
      rw [hx] at hc hx1; rw [hy] at hd hx2
      subst hA2
      have e1 : decide ((x : Int) < 0) = false := by rw [decide_eq_false_iff_not]; omega
      have e2 : decide (n ≤ x) = false := by rw [decide_eq_false_iff_not]; omega
      have e3 : decide ((y : Int) < 0) = false := by rw [decide_eq_false_iff_not]; omega
      have e4 : decide (n ≤ y) = false := by rw [decide_eq_false_iff_not]; omega
      clear hx hy hbr
      go_upto_region 12 with fail
      obtain ⟨W5, hW5, k5, hb5, hs5⟩ := boxA wr 106 #[.int .i64 (x : Int), .int .i64 (y : Int)]
      rw [hW5]
      obtain ⟨d0, d1, -, -⟩ := k5.two
      have v0 := (hb5.cell (lt_of_cell v0)).trans v0
      have Hb5 := Lib.hid (Hbr.out.trans (hb5.mono hszr))
      clear hW5 k5 hb5 hs5 u3 hc hd
      go_wp2_with fail
      go_roundw
      case rel => exact ⟨q + 1, by omega, by go_num, Hb5.out⟩
      case measure => simp [intOf]; omega
    case neg =>
    obtain ⟨W2, hW2⟩ : ∃ W2, W2 = wr := ⟨_, rfl⟩
    subst hW2
    have c0 := (hbr.cell (lt_of_cell c0)).trans c0; have c1 := (hbr.cell (lt_of_cell c1)).trans c1
    have s0 := (hbr.cell (lt_of_cell s0)).trans s0; have s1 := (hbr.cell (lt_of_cell s1)).trans s1; have s2 := (hbr.cell (lt_of_cell s2)).trans s2; have s3 := (hbr.cell (lt_of_cell s3)).trans s3
    have Hr2 := Lib.hid (Hr1.out.below hbr); have Hr22 := Lib.hid (Hr21.out.below hbr)
    have hb02 := hb01.trans (hbr.mono hb01.size)
    clear hbr u3 v0 hb01 Hbr hq hszr
    go_wp2_with fail
    go_loopw [8] (fun t8 wx => ∃ q : Nat, (q = 1 ∨ q ≤ OO.length) ∧ 1 ≤ q ∧ t8 = .int .i64 (q : Int) ∧ Below W2.heap.size W2 wx) (fun t8 _ => OO.length - (intOf t8).toNat)
    case atStart => exact ⟨1, .inl rfl, Nat.le_refl _, rfl, Below.refl _ _⟩
    case round =>
      obtain ⟨q, hq, hq1, rfl, hbr⟩ := hrel
      have Hbr := Lib.hid hbr
      have v0 := (hbr.cell (lt_of_cell c0)).trans c0; have v1 := (hbr.cell (lt_of_cell c1)).trans c1
      have u0 := (hbr.cell (lt_of_cell s0)).trans s0; have u1 := (hbr.cell (lt_of_cell s1)).trans s1; have u2 := (hbr.cell (lt_of_cell s2)).trans s2; have u3 := (hbr.cell (lt_of_cell s3)).trans s3
      by_cases hqy : q < OO.length
      case pos =>
        have hcmp : OO[q - 1].1 < OO[q].1 := List.pairwise_iff_getElem.1 Hasc.out (q - 1) q (by omega) hqy (by omega)
        obtain ⟨bb, oo, hA2, hc0, hc1⟩ := toI_at (Hr22.out.below hbr) hqy
        subst hA2
        obtain ⟨bb', oo', hA2, hc2, hc3⟩ := toI_at (Hr22.out.below hbr) (k := q - 1) (by omega)
        injection hA2 with hA2; injection hA2 with e1 e2 _; subst e1; subst e2
        obtain ⟨x, hx⟩ : ∃ x, OO[q].1 = x := ⟨_, rfl⟩
        obtain ⟨y, hy⟩ : ∃ y, OO[q - 1].1 = y := ⟨_, rfl⟩
        rw [hx] at hcmp hc0; rw [hy] at hcmp hc2
        obtain ⟨q, rfl⟩ : ∃ q', q = q' + 1 := ⟨q - 1, by omega⟩
        rw [Nat.add_sub_cancel] at hc2
        have hle : decide ((x : Int) ≤ (y : Int)) = false := by rw [decide_eq_false_iff_not]; omega
        have hwr : IntKind.i64.wrap (((q + 1 : Nat) : Int) - 1) = (q : Int) := by rw [IntKind.wrap_i64]; omega
        have hq0 : (0 : Int) ≤ (q : Int) := by omega
        have hql : (q : Int) < (OO.length : Int) := by omega
        have hq2 : (0 : Int) ≤ ((q + 1 : Nat) : Int) := by omega
        have hql2 : ((q + 1 : Nat) : Int) < (OO.length : Int) := by omega
        clear hx hy hc1 hc3 hbr
        go_wp2_with fail
        go_quiet (fail)
        go_wp2_with fail
        go_roundw
        case rel => exact ⟨q + 2, .inr (by omega), by omega, by go_num, below_drewN Hbr.out _⟩
        case measure => simp [intOf]; omega
      case neg =>
      obtain ⟨W3, hW3⟩ : ∃ W3, W3 = wr := ⟨_, rfl⟩
      subst hW3
      have Hr3 := Lib.hid (Hr2.out.below hbr); have Hr23 := Lib.hid (Hr22.out.below hbr)
      have Hb03 := Lib.hid (hb02.trans (hbr.mono hb02.size))
      clear hbr Hbr hq hq1 c0 c1 s0 s1 s2 s3 hb02
      by_cases h22 : b = 2 ∧ k = 2
      case pos =>
        obtain ⟨hOO, hsom⟩ := Hok.out.none h22.1 h22.2
        have hb2 : ((b : Int) == 2) = true := by rw [beq_iff_eq]; omega
        have hk2 : ((k : Int) == 2) = true := by rw [beq_iff_eq]; omega
        have hd1 : decide (0 < OO.length) = false := by rw [hOO]; rfl
        have hd2 : decide (10 < n) = false := by rw [decide_eq_false_iff_not]; omega
        have hsm := nwSom_any A n l c root W3 (by omega) hroot Hr3.out hlen
        rw [hsom] at hsm
        have Hsm := Lib.hid hsm
        clear hOO hsom h22 hsm
        go_wp2_with fail
        refine Hsm.out.mono ?_
        rintro e w5 ⟨rfl, hb5⟩
        have Hb5 := Lib.hid (endB Hb03.out hb5)
        clear hb5 Hsm
        go_wp2_with fail
        go_ret
        exact ⟨rfl, Hb5.out⟩
      case neg =>
      obtain ⟨R, hRin, hRk, hRf⟩ := Hok.out.some h22
      have hrc := rReached_any A n l c k root b A2 OO c2 R W3 Hv.out.1 Hr3.out Hr23.out hlo hroot Hb.out hRin
      have Hrc := Lib.hid hrc; have Hin := Lib.hid hRin; have Hrk := Lib.hid hRk; have Hrf := Lib.hid hRf; have H22 := Lib.hid h22
      clear hrc hRin hRk hRf h22
      go_upto_region 19 with fail
      go_cut [102] (fun t102 wx => t102 = .bool false ∧ wx = W3)
      case first =>
        by_cases hb2 : b = 2
        · have hbq : ((b : Int) == 2) = true := by rw [beq_iff_eq]; omega
          have hkq : ((k : Int) == 2) = false := by rw [beq_eq_false_iff_ne]; intro e; exact H22.out ⟨hb2, by omega⟩
          clear hb2
          go_wp2_with fail
          go_meet
          exact ⟨rfl, rfl⟩
        · have hbq : ((b : Int) == 2) = false := by rw [beq_eq_false_iff_ne]; omega
          clear hb2
          go_wp2_with fail
          go_meet
          exact ⟨rfl, rfl⟩
      obtain ⟨rfl, rfl⟩ := hcut
      go_wp2_with fail
      refine Hrc.out.mono ?_
      rintro e w5 ⟨f, AF, cf, rfl, hrF, hfR, hfr, hcl, hb5⟩
      have v0 := (hb5.cell (lt_of_cell v0)).trans v0; have v1 := (hb5.cell (lt_of_cell v1)).trans v1
      have u0 := (hb5.cell (lt_of_cell u0)).trans u0; have u1 := (hb5.cell (lt_of_cell u1)).trans u1; have u2 := (hb5.cell (lt_of_cell u2)).trans u2; have u3 := (hb5.cell (lt_of_cell u3)).trans u3
      have Hr5 := Lib.hid (Hr3.out.below hb5); have Hr25 := Lib.hid (Hr23.out.below hb5)
      have Hb05 := Lib.hid (endB Hb03.out hb5)
      have HrF := Lib.hid hrF; have HfR := Lib.hid hfR; have Hcl := Lib.hid hcl
      have hFl := nodes_len2 n f
      clear hrF hfR hfr hcl hb5 Hrc
      go_upto_region 26 with fail
      go_cut [127] (fun t127 wx => t127 = .bool false ∧ Below w5.heap.size w5 wx)
      case first =>
        by_cases hb1 : b = 1
        · have hbq : ((b : Int) == 1) = true := by rw [beq_iff_eq]; omega
          by_cases hk1 : k = 1
          · have hkq : ((k : Int) == 1) = true := by rw [beq_iff_eq]; omega
            obtain ⟨rk, hrk⟩ := Hrk.out hb1 hk1
            have Hlp := Lib.hid (rLoops_any A n l c k root b A2 OO c2 f rk AF cf w5 Hv.out.1 Hr5.out Hr25.out hlo HrF.out (hrk f HfR.out (Hcl.out hb1)))
            clear hb1 hk1 hrk
            go_wp2_with fail
            refine Hlp.out.mono ?_
            rintro e w6 ⟨rfl, hb6⟩
            go_wp2_with fail
            go_meet
            exact ⟨rfl, hb6⟩
          · have hkq : ((k : Int) == 1) = false := by rw [beq_eq_false_iff_ne]; omega
            clear hb1 hk1
            go_wp2_with fail
            go_meet
            exact ⟨rfl, Below.refl _ _⟩
        · have hbq : ((b : Int) == 1) = false := by rw [beq_eq_false_iff_ne]; omega
          clear hb1
          go_wp2_with fail
          go_meet
          exact ⟨rfl, Below.refl _ _⟩
      obtain ⟨rfl, hb6⟩ := hcut
      have v0 := (hb6.cell (lt_of_cell v0)).trans v0; have v1 := (hb6.cell (lt_of_cell v1)).trans v1
      have u0 := (hb6.cell (lt_of_cell u0)).trans u0
      have Hr6 := Lib.hid (Hr5.out.below hb6); have HrF6 := Lib.hid (HrF.out.below hb6)
      have Hb06 := Lib.hid (endB Hb05.out hb6)
      clear hb6 u1 u2 u3
      go_upto_region 28 with fail
      go_cut [142] (fun t142 wx => t142 = .bool false ∧ Below wc.heap.size wc wx)
      case first =>
        by_cases hk2 : k = 2
        · have hkq : ((k : Int) == 2) = true := by rw [beq_iff_eq]; omega
          have hfr := nwFree_any A (n : Int) l c AF (nodesB n f) cf wc Hr6.out hlen HrF6.out (by omega)
          rw [Hrf.out hk2 f HfR.out] at hfr
          have Hfr := Lib.hid hfr
          clear hk2 hfr
          go_wp2_with fail
          refine Hfr.out.mono ?_
          rintro e w7 ⟨rfl, hb7⟩
          go_wp2_with fail
          go_meet
          exact ⟨rfl, hb7⟩
        · have hkq : ((k : Int) == 2) = false := by rw [beq_eq_false_iff_ne]; omega
          clear hk2
          go_wp2_with fail
          go_meet
          exact ⟨rfl, Below.refl _ _⟩
      obtain ⟨rfl, hb7⟩ := hcut
      have Hb07 := Lib.hid (endB Hb06.out hb7)
      clear hb7 v0 v1 u0
      go_wp2_with fail
      go_ret
      exact ⟨rfl, Hb07.out⟩
end Go.Proofs.YtncimnfhfomddaaDoor
