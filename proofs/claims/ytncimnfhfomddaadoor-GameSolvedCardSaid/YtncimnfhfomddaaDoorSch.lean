import Derived.Deep.MidRow
import Derived.Deep.WholeRow
import Derived.ChangeKeysEq
import Derived.Test.YtncimnfhfomddaaDoorFinB
import Derived.Deep.DeepCutAuto
import Derived.Test.YtncimnfhfomddaaDoorTxtZ
import Derived.Test.YtncimnfhfomddaaDoorLb
import Derived.Test.YtncimnfhfomddaaDoorPl14n
import Derived.Test.YtncimnfhfomddaaDoorRev
/- search.domains (an array of 40 labels) by value: read, written, compared. -/
namespace Go.Proofs.YtncimnfhfomddaaDoor
open Go.ChangeShapes Go.WideShapes Go.ChangeAt Go.RowKit

theorem und_int0 : Tryd.prog.underlying 3 = some (.int .i64) := by kernel_rfl
theorem dC_all (D : Nat → Nat) : (dC D).all (·.oneCell') = true := Array.all_eq_true_iff_forall_mem.2 fun v hv => dC_cell D v (by simpa using hv)
theorem dC_range {w : World} {b o : Nat} {D : Nat → Nat} (h : ∀ k, k < 40 → w.cell? ⟨b, o + k, none⟩ = some (.int .i64 (D k : Int))) : w.rangeAt b o (dC D).toList := fun j v hv => by
  rw [Array.getElem?_toList] at hv
  have hj : j < 40 := by
    rcases Nat.lt_or_ge j 40 with h | h
    · exact h
    · rw [dC_none h] at hv; cases hv
  rw [dC_at hj] at hv
  injection hv with hv
  rw [← hv]; exact h j hj

/-- two arrays are compared -/
theorem eqItems_dC (A B : Nat → Nat) (w : World) (d : Nat) : ∀ (is : List Nat), (∀ k ∈ is, k < 40) → (Op.eqItems (d + 1) 3 1 (dC A) (dC B) is).run Tryd.prog w = .ok (is.all fun k => A k == B k) w
  | [], _ => by simp [Op.eqItems]
  | k :: is, h => by
    have hk := h k (List.mem_cons_self ..)
    have ih := eqItems_dC A B w d is fun j hj => h j (List.mem_cons_of_mem _ hj)
    have hp : ∀ D : Nat → Nat, (part 3 (dC D) (k * 1)).run Tryd.prog w = .ok (.int .i64 (D k : Int)) w := fun D => by
      unfold part
      have h1 : (isAgg 3).run Tryd.prog w = .ok false w := by
        unfold isAgg
        rw [Sem.run_bind, run_underlying und_int0 w]
        rfl
      rw [Sem.run_bind, h1]
      simp [dC_at hk]
    have he : (Op.equalIn (d + 1) 3 (.int .i64 (A k : Int)) (.int .i64 (B k : Int))).run Tryd.prog w = .ok ((A k : Int) == (B k : Int)) w := run_equalIn_int w d 3 .i64 .i64 _ _ und_int0
    have hc : ((A k : Int) == (B k : Int)) = (A k == B k) := by rw [Bool.eq_iff_iff, beq_iff_eq, beq_iff_eq]; omega
    unfold Op.eqItems
    rw [Sem.run_bind, hp A]
    simp only [Result.andThen_ok]
    rw [Sem.run_bind, hp B]
    simp only [Result.andThen_ok]
    rw [Sem.run_bind, he, hc]
    simp only [Result.andThen_ok, List.all_cons]
    cases A k == B k
    · simp
    · simpa using ih
end Go.Proofs.YtncimnfhfomddaaDoor

/- search.finder: can, possible, limit. -/
namespace Go.Proofs.YtncimnfhfomddaaDoor
open Go.ChangeShapes Go.WideShapes Go.ChangeAt Go.RowKit

theorem i64_and16 : ∀ a b : Fin 16, bits .and .i64 ((a.val : Nat) : Int) ((b.val : Nat) : Int) = ((a.val &&& b.val : Nat) : Int) := by decide +kernel
theorem i64_and_small {a b : Nat} (ha : a ≤ 14) (hb : b ≤ 14) : bits .and .i64 (a : Int) (b : Int) = ((a &&& b : Nat) : Int) := i64_and16 ⟨a, by omega⟩ ⟨b, by omega⟩

theorem canL_take {D : Nat → Nat} {a : List Int} {x k : Nat} (hk : k < a.length) : canL D (a.take (k + 1)) x = canL D (a.take k) x ++ if (D a[k].toNat &&& x) ≠ 0 then [a[k]] else [] := by
  unfold canL
  rw [List.take_succ_eq_append_getElem hk, List.filter_append]
  simp only [List.filter_cons, List.filter_nil]
  simp
theorem canL_len (D : Nat → Nat) (a : List Int) (x : Nat) : (canL D a x).length ≤ a.length := List.length_filter_le _ _

def attLs (n : Nat) (l : List (Int × Int)) : List (List Int) := (List.range n).map fun (i : Nat) => attackersL l (i : Int)
theorem attLs_length (n : Nat) (l : List (Int × Int)) : (attLs n l).length = n := by simp [attLs]
theorem attLs_at {n : Nat} {l : List (Int × Int)} {i : Nat} (h : i < (attLs n l).length) : (attLs n l)[i] = attackersL l (i : Int) := by simp [attLs]
variable {w w' : World} {f n B : Nat} {l : List (Int × Int)} {AT : Option Addr} {cA : Nat} {D : Nat → Nat} {v : Value} {full : Bool}
def m1V (a : Bool) : Nat := if a then 12 else 14
def m2V (a b : Bool) : Nat := m1V a - if b then 4 else 0
def m3V (a b c : Bool) : Nat := m2V a b - if c then 8 else 0
theorem poss_m3 (D : Nat → Nat) (a : List Int) : possN D a = m3V (decide ((canL D a 4).length < a.length)) (decide ((canL D a 2).length = 0)) (decide ((canL D a 12).length < a.length) || decide ((canL D a 8).length = 0)) := by
  unfold possN m3V m2V m1V
  by_cases h1 : (canL D a 4).length < a.length <;> by_cases h2 : (canL D a 2).length = 0 <;> by_cases h3 : (canL D a 12).length < a.length <;> by_cases h4 : (canL D a 8).length = 0 <;> simp [h1, h2, h3, h4]
theorem m2V_an : ∀ a b : Bool, bits .andNot .i64 (m1V a : Int) 4 = (m2V a true : Int) ∧ m2V a false = m1V a ∧ bits .andNot .i64 (m2V a b : Int) 8 = (m3V a b true : Int) ∧ m3V a b false = m2V a b ∧ bits .andNot .i64 14 2 = (m1V true : Int) := by decide +kernel

def maskD (D : Nat → Nat) (s : List Int) (m : Nat) : Nat → Nat := fun k => if (k : Int) ∈ s then D k &&& m else D k
theorem maskD_nil (D : Nat → Nat) (m : Nat) : maskD D [] m = D := by funext k; simp [maskD]
theorem maskD_step {D : Nat → Nat} {a : List Int} {m k kk : Nat} (hk : k < a.length) (hkk : a[k] = (kk : Int)) : maskD D (a.take (k + 1)) m = updN (maskD D (a.take k) m) kk (maskD D (a.take k) m kk &&& m) := by
  funext j
  unfold maskD updN
  rw [List.take_succ_eq_append_getElem hk, hkk]
  by_cases e : j = kk
  · subst e
    rw [if_pos (List.mem_append_right _ (List.mem_singleton.2 rfl)), if_pos rfl]
    split
    · rw [Nat.and_assoc, Nat.and_self]
    · rfl
  · rw [if_neg e]
    have : (j : Int) ∈ a.take k ++ [(kk : Int)] ↔ (j : Int) ∈ a.take k := by
      rw [List.mem_append, List.mem_singleton]
      constructor
      · rintro (h | h)
        · exact h
        · omega
      · exact .inl
    simp only [this]
theorem mask_sub (D : Nat → Nat) (s : List Int) (m : Nat) : subD (maskD D s m) D := fun k => by
  unfold maskD
  split
  · exact andS _ _
  · exact Nat.and_self _
theorem lim1_2 {D : Nat → Nat} {a : List Int} {i : Nat} (h : D i = 2) : lim1 D a i = maskD D a 4 := by funext k; unfold lim1 maskD; rw [if_pos h]
theorem lim1_8 {D : Nat → Nat} {a : List Int} {i : Nat} (h : D i = 8) : lim1 D a i = maskD D a 12 := by funext k; simp [lim1, maskD, h]
theorem lim1_o {D : Nat → Nat} {a : List Int} {i : Nat} (h2 : D i ≠ 2) (h8 : D i ≠ 8) : lim1 D a i = D := by funext k; unfold lim1; rw [if_neg h2, if_neg h8]; split <;> rfl
/-- a list that can be read, no cell of it in block f -/
def RIf (w : World) (f : Nat) (A : Option Addr) (a : List Int) : Prop := ∀ j (hj : j < a.length), ∃ b o, A = some ⟨b, o, none⟩ ∧ b ≠ f ∧ w.cell? ⟨b, o + j, none⟩ = some (.int .i64 a[j])
theorem RIf.grown {w w' : World} {f : Nat} {A : Option Addr} {a : List Int} (h : RIf w f A a) (hg : w.grownBy w' (some f)) : RIf w' f A a := fun j hj => by
  obtain ⟨b, o, hA, hne, hc⟩ := h j hj
  exact ⟨b, o, hA, hne, hg.cell hc (by simpa using hne)⟩
theorem RIf.ri {w : World} {f : Nat} {A : Option Addr} {a : List Int} (h : RIf w f A a) : RI w A a := fun j hj => by
  obtain ⟨b, o, hA, _, hc⟩ := h j hj
  exact ⟨b, o, hA, by rw [hc]; simp [List.getD, hj]⟩
theorem limD_one {D : Nat → Nat} {a : List Int} {i m kk : Nat} (hm : aloneN (D i) = m) (h : (canL (lim1 D a i) a m).length = 1) (hk : (canL (lim1 D a i) a m).getD 0 0 = (kk : Int)) : limD D a i = updN (lim1 D a i) kk (lim1 D a i kk &&& m) := by
  subst hm
  unfold limD
  rw [if_pos h, hk]
  funext j
  unfold updN
  by_cases e : j = kk
  · subst e; rw [if_pos rfl, if_pos rfl]
  · rw [if_neg (by omega), if_neg e]
theorem limD_not {D : Nat → Nat} {a : List Int} {i m : Nat} (hm : aloneN (D i) = m) (h : ¬ (canL (lim1 D a i) a m).length = 1) : limD D a i = lim1 D a i := by
  subst hm
  unfold limD
  rw [if_neg h]

end Go.Proofs.YtncimnfhfomddaaDoor

/- search.finder: settle, labels, find. -/
namespace Go.Proofs.YtncimnfhfomddaaDoor
open Go.ChangeShapes Go.WideShapes Go.ChangeAt Go.RowKit

/-- the labels that a finder's block holds -/
def dOf (w : World) (f : Nat) (k : Nat) : Nat := match w.cell? ⟨f, 2 + k, none⟩ with
  | some (.int _ x) => x.toNat
  | _ => 0
theorem sumD_congr {A B : Nat → Nat} : ∀ (n : Nat), (∀ k, k < n → A k = B k) → sumD n A = sumD n B
  | 0, _ => rfl
  | n + 1, h => by rw [sumD_succ, sumD_succ, sumD_congr n fun k hk => h k (by omega), h n (by omega)]
theorem m3_le : ∀ a b c : Bool, m3V a b c ≤ 14 := by decide
theorem poss_le (D : Nat → Nat) (a : List Int) : possN D a ≤ 14 := by rw [poss_m3]; exact m3_le _ _ _

end Go.Proofs.YtncimnfhfomddaaDoor

/- search.finder: labels, find. -/
namespace Go.Proofs.YtncimnfhfomddaaDoor
open Go.ChangeShapes Go.WideShapes Go.ChangeAt Go.RowKit

/-- the call tells the first node with several labels, or all labels -/
def RetLn (n : Nat) (D : Nat → Nat) (w : World) : Ending → World → Prop := fun e w' => Below w.heap.size w w' ∧
  ((∃ o, o < n ∧ ¬ oneD (D o) ∧ (∀ j, j < o → oneD (D j)) ∧ e = .returned (.tuple #[.slice none 0 0, .int .i64 (o : Int)])) ∨
   ((∀ i, i < n → oneD (D i)) ∧ ∃ A c, e = .returned (.tuple #[.slice A n c, .int .i64 (-1)]) ∧ OwnI w' w.heap.size (.slice A n c) (lst n fun i => labN (D i))))

theorem OwnL.kept {w w' : World} {base p : Nat} {xs : List Value} {ls : List (List Int)} (h : OwnL w base xs ls) (hg : w.grownBy w' (some p)) (hp : p < base) : OwnL w' base xs ls :=
  ⟨h.1, fun k hk => by obtain ⟨A, c, h1, h2⟩ := h.2 k hk; exact ⟨A, c, h1, ownsRow_far h2 hg hp⟩⟩
theorem OwnS.up {w : World} {b : Nat} {v : Value} {xs : List Value} (h : OwnS w b v xs) : ∀ k, v.ownBlock = some k → b ≤ k ∧ k < w.heap.size := fun k hk => World.ownsRow.lt h k hk

/-- the finder's list of what was found -/
structure Fou (w : World) (B : Nat) (v : Value) (xs : List Value) (F : List (List Int)) : Prop where
  s : OwnS w B v xs
  l : OwnL w B xs F
namespace Fou
variable {w w' : World} {B f : Nat} {v : Value} {xs : List Value} {F : List (List Int)}
theorem below (h : Fou w B v xs F) (hb : Below w.heap.size w w') : Fou w' B v xs F := ⟨ownsRow_below h.s hb, h.l.below hb⟩
theorem kept (h : Fou w B v xs F) (hg : w.grownBy w' (some f)) (hf : f < B) : Fou w' B v xs F := ⟨ownsRow_far h.s hg hf, h.l.kept hg hf⟩
theorem len (h : Fou w B v xs F) : xs.length = F.length := h.l.1
end Fou

end Go.Proofs.YtncimnfhfomddaaDoor

/- search.Complete. -/
namespace Go.Proofs.YtncimnfhfomddaaDoor
open Go.ChangeShapes Go.WideShapes Go.ChangeAt Go.RowKit

/-- all complete labellings, or an error -/
def compR (N : Int) (l : List (Int × Int)) : List (List Int) × Int := if valE N l = 0 then (if 200 < (compL N.toNat l).length then ([], 2) else (compL N.toNat l, 0)) else ([], valE N l)
theorem compR_bad {N : Int} {l : List (Int × Int)} (h : valE N l ≠ 0) : compR N l = ([], valE N l) := by unfold compR; rw [if_neg h]
theorem compR_ok {n : Nat} {l : List (Int × Int)} (h : valE n l = 0) : compR n l = if 200 < (compL n l).length then ([], 2) else (compL n l, 0) := by unfold compR; rw [if_pos h, Int.toNat_natCast]
/-- the call returns lists and an error -/
def RetLE (r : List (List Int) × Int) (w : World) : Ending → World → Prop := fun e w' => ∃ A c, e = .returned (.tuple #[.slice A r.1.length c, .int .i64 r.2]) ∧ RSo w' A r.1 ∧ (A = none → r.1 = [] ∧ c = 0) ∧ Below w.heap.size w w'
theorem RSo.nil (w : World) (A : Option Addr) : RSo w A [] := fun k hk => absurd hk (by simp)
theorem OwnS.forms2 {w : World} {b b' : Nat} {v : Value} {xs : List Value} {ls : List (List Int)} (h : OwnS w b v xs) (hl : OwnL w b' xs ls) : ∃ A c, v = .slice A ls.length c ∧ RSo w A ls ∧ (A = none → ls = [] ∧ c = 0) := by
  obtain ⟨A, c, e, hr⟩ := OwnS.forms h hl
  refine ⟨A, c, e, hr, fun hA => ?_⟩
  obtain ⟨_, h2⟩ := h
  rcases h2 with ⟨e2, hn⟩ | ⟨g, cap, cur, e2, _⟩
  · rw [e] at e2
    injection e2 with _ e3 e4
    exact ⟨List.eq_nil_of_length_eq_zero e3, e4⟩
  · rw [e, hA] at e2; injection e2 with e3; cases e3
theorem att_of_own {w : World} {B f : Nat} {v : Value} {xs : List Value} {ls : List (List Int)} (hs : OwnS w B v xs) (hl : OwnL w B xs ls) (hf : f < B) : ∃ A c, v = .slice A ls.length c ∧ AttOk w f w.heap.size A ls := by
  have hs' := hs
  obtain ⟨h1, h2⟩ := hs
  rcases h2 with ⟨rfl, hn⟩ | ⟨g, cap, cur, rfl, hg, hgl, r⟩
  · have : ls = [] := List.eq_nil_of_length_eq_zero (by rw [← hl.1]; exact hn)
    subst this
    exact ⟨none, 0, rfl, fun k hk => absurd hk (by simp)⟩
  · refine ⟨some ⟨g, 0, none⟩, cap, by rw [hl.1], fun k hk => ?_⟩
    obtain ⟨A', c', hx, hr⟩ := hl.2 k hk
    have e : ls.getD k [] = ls[k] := by simp [List.getD, hk]
    rw [e] at hx hr
    have c0 := hs'.cells (g := g) rfl _ _ hx
    rw [show (⟨g, 0, none⟩ : Addr).add k = ⟨g, 0 + k, none⟩ by unfold Addr.add; split <;> simp_all] at c0
    refine ⟨g, 0, A', c', rfl, by omega, (World.ownsRow.lt hs' g rfl).2, c0, fun j hj => ?_⟩
    obtain ⟨b, o, hA, hc⟩ := hr.ri.at_ hj
    have hob : (Value.slice A' ls[k].length c').ownBlock = some b := by rw [hA]; rfl
    have := World.ownsRow.lt hr b hob
    exact ⟨b, o, hA, by omega, this.2, hc⟩
theorem dC_zero : dC (fullD 0) = #[.int .i64 0, .int .i64 0, .int .i64 0, .int .i64 0, .int .i64 0, .int .i64 0, .int .i64 0, .int .i64 0, .int .i64 0, .int .i64 0, .int .i64 0, .int .i64 0, .int .i64 0, .int .i64 0, .int .i64 0, .int .i64 0, .int .i64 0, .int .i64 0, .int .i64 0, .int .i64 0, .int .i64 0, .int .i64 0, .int .i64 0, .int .i64 0, .int .i64 0, .int .i64 0, .int .i64 0, .int .i64 0, .int .i64 0, .int .i64 0, .int .i64 0, .int .i64 0, .int .i64 0, .int .i64 0, .int .i64 0, .int .i64 0, .int .i64 0, .int .i64 0, .int .i64 0, .int .i64 0] := by kernel_rfl
set_option maxRecDepth 100000 in
theorem finC_zero (n : Nat) : finC n (.slice none 0 0) (fullD 0) (.slice none 0 0) false = #[.int .i64 (n : Int), .slice none 0 0, .int .i64 0, .int .i64 0, .int .i64 0, .int .i64 0, .int .i64 0, .int .i64 0, .int .i64 0, .int .i64 0, .int .i64 0, .int .i64 0, .int .i64 0, .int .i64 0, .int .i64 0, .int .i64 0, .int .i64 0, .int .i64 0, .int .i64 0, .int .i64 0, .int .i64 0, .int .i64 0, .int .i64 0, .int .i64 0, .int .i64 0, .int .i64 0, .int .i64 0, .int .i64 0, .int .i64 0, .int .i64 0, .int .i64 0, .int .i64 0, .int .i64 0, .int .i64 0, .int .i64 0, .int .i64 0, .int .i64 0, .int .i64 0, .int .i64 0, .int .i64 0, .int .i64 0, .int .i64 0, .slice none 0 0, .bool false] := by
  apply Array.ext'
  rw [finC_list, dC_zero]
  rfl
theorem full_upd (k : Nat) : updN (fullD k) k 14 = fullD (k + 1) := by
  funext j
  unfold updN fullD
  by_cases h : j = k
  · subst h; simp
  · rw [if_neg h]
    by_cases h2 : j < k
    · rw [if_pos h2, if_pos (by omega)]
    · rw [if_neg h2, if_neg (by omega)]
theorem attLs_succ (k : Nat) (l : List (Int × Int)) : attLs (k + 1) l = attLs k l ++ [attackersL l (k : Int)] := by unfold attLs; rw [List.range_succ, List.map_append]; rfl

variable {w wr w' : World} {f n c : Nat} {l : List (Int × Int)} {A : Option Addr} {D : Nat → Nat} {v : Value}
theorem attLs_zero (l : List (Int × Int)) : attLs 0 l = [] := rfl

end Go.Proofs.YtncimnfhfomddaaDoor
