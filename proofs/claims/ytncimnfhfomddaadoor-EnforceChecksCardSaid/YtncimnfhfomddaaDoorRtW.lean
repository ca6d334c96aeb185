import Derived.Test.YtncimnfhfomddaaDoorRfP
import Derived.Test.YtncimnfhfomddaaDoorStcW
import Derived.Test.YtncimnfhfomddaaDoorPq
import Derived.Test.YtncimnfhfomddaaDoorTxtZ
import Derived.Test.YtncimnfhfomddaaDoorNg
import Derived.BigQuiet
/- ref21: less, put, Has, toggle. -/
namespace Go.Proofs.YtncimnfhfomddaaDoor
open Go.ChangeShapes Go.WideShapes Go.ChangeAt Go.RowKit

theorem info_pairR : (Tryd.prog.info? 42).map (fun i => (i.zero, i.size, i.bytes)) = some (some (.agg #[.int .i64 0, .int .i64 0]), 2, 16) := by kernel_rfl
set_option maxRecDepth 100000 in
/-- 'append(s, t...)' of pairs -/
theorem wpList_appPr {ops : Array Oper} {rest : List Oper} {o : Oper} {a : Act} {Q : Exit → Act → World → Prop} (hgd : o.guard = none) (s x : Operand)
    (ho : o.op = .call { callee := .builtin .append, args := #[s, x], argTypes := #[22, 22] })
    (X : World) (base : Nat) (v : Value) (l : List (Int × Int)) (B : Option Addr) (l2 : List (Int × Int)) (n2 c : Nat) (hown : OwnP X base v l) (hr : RP X B l2) (hn2 : n2 = l2.length) (hB : B = none → l2 = [] ∧ c = 0) (hs : a.eval s = v) (hx : a.eval x = .slice B n2 c)
    (hlen : l.length + l2.length ≤ 1000000) (hbase : base ≤ X.heap.size)
    (h : ∀ v' w', OwnP w' base v' (l ++ l2) → Below base X w' → X.grownBy w' v.ownBlock → wpList Tryd.prog ops Q rest (a.put o.dst v') w') :
    wpList Tryd.prog ops Q (o :: rest) a X := by
  subst hn2
  obtain ⟨i0, hi, hz0, hz1, hz2⟩ := info_parts info_pairR
  cases B with
  | none =>
    obtain ⟨rfl, rfl⟩ := hB rfl
    refine wpList_append_own_none hgd s x 22 ho base 42 i0 2 Tryd.underlying22 hi v l.length _ hs hown hx (h v X ?_ (Below.refl _ _) (grownBy_refl _ _))
    rw [List.append_nil]; exact hown
  | some ad =>
    refine wpList_append_own _ hgd s x 22 ho base 42 i0 _ 2 16 Tryd.underlying22 hi hz0 hz1 hz2 rfl (by decide) v l.length _ hs hown ad l2.length c (flatP l2) hx (by rw [flatP_length]) (fun j u hu => ?_)
      (by intro u hu; unfold flatP at hu; obtain ⟨q, _, hq⟩ := List.mem_flatMap.1 hu; simp at hq; rcases hq with rfl | rfl <;> rfl) (by unfold maxLen; omega) (by omega) hbase ?_
    · have hj : j < l2.length * 2 := by have := (List.getElem?_eq_some_iff.1 hu).1; rw [flatP_length] at this; exact this
      obtain ⟨f0, f1⟩ := flatP_at l2 (j / 2) (by omega)
      obtain ⟨b, off, hA, hc, hd⟩ := hr (j / 2) (by omega)
      injection hA with hA; subst hA
      rw [show (⟨b, off, none⟩ : Addr).add j = ⟨b, off + j, none⟩ by unfold Addr.add; split <;> simp_all]
      rcases Nat.mod_two_eq_zero_or_one j with e | e
      · have ej : j / 2 * 2 = j := by omega
        rw [ej] at f0 hc
        rw [f0] at hu; injection hu with hu; rw [hc, hu]
      · have ej : j / 2 * 2 + 1 = j := by omega
        have ej2 : off + j / 2 * 2 + 1 = off + j := by omega
        rw [ej] at f1
        rw [ej2] at hd
        rw [f1] at hu; injection hu with hu; rw [hd, hu]
    · intro v' w1 hown' hgrow _
      refine h v' w1 ?_ ((Below.refl base X).grown hgrow hbase (fun k hk => (hown.lt k hk).1)) hgrow
      unfold OwnP
      have e : flatP (l ++ l2) = flatP l ++ flatP l2 := by unfold flatP; rw [List.flatMap_append]
      rw [List.length_append, e]; exact hown'
theorem OwnP.shape {w : World} {b : Nat} {v : Value} {l : List (Int × Int)} (h : OwnP w b v l) : ∃ A c, v = .slice A l.length c := by
  obtain ⟨A, c, e, _⟩ := h.form
  exact ⟨A, c, e⟩
theorem OwnP.mono' {w : World} {b b' : Nat} {v : Value} {l : List (Int × Int)} (h : OwnP w b v l) (hb : b' ≤ b) : OwnP w b' v l := ownsRow_mono h hb
theorem OwnP.old {w : World} {b : Nat} {v : Value} {l : List (Int × Int)} (h : OwnP w b v l) {g : Nat} (hg : v.ownBlock = some g) : g < w.heap.size := (World.ownsRow.lt h g hg).2
/-- a part of a list in memory -/
theorem RP.drop {w : World} {b o : Nat} {l : List (Int × Int)} (h : RP w (some ⟨b, o, none⟩) l) (k : Nat) : RP w (some ⟨b, o + k * 2, none⟩) (l.drop k) := fun j hj => by
  rw [List.length_drop] at hj
  obtain ⟨b', o', hA, h1, h2⟩ := h (k + j) (by omega)
  injection hA with hA; injection hA with hA1 hA2
  subst hA1; subst hA2
  have e : (l.drop k).getD j (0, 0) = l.getD (k + j) (0, 0) := by simp only [List.getD]; rw [List.getElem?_drop]
  rw [e]
  exact ⟨b, o + k * 2, rfl, by rw [show o + k * 2 + j * 2 = o + (k + j) * 2 by omega]; exact h1, by rw [show o + k * 2 + j * 2 + 1 = o + (k + j) * 2 + 1 by omega]; exact h2⟩
theorem RP.take {w : World} {A : Option Addr} {l : List (Int × Int)} (h : RP w A l) (k : Nat) : RP w A (l.take k) := fun j hj => by
  rw [List.length_take] at hj
  have e : (l.take k).getD j (0, 0) = l.getD j (0, 0) := by simp only [List.getD]; rw [List.getElem?_take_of_lt (by omega)]
  rw [e]
  exact h j (by omega)

set_option maxHeartbeats 1000000 in
theorem rLess_any (p q : Int × Int) (w : World) :
    Calls Tryd.prog 128 #[.agg #[.int .i64 p.1, .int .i64 p.2], .agg #[.int .i64 q.1, .int .i64 q.2]] w (RetB (.bool (ltB p q)) w) := by
  obtain ⟨r, hr⟩ : ∃ r, ltB p q = r := ⟨_, rfl⟩
  rw [hr]
  unfold ltB at hr
  go_enter Tryd.func128, Tryd.ntmps128
  go_upto_region 1 with fail
  obtain ⟨W0, hW, k0, k1, hb0, hlt0⟩ := boxed2 w 42 42 (.int .i64 p.1) (.int .i64 p.2) (.int .i64 q.1) (.int .i64 q.2)
  rw [hW]
  obtain ⟨c0, c1, _, _⟩ := k0.two
  obtain ⟨c2, c3, _, _⟩ := k1.two
  clear hW
  by_cases h1 : p.1 < q.1
  · rw [decide_eq_true h1, Bool.true_or] at hr
    subst hr
    have h1' : decide (p.1 < q.1) = true := decide_eq_true h1
    go_wp2
    go_ret
    exact ⟨rfl, hb0⟩
  rw [decide_eq_false h1, Bool.false_or] at hr
  have h1' : decide (p.1 < q.1) = false := decide_eq_false h1
  by_cases h2 : p.1 = q.1
  · rw [decide_eq_true h2, Bool.true_and] at hr
    have h2' : (p.1 == q.1) = true := by simp [h2]
    clear h2
    go_wp2
    go_ret
    exact ⟨rfl, hb0⟩
  · rw [decide_eq_false h2, Bool.false_and] at hr
    subst hr
    have h2' : (p.1 == q.1) = false := by simp [h2]
    clear h2
    go_wp2
    go_ret
    exact ⟨rfl, hb0⟩
set_option maxHeartbeats 1000000 in
theorem rHas_any (A : Option Addr) (l : List (Int × Int)) (c : Nat) (f t : Int) (w : World) (hr : RP w A l) (hl : l.length ≤ 100000) :
    Calls Tryd.prog 23 #[.slice A l.length c, .agg #[.int .i64 f, .int .i64 t]] w (RetB (.bool (hasB l f t)) w) := by
  go_enter Tryd.func23, Tryd.ntmps23
  go_wp2_with fail
  obtain ⟨W0, hW, c0, c1, hb0, hlt0⟩ := boxed w 42 (.int .i64 f) (.int .i64 t)
  rw [hW]
  have hr0 := hr.below hb0
  clear hW hr
  go_loopw [5] (fun i wr => ∃ k : Nat, k ≤ l.length ∧ i = .int .i64 k ∧ hasB (l.take k) f t = false ∧ Below W0.heap.size W0 wr) (fun i _ => l.length - (intOf i).toNat)
  case atStart => exact ⟨0, Nat.zero_le _, rfl, by simp [hasB], Below.refl _ _⟩
  case round =>
    obtain ⟨k, hk, rfl, hi, hbl⟩ := hrel
    have Hi := Lib.hid hi; clear hi
    by_cases hlt : k < l.length
    case neg =>
      have hall : hasB l f t = false := by have := Hi.out; rwa [List.take_of_length_le (by omega)] at this
      have Hall := Lib.hid hall
      clear hall
      go_wp2_with fail
      go_ret
      exact ⟨rb Hall.out.symm, endB hb0 hbl⟩
    case pos =>
    obtain ⟨b, o, rfl, hc0, hc1⟩ := (hr0.below hbl).at_ hlt
    have d0 := (hbl.cell (lt_of_cell c0)).trans c0
    have d1 := (hbl.cell (lt_of_cell c1)).trans c1
    have hhit := @hasB_hit l f t k hlt
    have hnx := @hasB_next l f t k hlt Hi.out
    have Hhit := Lib.hid hhit; have Hnx := Lib.hid hnx
    clear hhit hnx c0 c1
    generalize l[k] = pr at *
    obtain ⟨x, y⟩ := pr
    have hgd := run_gdE
    have heq := run_eqlE x y f t
    by_cases he : x = f ∧ y = t
    · obtain ⟨rfl, rfl⟩ := he
      have Hh := Lib.hid (Hhit.out rfl rfl)
      have hd : (x == x && y == y) = true := by simp
      go_wp2_with fail
      go_quiet (fail)
      go_wp2_with fail
      go_ret
      exact ⟨rb Hh.out.symm, endB hb0 (below_drewN hbl nq)⟩
    · have hd : (x == f && y == t) = false := by
        rw [Bool.and_eq_false_iff, beq_eq_false_iff_ne, beq_eq_false_iff_ne]
        by_cases h : x = f
        · exact .inr (fun e => he ⟨h, e⟩)
        · exact .inl h
      have He := Lib.hid (Hnx.out (fun e => he (by injection e with a b; exact ⟨a, b⟩)))
      rw [hd] at heq
      clear he hd
      go_wp2_with fail
      go_quiet (fail)
      clear heq hgd
      go_wp2_with fail
      go_roundw
      case rel => exact ⟨k + 1, by omega, by go_num, He.out, below_drewN hbl nq⟩
      case measure => simp [intOf]; omega
/-- the call returns a new list of pairs -/
def RetPn (l : List (Int × Int)) (w : World) : Ending → World → Prop := fun e w' => ∃ A c, e = .returned (.slice A l.length c) ∧ OwnP w' w.heap.size (.slice A l.length c) l ∧ Below w.heap.size w w'
set_option maxRecDepth 100000 in
/-- 'l[:k]' -/
theorem run_preP (A : Option Addr) (n c k : Nat) (hk : k ≤ c) (w : World) : (Instr.slice 22 (.slice A n c) none (some (.int .i64 (k : Int))) none).run Tryd.prog w = .ok (.slice A k c) w := by
  rw [run_slice_h w _ A n c Tryd.underlying22 .i64 (k : Int) (by omega) (by omega), show Tryd.prog.elem 22 = 42 from by kernel_rfl, Tryd.sizeOf42 w]
  simp [Result.andThen, sliced, Addr.add]
set_option maxRecDepth 100000 in
/-- 'l[k:]' -/
theorem run_sufP (a : Addr) (n c k : Nat) (hk : k ≤ n) (w : World) : (Instr.slice 22 (.slice (some a) n c) (some (.int .i64 (k : Int))) none none).run Tryd.prog w = .ok (.slice (some (if c = k then a else a.add (k * 2))) (n - k) (c - k)) w := by
  rw [run_slice_l w _ _ n c Tryd.underlying22 .i64 (k : Int) (by omega) (by omega), show Tryd.prog.elem 22 = 42 from by kernel_rfl, Tryd.sizeOf42 w]
  simp only [Result.andThen, sliced, Int.toNat_natCast]
  by_cases h : c = k
  · rw [if_pos h, if_pos h]
  · rw [if_neg h, if_neg h]; rfl
set_option maxRecDepth 100000 in
theorem run_sufP0 (n c k : Nat) (hk : k ≤ n) (w : World) : (Instr.slice 22 (.slice none n c) (some (.int .i64 (k : Int))) none none).run Tryd.prog w = .ok (.slice none (n - k) (c - k)) w := by
  rw [run_slice_l w _ _ n c Tryd.underlying22 .i64 (k : Int) (by omega) (by omega), show Tryd.prog.elem 22 = 42 from by kernel_rfl, Tryd.sizeOf42 w]
  simp [Result.andThen, sliced]
set_option maxRecDepth 100000 in
/-- 'append(s, t...)' of pairs, in a region that draws its order -/
theorem eff_appPr {o : Oper} {a : Act} (s x : Operand)
    (ho : o.op = .call { callee := .builtin .append, args := #[s, x], argTypes := #[22, 22] })
    (X : World) (base : Nat) (v : Value) (l : List (Int × Int)) (B : Option Addr) (l2 : List (Int × Int)) (n2 c : Nat) (hown : OwnP X base v l) (hr : RP X B l2) (hn2 : n2 = l2.length) (hB : B = none → l2 = [] ∧ c = 0) (hs : a.eval s = v) (hx : a.eval x = .slice B n2 c)
    (hlen : l.length + l2.length ≤ 1000000) (hbase : base ≤ X.heap.size) {Post : Value → World → Prop}
    (h : ∀ v' w', OwnP w' base v' (l ++ l2) → Below base X w' → X.grownBy w' v.ownBlock → Post v' w') : Eff Tryd.prog o a X Post := by
  subst hn2
  obtain ⟨i0, hi, hz0, hz1, hz2⟩ := info_parts info_pairR
  unfold Eff
  cases B with
  | none =>
    obtain ⟨rfl, rfl⟩ := hB rfl
    have hrun := run_append_owned_none (P := Tryd.prog) (w := X) base 22 o.type 42 i0 2 Tryd.underlying22 hi v l.length _ hown
    have hp := h v X (by rw [List.append_nil]; exact hown) (Below.refl _ _) (grownBy_refl _ _)
    unfold Oper.wp
    simp [execOp, ho, resolve, invoke, builtin, hs, hx, hrun, Result.andThen]
    exact ⟨v, rfl, hp⟩
  | some ad =>
    refine wp_append_own X s x 22 ho base 42 i0 (.agg #[.int .i64 0, .int .i64 0]) 2 16 Tryd.underlying22 hi hz0 hz1 hz2 rfl (by decide) v l.length _ hs hown ad l2.length c (flatP l2) hx (by rw [flatP_length]) (fun j u hu => ?_)
      (by intro u hu; unfold flatP at hu; obtain ⟨q, _, hq⟩ := List.mem_flatMap.1 hu; simp at hq; rcases hq with rfl | rfl <;> rfl) (by unfold maxLen; omega) (by omega) hbase ?_
    · have hj : j < l2.length * 2 := by have := (List.getElem?_eq_some_iff.1 hu).1; rw [flatP_length] at this; exact this
      obtain ⟨f0, f1⟩ := flatP_at l2 (j / 2) (by omega)
      obtain ⟨b, off, hA, hc, hd⟩ := hr (j / 2) (by omega)
      injection hA with hA; subst hA
      rw [show (⟨b, off, none⟩ : Addr).add j = ⟨b, off + j, none⟩ by unfold Addr.add; split <;> simp_all]
      rcases Nat.mod_two_eq_zero_or_one j with e | e
      · have ej : j / 2 * 2 = j := by omega
        rw [ej] at f0 hc
        rw [f0] at hu; injection hu with hu; rw [hc, hu]
      · have ej : j / 2 * 2 + 1 = j := by omega
        have ej2 : off + j / 2 * 2 + 1 = off + j := by omega
        rw [ej] at f1
        rw [ej2] at hd
        rw [f1] at hu; injection hu with hu; rw [hd, hu]
    · intro v' w1 hown' hgrow _
      refine ⟨v', rfl, h v' w1 ?_ ((Below.refl base X).grown hgrow hbase (fun k hk => (hown.lt k hk).1)) hgrow⟩
      unfold OwnP
      have e : flatP (l ++ l2) = flatP l ++ flatP l2 := by unfold flatP; rw [List.flatMap_append]
      rw [List.length_append, e]; exact hown'
theorem own_onePr (w : World) (p : Int × Int) (b : Nat) (hb : b ≤ w.heap.size) : OwnP (w.alloc (.cells #[.int .i64 p.1, .int .i64 p.2] 42)) b (.slice (some ⟨w.heap.size, 0, none⟩) 1 1) [p] := World.ownsRow_lit (size := 2) w #[.int .i64 p.1, .int .i64 p.2] 1 hb (by decide) rfl
theorem OwnP.rpr {w : World} {b : Nat} {A : Option Addr} {n c : Nat} {l : List (Int × Int)} (h : OwnP w b (.slice A n c) l) : RP w A l := by
  obtain ⟨A', c', e, hr, _⟩ := h.form
  injection e with e1; subst e1; exact hr
theorem OwnP.some' {w : World} {b n c : Nat} {A : Option Addr} {l : List (Int × Int)} (h : OwnP w b (.slice A n c) l) (hl : 0 < l.length) : (∃ g, A = some ⟨g, 0, none⟩) ∧ l.length ≤ c := by
  obtain ⟨_, h2⟩ := h
  rcases h2 with ⟨_, h0⟩ | ⟨g, cap, cur, e, _, _, hc, _⟩
  · omega
  · injection e with e1 _ e2
    subst e2
    exact ⟨⟨g, e1⟩, hc⟩
/-- the pair at k comes before p -/
def befB (l : List (Int × Int)) (p : Int × Int) (k : Nat) : Bool := decide (k < l.length) && ltB (l.getD k (0, 0)) p
set_option maxRecDepth 100000 in
set_option maxHeartbeats 4000000 in
theorem rPut_any (A : Option Addr) (l : List (Int × Int)) (c : Nat) (p : Int × Int) (w : World) (hr : RP w A l) (hl : l.length ≤ 100000) (hA : A = none → l = [] ∧ c = 0) (hc : l.length ≤ c) :
    Calls Tryd.prog 94 #[.slice A l.length c, .agg #[.int .i64 p.1, .int .i64 p.2]] w (RetPn (putL l p) w) := by
  have HA := Lib.hid hA
  clear hA
  go_enter Tryd.func94, Tryd.ntmps94
  go_upto_region 1 with fail
  obtain ⟨W0, hW, c0, c1, hb0, hlt0⟩ := boxed w 42 (.int .i64 p.1) (.int .i64 p.2)
  rw [hW]
  have hr0 := hr.below hb0
  clear hW hr
  go_wp2_with fail
  go_loopw [5] (fun i wr => ∃ k : Nat, k ≤ l.length ∧ i = .int .i64 k ∧ (∀ j (h : j < l.length), j < k → ltB l[j] p = true) ∧ Below W0.heap.size W0 wr) (fun i _ => l.length - (intOf i).toNat)
  case atStart => exact ⟨0, Nat.zero_le _, rfl, (fun j _ hj => absurd hj (Nat.not_lt_zero j)), Below.refl _ _⟩
  case round =>
    obtain ⟨k, hk, rfl, hall, hbl⟩ := hrel
    have Hall := Lib.hid hall
    clear hall
    have d0 := (hbl.cell (lt_of_cell c0)).trans c0
    have d1 := (hbl.cell (lt_of_cell c1)).trans c1
    go_upto_region 2 with fail
    go_cut [18] (fun v wx => v = .bool (befB l p k) ∧ Below W0.heap.size W0 wx)
    case first =>
      by_cases hlt : k < l.length
      · obtain ⟨b, o, rfl, hc0, hc1⟩ := (hr0.below hbl).at_ hlt
        have hbe : befB l p k = ltB l[k] p := by
          unfold befB
          rw [decide_eq_true hlt, Bool.true_and]
          simp [List.getD, hlt]
        have hd : decide ((k : Int) < (l.length : Int)) = true := decide_eq_true (by omega)
        generalize l[k] = q at *
        have Hbe := Lib.hid hbe
        clear hbe
        refine wp_region_textB [10] (fun w' => Below wr.heap.size wr w') (fun _ => True) (by kernel_rfl) (by kernel_rfl) (by kernel_rfl) (Below.refl _ _).drew trivial ?_
        repeat (first
          | (refine TxtBL.skip (by rfl) ?_; simp only [Act.put, List.setIfInBounds_toArray, List.set_cons_zero, List.set_cons_succ])
          | (refine TxtBL.take (by rfl) (by rfl) ?_; apply Exists.intro; refine ⟨fun w1 hS1 => ?_, ?_⟩; (focus ((have g0 := (hS1.cell (lt_of_cell d0)).trans d0; have g1 := (hS1.cell (lt_of_cell d1)).trans d1; have g2 := (hS1.cell (lt_of_cell hc0)).trans hc0; have g3 := (hS1.cell (lt_of_cell hc1)).trans hc1); go_simp; with_reducible rfl)); simp only [Act.put, List.setIfInBounds_toArray, List.set_cons_zero, List.set_cons_succ])
          | (refine TxtBL.takeE (by rfl) (by rfl) ?_; apply Exists.intro; refine ⟨fun w1 hS1 => ?_, ?_⟩; (focus ((have g0 := (hS1.cell (lt_of_cell d0)).trans d0; have g1 := (hS1.cell (lt_of_cell d1)).trans d1; have g2 := (hS1.cell (lt_of_cell hc0)).trans hc0; have g3 := (hS1.cell (lt_of_cell hc1)).trans hc1); go_simp; with_reducible rfl)); simp only [Act.put, List.setIfInBounds_toArray, List.set_cons_zero, List.set_cons_succ]))
        refine TxtBL.call (f := 128) (args := #[.agg #[.int .i64 q.1, .int .i64 q.2], .agg #[.int .i64 p.1, .int .i64 p.2]]) (fun u => u = .bool (ltB q p)) (fun _ _ => True) (by rfl) (by rfl) ⟨_, rfl⟩ (fun w1 hS1 hJ1 => by go_simp) (fun w1 hS1 hJ1 => ?_) ?_
        · refine (rLess_any q p w1).mono ?_
          rintro e w' ⟨rfl, hb⟩
          exact ⟨_, rfl, hS1.trans (hb.mono hS1.size), rfl, trivial⟩
        rintro _ rfl
        simp only [Act.put, List.setIfInBounds_toArray, List.set_cons_zero, List.set_cons_succ]
        repeat (first
          | (refine TxtBL.skip (by rfl) ?_; simp only [Act.put, List.setIfInBounds_toArray, List.set_cons_zero, List.set_cons_succ])
          | (refine TxtBL.take (by rfl) (by rfl) ?_; apply Exists.intro; refine ⟨fun w1 hS1 => ?_, ?_⟩; (focus (skip; go_simp; with_reducible rfl)); simp only [Act.put, List.setIfInBounds_toArray, List.set_cons_zero, List.set_cons_succ])
          | (refine TxtBL.takeE (by rfl) (by rfl) ?_; apply Exists.intro; refine ⟨fun w1 hS1 => ?_, ?_⟩; (focus (skip; go_simp; with_reducible rfl)); simp only [Act.put, List.setIfInBounds_toArray, List.set_cons_zero, List.set_cons_succ]))
        refine TxtBL.nil (fun W2 hS2 _ => ?_)
        go_wp2_with fail
        go_meet
        exact ⟨by rw [Hbe.out], hbl.trans (hS2.mono hbl.size)⟩
      · have hbe : befB l p k = false := by unfold befB; rw [decide_eq_false hlt]; rfl
        have hd : decide ((k : Int) < (l.length : Int)) = false := decide_eq_false (by omega)
        have Hbe := Lib.hid hbe
        clear hbe
        go_quiet (fail)
        go_wp2_with fail
        go_meet
        exact ⟨by rw [Hbe.out], below_drewN hbl nq⟩
    obtain ⟨rfl, hb2⟩ := hcut
    clear d0 d1 hbl
    obtain ⟨W3, hW3⟩ : ∃ W3, W3 = wc := ⟨_, rfl⟩
    subst hW3
    cases hbe : befB l p k
    case true =>
      have hkl : k < l.length := by unfold befB at hbe; rw [Bool.and_eq_true, decide_eq_true_iff] at hbe; exact hbe.1
      have hq : ltB l[k] p = true := by
        unfold befB at hbe
        rw [Bool.and_eq_true] at hbe
        have := hbe.2
        simpa [List.getD, hkl] using this
      have Hq := Lib.hid hq
      clear hq hbe
      go_wp2_with fail
      go_roundw
      case rel => exact ⟨k + 1, hkl, by go_num, (fun j hj hjk => by rcases Nat.lt_succ_iff_lt_or_eq.1 hjk with h | rfl; exact Hall.out j hj h; exact Hq.out), hb2⟩
      case measure => simp [intOf]; omega
    case false =>
      have hput : putL l p = l.take k ++ [p] ++ l.drop k := putL_at l k hk Hall.out (fun h => by
        unfold befB at hbe
        rw [decide_eq_true h, Bool.true_and] at hbe
        simpa [List.getD, h] using hbe)
      obtain ⟨F, hF⟩ : ∃ F, l.take k = F := ⟨_, rfl⟩
      obtain ⟨R, hR⟩ : ∃ R, l.drop k = R := ⟨_, rfl⟩
      have hFl : F.length = k := by rw [← hF, List.length_take]; omega
      have hRl : R.length = l.length - k := by rw [← hR, List.length_drop]
      have hrw := hr0.below hb2
      have hF0 := hrw.take k
      rw [hF] at hF0
      rw [hF, hR] at hput
      have d0 := (hb2.cell (lt_of_cell c0)).trans c0
      have d1 := (hb2.cell (lt_of_cell c1)).trans c1
      have Hput := Lib.hid hput; have HFl := Lib.hid hFl; have HRl := Lib.hid hRl; have HR := Lib.hid hR; have HF0 := Lib.hid hF0; have Hrw := Lib.hid hrw; have HFN := Lib.hid (show A = none → F = [] ∧ c = 0 from fun h => ⟨by rw [← hF, (HA.out h).1]; simp, (HA.out h).2⟩)
      have hsl := run_preP A l.length c k (by omega)
      have hkb : k ≤ 100000 := by omega
      clear hput hFl hRl hR hF hF0 hrw hbe Hall
      go_upto_region 4 with fail
      go_cut [6] (fun v wx => ∃ A' c', v = Value.slice A' (k + 1) c' ∧ OwnP wx W3.heap.size (.slice A' (k + 1) c') (F ++ [p]) ∧ Below W3.heap.size W3 wx)
      case first =>
        refine wp_region_tree [3, 5, 6] (fun w' => Below W3.heap.size W3 w') (fun w' => True) 8 [0, 1, 2, 3, 4, 5, 6, 7] (by rfl) (by decide) (by kernel_rfl) (by kernel_rfl) (Below.refl _ _).drew trivial ?_
        refine TxtT.pure 0 (by rfl) (by rw [List.getElem?_toArray]; rfl) (by rfl) (by as_aux_lemma => kernel_rfl) (by rfl) ?_; apply Exists.intro; refine ⟨fun w1 hS1 => ?_, ?_⟩; (focus (skip; go_simp; with_reducible rfl))
        rw [show List.erase [0, 1, 2, 3, 4, 5, 6, 7] 0 = [1, 2, 3, 4, 5, 6, 7] from rfl]; simp only [Act.put, List.setIfInBounds_toArray, List.set_cons_zero, List.set_cons_succ]
        refine TxtT.pure 1 (by rfl) (by rw [List.getElem?_toArray]; rfl) (by rfl) (by as_aux_lemma => kernel_rfl) (by rfl) ?_; apply Exists.intro; refine ⟨fun w1 hS1 => ?_, ?_⟩; (focus (skip; go_simp; with_reducible rfl))
        rw [show List.erase [1, 2, 3, 4, 5, 6, 7] 1 = [2, 3, 4, 5, 6, 7] from rfl]; simp only [Act.put, List.setIfInBounds_toArray, List.set_cons_zero, List.set_cons_succ]
        refine TxtT.pure 2 (by rfl) (by rw [List.getElem?_toArray]; rfl) (by rfl) (by as_aux_lemma => kernel_rfl) (by rfl) ?_; apply Exists.intro; refine ⟨fun w1 hS1 => ?_, ?_⟩; (focus (skip; go_simp; with_reducible rfl))
        rw [show List.erase [2, 3, 4, 5, 6, 7] 2 = [3, 4, 5, 6, 7] from rfl]; simp only [Act.put, List.setIfInBounds_toArray, List.set_cons_zero, List.set_cons_succ]
        refine TxtT.pure 4 (by rfl) (by rw [List.getElem?_toArray]; rfl) (by rfl) (by as_aux_lemma => kernel_rfl) (by rfl) ?_; apply Exists.intro; refine ⟨fun w1 hS1 => ?_, ?_⟩; (focus ((have g0 := (hS1.cell (lt_of_cell d0)).trans d0; have g1 := (hS1.cell (lt_of_cell d1)).trans d1); go_simp; with_reducible rfl))
        rw [show List.erase [3, 4, 5, 6, 7] 4 = [3, 5, 6, 7] from rfl]; simp only [Act.put, List.setIfInBounds_toArray, List.set_cons_zero, List.set_cons_succ]
        refine TxtT.two 3 5 (by as_aux_lemma => kernel_rfl) (by rw [List.getElem?_toArray]; rfl) (by rw [List.getElem?_toArray]; rfl) (by rfl) (by rfl) (by rfl) (by rfl) (fun v => ∃ A c, v = Value.slice A k c) (fun v w' => OwnP w' W3.heap.size v F) (fun v => ∃ g, v = Value.slice (some ⟨g, 0, none⟩) 1 1) (fun v w' => OwnP w' W3.heap.size v [p]) (fun w1 hS1 hJ1 => ?_) (fun w1 hS1 hJ1 => ?_) ?_ ?_
        · refine eff_appPr (.const (.slice none 0 0)) (.tmp 23) (by rfl) w1 W3.heap.size (.slice none 0 0) [] A F k c (OwnP.nil _ _) (HF0.out.below hS1) HFl.out.symm HFN.out (by rfl) (by rfl) (by simp [HFl.out]; omega) hS1.size fun v' w' hown' hb hg => ?_
          rw [List.nil_append] at hown'
          obtain ⟨A', c', e⟩ := hown'.shape
          exact ⟨hS1.trans hb, ⟨A', c', by rw [e, HFl.out]⟩, hown'⟩
        · exact Eff.value (w' := w1.alloc (.cells #[.int .i64 p.1, .int .i64 p.2] 42)) (v := .slice (some ⟨w1.heap.size, 0, none⟩) 1 1) (by go_simp) ⟨hS1.trans ((newB w1 _).mono hS1.size), ⟨_, rfl⟩, own_onePr w1 p _ hS1.size⟩
        · rintro _ ⟨A4, c4, rfl⟩
          rw [show List.erase [3, 5, 6, 7] 3 = [5, 6, 7] from rfl]; simp only [Act.put, List.setIfInBounds_toArray, List.set_cons_zero, List.set_cons_succ]
          refine TxtT.one 5 (by as_aux_lemma => kernel_rfl) (by rw [List.getElem?_toArray]; rfl) (by rfl) (by rfl) (fun v => ∃ g, v = Value.slice (some ⟨g, 0, none⟩) 1 1) (fun v w' => OwnP w' W3.heap.size (.slice A4 k c4) F ∧ OwnP w' W3.heap.size v [p]) (fun w1 hS1 hJ1 => ?_) ?_
          · exact Eff.value (w' := w1.alloc (.cells #[.int .i64 p.1, .int .i64 p.2] 42)) (v := .slice (some ⟨w1.heap.size, 0, none⟩) 1 1) (by go_simp) ⟨hS1.trans ((newB w1 _).mono hS1.size), ⟨_, rfl⟩, ownsRow_below hJ1 (newB w1 _), own_onePr w1 p _ hS1.size⟩
          rintro _ ⟨g5, rfl⟩
          rw [show List.erase [5, 6, 7] 5 = [6, 7] from rfl]; simp only [Act.put, List.setIfInBounds_toArray, List.set_cons_zero, List.set_cons_succ]
          refine TxtT.one 6 (by as_aux_lemma => kernel_rfl) (by rw [List.getElem?_toArray]; rfl) (by rfl) (by rfl) (fun v => ∃ A c, v = Value.slice A (k + 1) c) (fun v w' => OwnP w' W3.heap.size v (F ++ [p])) (fun w1 hS1 hJ1 => ?_) ?_
          · refine eff_appPr (.tmp 24) (.tmp 26) (by rfl) w1 W3.heap.size (.slice A4 k c4) F (some ⟨g5, 0, none⟩) [p] 1 1 hJ1.1 (OwnP.rpr hJ1.2) rfl (fun e => by cases e) (by rfl) (by rfl) (by simp [HFl.out]; omega) hS1.size fun v' w' hown' hb hg => ?_
            obtain ⟨A', c', e⟩ := hown'.shape
            exact ⟨hS1.trans hb, ⟨A', c', by rw [e, List.length_append, HFl.out]; rfl⟩, hown'⟩
          rintro _ ⟨A6, c6, rfl⟩
          rw [show List.erase [6, 7] 6 = [7] from rfl]; simp only [Act.put, List.setIfInBounds_toArray, List.set_cons_zero, List.set_cons_succ]
          refine TxtT.pure 7 (by rfl) (by rw [List.getElem?_toArray]; rfl) (by rfl) (by as_aux_lemma => kernel_rfl) (by rfl) ?_; apply Exists.intro; refine ⟨fun w1 hS1 => ?_, ?_⟩; (focus (skip; go_simp; with_reducible rfl))
          rw [show List.erase [7] 7 = [] from rfl]; simp only [Act.put, List.setIfInBounds_toArray, List.set_cons_zero, List.set_cons_succ]
          refine ⟨rfl, fun w1 hS1 hJ1 => ?_⟩
          go_wp2_with fail
          go_meet
          exact ⟨A6, c6, rfl, hJ1, hS1⟩
        · rintro _ ⟨g5, rfl⟩
          rw [show List.erase [3, 5, 6, 7] 5 = [3, 6, 7] from rfl]; simp only [Act.put, List.setIfInBounds_toArray, List.set_cons_zero, List.set_cons_succ]
          refine TxtT.one 3 (by as_aux_lemma => kernel_rfl) (by rw [List.getElem?_toArray]; rfl) (by rfl) (by rfl) (fun v => ∃ A c, v = Value.slice A k c) (fun v w' => OwnP w' W3.heap.size v F ∧ OwnP w' W3.heap.size (.slice (some ⟨g5, 0, none⟩) 1 1) [p]) (fun w1 hS1 hJ1 => ?_) ?_
          · refine eff_appPr (.const (.slice none 0 0)) (.tmp 23) (by rfl) w1 W3.heap.size (.slice none 0 0) [] A F k c (OwnP.nil _ _) (HF0.out.below hS1) HFl.out.symm HFN.out (by rfl) (by rfl) (by simp [HFl.out]; omega) hS1.size fun v' w' hown' hb hg => ?_
            rw [List.nil_append] at hown'
            obtain ⟨A', c', e⟩ := hown'.shape
            exact ⟨hS1.trans hb, ⟨A', c', by rw [e, HFl.out]⟩, hown', World.ownsRow.kept hJ1 hg (.inr (by simp [Value.ownBlock]))⟩
          rintro _ ⟨A4, c4, rfl⟩
          rw [show List.erase [3, 6, 7] 3 = [6, 7] from rfl]; simp only [Act.put, List.setIfInBounds_toArray, List.set_cons_zero, List.set_cons_succ]
          refine TxtT.one 6 (by as_aux_lemma => kernel_rfl) (by rw [List.getElem?_toArray]; rfl) (by rfl) (by rfl) (fun v => ∃ A c, v = Value.slice A (k + 1) c) (fun v w' => OwnP w' W3.heap.size v (F ++ [p])) (fun w1 hS1 hJ1 => ?_) ?_
          · refine eff_appPr (.tmp 24) (.tmp 26) (by rfl) w1 W3.heap.size (.slice A4 k c4) F (some ⟨g5, 0, none⟩) [p] 1 1 hJ1.1 (OwnP.rpr hJ1.2) rfl (fun e => by cases e) (by rfl) (by rfl) (by simp [HFl.out]; omega) hS1.size fun v' w' hown' hb hg => ?_
            obtain ⟨A', c', e⟩ := hown'.shape
            exact ⟨hS1.trans hb, ⟨A', c', by rw [e, List.length_append, HFl.out]; rfl⟩, hown'⟩
          rintro _ ⟨A6, c6, rfl⟩
          rw [show List.erase [6, 7] 6 = [7] from rfl]; simp only [Act.put, List.setIfInBounds_toArray, List.set_cons_zero, List.set_cons_succ]
          refine TxtT.pure 7 (by rfl) (by rw [List.getElem?_toArray]; rfl) (by rfl) (by as_aux_lemma => kernel_rfl) (by rfl) ?_; apply Exists.intro; refine ⟨fun w1 hS1 => ?_, ?_⟩; (focus (skip; go_simp; with_reducible rfl))
          rw [show List.erase [7] 7 = [] from rfl]; simp only [Act.put, List.setIfInBounds_toArray, List.set_cons_zero, List.set_cons_succ]
          refine ⟨rfl, fun w1 hS1 hJ1 => ?_⟩
          go_wp2_with fail
          go_meet
          exact ⟨A6, c6, rfl, hJ1, hS1⟩
      obtain ⟨A6, c6, rfl, hown, hb6⟩ := hcut
      obtain ⟨w6, hw6⟩ : ∃ w6, w6 = wc := ⟨_, rfl⟩
      subst hw6
      have Hown := Lib.hid hown
      have hbw6 := endB hb0 (hb2.trans (hb6.mono hb2.size))
      have hF1 : (F ++ [p]).length = k + 1 := by rw [List.length_append, HFl.out]; rfl
      have HF1 := Lib.hid hF1
      obtain ⟨F1, hF1'⟩ : ∃ F1, F ++ [p] = F1 := ⟨_, rfl⟩
      have hput := Hput.out
      have hown' := Hown.out
      rw [hF1'] at hF1 hput hown'
      have HF1 := Lib.hid hF1; have Hput := Lib.hid hput; have Hown := Lib.hid hown'
      clear hF1 hput hown hown' hF1' hsl d0 d1
      have hsw : w.heap.size ≤ W3.heap.size := Nat.le_trans hb0.size (by have := hb2.size; omega)
      have hsw6 : W3.heap.size ≤ w6.heap.size := hb6.size
      cases A with
      | none =>
        obtain ⟨rfl, rfl⟩ := HA.out rfl
        obtain rfl : k = 0 := Nat.le_zero.1 hk
        have hR0 : R = [] := by rw [← HR.out]; rfl
        have hput := Hput.out
        rw [hR0, List.append_nil] at hput
        obtain ⟨⟨g6, hg6⟩, hc6⟩ := Hown.out.some' (by rw [HF1.out]; omega)
        rw [HF1.out] at hc6
        have Hput := Lib.hid hput
        have Hl1 := Lib.hid (show (putL [] p).length = 0 + 1 by rw [hput, HF1.out])
        clear hput hR0
        subst hg6
        go_wp2_with fail
        go_ret
        refine ⟨some ⟨g6, 0, none⟩, c6, by rw [Hl1.out]; rfl, ?_, hbw6⟩
        rw [Hl1.out, Hput.out]
        exact OwnP.mono' Hown.out hsw
      | some ad =>
        have hsu := run_sufP ad l.length c k hk
        have hRr : RP w6 (some (if c = k then ad else ad.add (k * 2))) R := by
          rw [← HR.out]
          by_cases e : k = l.length
          · have : l.drop k = [] := List.drop_eq_nil_of_le (by omega)
            rw [this]; exact RP.nil _ _
          · have hrl := (hr0.below hb2).below hb6
            obtain ⟨b, o, hA, _⟩ := hrl 0 (by omega)
            injection hA with hA
            subst hA
            rw [if_neg (by omega), show (⟨b, o, none⟩ : Addr).add (k * 2) = ⟨b, o + k * 2, none⟩ by unfold Addr.add; split <;> simp_all]
            exact hrl.drop k
        have HRr := Lib.hid hRr
        have Hput2 := Lib.hid Hput.out.symm
        clear hRr
        generalize (if c = k then ad else ad.add (k * 2)) = a2 at *
        go_wp2_with (at_builtin; refine wpList_appPr (by rfl) _ _ (by rfl) w6 W3.heap.size _ F1 (some a2) R _ _ Hown.out HRr.out HRl.out.symm (fun e => by cases e) (by rfl) (by rfl) (by rw [HF1.out, HRl.out]; omega) hsw6 ?_; intro v' w1 hown hb1 hg1; rw [Hput2.out] at hown; (obtain ⟨A', c', rfl⟩ := hown.shape); have Hown := Lib.hid hown; have Hb1 := Lib.hid hb1; clear hown hg1 hb1)
        go_ret
        exact ⟨_, _, rfl, OwnP.mono' Hown.out hsw, hbw6.trans (Hb1.out.mono hsw)⟩
theorem boxT (w : World) (N x y : Int) (v : Value) : ∃ W0, ((w.alloc (.cells #[.int .i64 N, v] 24)).alloc (.cells #[.int .i64 x, .int .i64 y] 42)).alloc (.cells #[.int .i64 0, .slice none 0 0] 24) = W0 ∧ Blk W0 w.heap.size 24 #[.int .i64 N, v] ∧ Blk W0 (w.heap.size + 1) 42 #[.int .i64 x, .int .i64 y] ∧ Blk W0 (w.heap.size + 2) 24 #[.int .i64 0, .slice none 0 0] ∧ Below w.heap.size w W0 ∧ W0.heap.size = w.heap.size + 3 := by
  have k0 := Blk.new w 24 #[.int .i64 N, v]
  have k1 := Blk.new (w.alloc (.cells #[.int .i64 N, v] 24)) 42 #[.int .i64 x, .int .i64 y]
  have k2 := Blk.new ((w.alloc (.cells #[.int .i64 N, v] 24)).alloc (.cells #[.int .i64 x, .int .i64 y] 42)) 24 #[.int .i64 0, .slice none 0 0]
  refine ⟨_, rfl, (k0.alloc _).alloc _, ?_, ?_, (((Below.refl _ _).alloc (Nat.le_refl _) _).alloc (by simp) _).alloc (by simp; omega) _, by simp⟩
  · have := k1.alloc (.cells #[.int .i64 0, .slice none 0 0] 24)
    simpa using this
  · simpa using k2
/-- the call returns a graph -/
def RetTr (N : Int) (G : List (Int × Int)) (w : World) : Ending → World → Prop := fun e w' => ∃ A c, e = .returned (.agg #[.int .i64 N, .slice A G.length c]) ∧ RP w' A G ∧ (A = none → G = [] ∧ c = 0) ∧ G.length ≤ c ∧ Below w.heap.size w w'
theorem OwnP.fit {w : World} {b n c : Nat} {A : Option Addr} {l : List (Int × Int)} (h : OwnP w b (.slice A n c) l) : (A = none → l = [] ∧ c = 0) ∧ l.length ≤ c := by
  obtain ⟨_, h2⟩ := h
  rcases h2 with ⟨e, h0⟩ | ⟨g, cap, cur, e, _, _, hc, _⟩
  · injection e with e1 e2 e3
    have : l = [] := List.eq_nil_of_length_eq_zero h0
    subst this
    exact ⟨fun _ => ⟨rfl, e3⟩, Nat.zero_le _⟩
  · injection e with e1 _ e2
    subst e2
    exact ⟨fun e => (by rw [e1] at e; cases e), hc⟩
theorem gr_put {X : World} {q B : Nat} {a : World} (N : Int) (v : Value) (hk : Blk X q 24 #[.int .i64 0, .slice none 0 0]) (hb : Below B a X) (hq : B ≤ q) :
    Below B a ((X.setCell ⟨q, 0, none⟩ (.int .i64 N)).setCell ⟨q, 1, none⟩ v) ∧ ((X.setCell ⟨q, 0, none⟩ (.int .i64 N)).setCell ⟨q, 1, none⟩ v).cell? ⟨q, 0, none⟩ = some (.int .i64 N) ∧ ((X.setCell ⟨q, 0, none⟩ (.int .i64 N)).setCell ⟨q, 1, none⟩ v).cell? ⟨q, 1, none⟩ = some v ∧ X.grownBy ((X.setCell ⟨q, 0, none⟩ (.int .i64 N)).setCell ⟨q, 1, none⟩ v) (some q) := by
  have k := (hk.set_ 0 (.int .i64 N)).set_ 1 v
  exact ⟨(hb.setCell (p := ⟨q, 0, none⟩) hq _).setCell (p := ⟨q, 1, none⟩) hq _, k.cell 0, k.cell 1, grownBy_trans (grownBy_setCell X q 0 _) (grownBy_setCell _ q 1 _)⟩
theorem filt_step {p : Int × Int} {l : List (Int × Int)} {k : Nat} (h : k < l.length) : (l.take (k + 1)).filter (fun q => !decide (q = p)) = (l.take k).filter (fun q => !decide (q = p)) ++ (if l[k] = p then [] else [l[k]]) := by
  rw [List.take_succ_eq_append_getElem h, List.filter_append]
  congr 1
  by_cases e : l[k] = p <;> simp [e]
set_option maxRecDepth 100000 in
set_option maxHeartbeats 4000000 in
theorem rTog_any (A : Option Addr) (N : Int) (l : List (Int × Int)) (c : Nat) (p : Int × Int) (w : World) (hr : RP w A l) (hl : l.length ≤ 100000) (hA : A = none → l = [] ∧ c = 0) (hc : l.length ≤ c) :
    Calls Tryd.prog 59 #[.agg #[.int .i64 N, .slice A l.length c], .agg #[.int .i64 p.1, .int .i64 p.2]] w (RetTr N (togR l p) w) := by
  have HA := Lib.hid hA
  clear hA
  go_enter Tryd.func59, Tryd.ntmps59
  go_upto_region 1 with fail
  obtain ⟨W0, hW, k0, k1, k2, hb0, hs0⟩ := boxT w N p.1 p.2 (.slice A l.length c)
  rw [hW]
  clear hW
  obtain ⟨c0, c1, _, _⟩ := k0.two
  go_upto_region 2 with fail
  obtain ⟨W1, hW1, kg, hb1, hs1⟩ : ∃ W1, W0.alloc (.cells #[.int .i64 N, .slice none 0 0] 24) = W1 ∧ Blk W1 W0.heap.size 24 #[.int .i64 N, .slice none 0 0] ∧ Below W0.heap.size W0 W1 ∧ W1.heap.size = W0.heap.size + 1 := ⟨_, rfl, Blk.new _ _ _, (Below.refl _ _).alloc (Nat.le_refl _) _, by simp⟩
  rw [hW1]
  have hb01 := endB hb0 hb1
  have k01 := k0.below hb1 k0.lt
  have k11 := k1.below hb1 k1.lt
  have k21 := k2.below hb1 k2.lt
  clear hW1 k0 k1 k2 c0 c1
  rw [hs0] at kg hs1
  obtain ⟨c0, c1, _, _⟩ := k01.two
  obtain ⟨p0, p1, _, _⟩ := k11.two
  have hr1 := hr.below hb01
  have hh := gnHas_any A N l c p.1 p.2 W1 hr1 hl
  have Hh := Lib.hid hh
  clear hh
  go_wp2_with fail
  refine Hh.out.mono ?_
  rintro e w2 ⟨rfl, hb2⟩
  have hb02 := endB hb01 hb2
  have k02 := k01.below hb2 k01.lt
  have k12 := k11.below hb2 k11.lt
  have k22 := k21.below hb2 k21.lt
  have kg2 := kg.below hb2 kg.lt
  have hsz2 : w.heap.size + 4 ≤ w2.heap.size := by have := hb2.size; omega
  clear c0 c1 p0 p1 hr1 k01 k11 k21 kg hb01
  obtain ⟨c0, c1, _, _⟩ := k02.two
  obtain ⟨p0, p1, _, _⟩ := k12.two
  obtain ⟨g0, g1, g2, g3⟩ := kg2.two
  obtain ⟨q0, q1, q2, q3⟩ := k22.two
  cases hhb : hasB l p.1 p.2
  case false =>
    have hto : togR l p = putL l p := by unfold togR; rw [hhb]; rfl
    have Hto := Lib.hid hto
    have hpu := rPut_any A l c p w2 (hr.below hb02) hl HA.out hc
    have Hpu := Lib.hid hpu
    clear hto hpu hhb
    go_wp2_with fail
    refine Hpu.out.mono ?_
    rintro e w3 ⟨A3, c3, rfl, hown, hb3⟩
    obtain ⟨Z, hZ⟩ : ∃ Z, putL l p = Z := ⟨_, rfl⟩
    have hto := Hto.out
    rw [hZ] at hown hto
    obtain ⟨n3, hn3⟩ : ∃ n3, (putL l p).length = n3 := ⟨_, rfl⟩
    have hn3' : n3 = Z.length := by rw [← hn3, hZ]
    rw [hn3]
    have hb03 := endB hb02 hb3
    have k23 := k22.below hb3 k22.lt
    have kg3 := kg2.below hb3 kg2.lt
    have hZf := hown.fit
    have kgS := kg3.set_ 1 (.slice A3 Z.length c3)
    have k2S : Blk (w3.setCell ⟨w.heap.size + 3, 1, none⟩ (.slice A3 Z.length c3)) (w.heap.size + 2) 24 #[.int .i64 0, .slice none 0 0] := k23.far (p := ⟨w.heap.size + 3, 1, none⟩) (by simp) _
    have hbS : Below w.heap.size w (w3.setCell ⟨w.heap.size + 3, 1, none⟩ (.slice A3 Z.length c3)) := hb03.setCell (p := ⟨w.heap.size + 3, 1, none⟩) (by show w.heap.size ≤ w.heap.size + 3; omega) _
    obtain ⟨hY, y0, y1, hgY⟩ := gr_put N (.slice A3 Z.length c3) k2S hbS (by omega)
    have hoS := World.ownsRow.kept hown (grownBy_setCell w3 (w.heap.size + 3) 1 (.slice A3 Z.length c3)) (.inr (own_apart hown kg3 (by decide)))
    have hoY := World.ownsRow.kept hoS hgY (.inr (own_apart hoS k2S (by decide)))
    have HoY := Lib.hid (And.intro (OwnP.rpr (c := c3) hoY) (And.intro hZf hY))
    have Hto := Lib.hid hto; have Hn3 := Lib.hid hn3'
    rw [← hn3'] at y0 y1 HoY
    obtain ⟨s0, s1, s2, s3⟩ := k23.two
    obtain ⟨r0, r1, r2, r3⟩ := kg3.two
    clear hto hn3 hn3' hZ hown hoS hoY hgY hY hbS k2S kgS c0 c1 p0 p1 g0 g1 g2 g3 q0 q1 q2 q3 hZf
    go_wp2_with fail
    refine bodyPost_ret (v := .agg #[.int .i64 N, .slice A3 n3 c3]) (by simp only [results, Tryd.results59]; simp [go_sem, y0, y1]) rfl ?_
    rw [Hto.out]
    exact ⟨A3, c3, by rw [Hn3.out], HoY.out.1, HoY.out.2.1.1, by rw [← Hn3.out]; exact HoY.out.2.1.2, HoY.out.2.2⟩
  case true =>
    have hto : togR l p = l.filter (fun q => !decide (q = p)) := by unfold togR; rw [hhb]; rfl
    have Hto := Lib.hid hto
    clear hto hhb c0 c1 p0 p1 g0 g1 g2 g3 q0 q1 q2 q3
    go_wp2_with fail
    have hown0 : OwnP w2 w2.heap.size (.slice none 0 0) ((l.take 0).filter (fun q => !decide (q = p))) := OwnP.nil _ _
    go_loopw [6] (fun i wr => ∃ (k : Nat) (v : Value), k ≤ l.length ∧ i = .int .i64 (k : Int) ∧ OwnP wr w2.heap.size v ((l.take k).filter (fun q => !decide (q = p))) ∧ Blk wr (w.heap.size + 3) 24 #[.int .i64 N, v] ∧ Blk wr w.heap.size 24 #[.int .i64 N, .slice A l.length c] ∧ Blk wr (w.heap.size + 1) 42 #[.int .i64 p.1, .int .i64 p.2] ∧ Blk wr (w.heap.size + 2) 24 #[.int .i64 0, .slice none 0 0] ∧ Below w.heap.size w wr ∧ w2.heap.size ≤ wr.heap.size) (fun i _ => l.length - (intOf i).toNat)
    case atStart => exact ⟨0, _, Nat.zero_le _, rfl, hown0, kg2, k02, k12, k22, hb02, Nat.le_refl _⟩
    case round =>
      clear kg2 k02 k12 k22 hb02 hown0
      obtain ⟨k, v, hk, rfl, hown, kg, k0, k1, k2, hbw, hsw⟩ := hrel
      have Hown := Lib.hid hown
      obtain ⟨AV, cV, hvv⟩ := hown.shape
      subst hvv
      have hfl : ((l.take k).filter (fun q => !decide (q = p))).length ≤ 100000 := Nat.le_trans (List.length_filter_le ..) (by rw [List.length_take]; omega)
      obtain ⟨c0, c1, _, _⟩ := k0.two
      obtain ⟨p0, p1, _, _⟩ := k1.two
      obtain ⟨g0, g1, g2, g3⟩ := kg.two
      obtain ⟨q0, q1, q2, q3⟩ := k2.two
      clear hown
      by_cases hlt : k < l.length
      case pos =>
        obtain ⟨b, o, rfl, e0, e1⟩ := (hr.below hbw).at_ hlt
        have hblt : b < w.heap.size := by
          obtain ⟨b', o', hA', e', _⟩ := hr.at_ hlt
          injection hA' with hA'; injection hA' with hA' _; subst hA'
          exact lt_of_cell e'
        have hfs := filt_step (p := p) hlt
        have hgd := run_gdE
        have hne := run_neqE l[k].1 l[k].2 p.1 p.2
        by_cases hx : l[k] = p
        · have hd : (!(l[k].1 == p.1 && l[k].2 == p.2)) = false := by rw [hx]; simp
          rw [hd] at hne
          rw [if_pos hx, List.append_nil] at hfs
          have Hfs := Lib.hid hfs
          clear hfs hx hd
          go_wp2_with fail
          go_quiet (fail)
          clear hne hgd
          go_wp2_with fail
          go_roundw
          case rel => exact ⟨k + 1, .slice AV _ cV, hlt, by go_num, by rw [Hfs.out]; exact Hown.out, kg, k0, k1, k2, below_drewN hbw nq, hsw⟩
          case measure => simp [intOf]; omega
        · have hd : (!(l[k].1 == p.1 && l[k].2 == p.2)) = true := by
            rw [Bool.not_eq_true', Bool.and_eq_false_iff, beq_eq_false_iff_ne, beq_eq_false_iff_ne]
            by_cases h : l[k].1 = p.1
            · exact .inr (fun e => hx (Prod.ext h e))
            · exact .inl h
          rw [hd] at hne
          rw [if_neg hx] at hfs
          have Hfs := Lib.hid hfs
          clear hfs hx hd
          go_wp2_with fail
          go_quiet (fail)
          clear hne hgd
          obtain ⟨F, hF⟩ : ∃ F, (l.take k).filter (fun q => !decide (q = p)) = F := ⟨_, rfl⟩
          have hown := Hown.out
          have hfs := Hfs.out
          rw [hF] at hown hfs hfl
          have hkgq := kg
          rw [hF] at hkgq
          obtain ⟨nF, hnF⟩ : ∃ nF, ((l.take k).filter (fun q => !decide (q = p))).length = nF := ⟨_, rfl⟩
          have hnF' : nF = F.length := by rw [← hnF, hF]
          rw [hnF] at g1
          obtain ⟨x, hx⟩ : ∃ x, l[k] = x := ⟨_, rfl⟩
          rw [hx] at e0 e1 hfs
          rw [← hnF'] at hown hkgq
          have Hown := Lib.hid hown; have Hfs := Lib.hid hfs; have HnF := Lib.hid hnF'; have Hkg := Lib.hid hkgq
          clear hown hfs hnF hnF' hx hF hkgq kg
          have hB3 : w.heap.size + 3 < w2.heap.size := by omega
          have hB0 : w.heap.size < w2.heap.size := by omega
          have hBb : b < w2.heap.size := by omega
          have hb4 : Below w2.heap.size wr (wr.drewN nq) := below_drewN (Below.refl _ _) nq
          have hb4w := below_drewN hbw nq
          have hsw4 : w2.heap.size ≤ (wr.drewN nq).heap.size := hsw
          have Hkg4 := Lib.hid (show Blk (wr.drewN nq) (w.heap.size + 3) 24 _ from Hkg.out)
          have Hown4 := Lib.hid (show OwnP (wr.drewN nq) w2.heap.size _ F from Hown.out)
          have k04 : Blk (wr.drewN nq) w.heap.size 24 #[.int .i64 N, .slice (some ⟨b, o, none⟩) l.length c] := k0
          have k14 : Blk (wr.drewN nq) (w.heap.size + 1) 42 #[.int .i64 p.1, .int .i64 p.2] := k1
          have k24 : Blk (wr.drewN nq) (w.heap.size + 2) 24 #[.int .i64 0, .slice none 0 0] := k2
          clear Hkg Hown k0 k1 k2 hbw hsw hb4
          obtain ⟨wo, hwo⟩ : ∃ wo, wo = wr.drewN nq := ⟨_, rfl⟩
          have e0' : wo.cell? ⟨b, o + k * 2, none⟩ = some (.int .i64 x.1) := by rw [hwo]; exact e0
          have e1' : wo.cell? ⟨b, o + k * 2 + 1, none⟩ = some (.int .i64 x.2) := by rw [hwo]; exact e1
          have g1' : wo.cell? ⟨w.heap.size + 3, 1, none⟩ = some (.slice AV nF cV) := by rw [hwo]; exact g1
          have c1' : wo.cell? ⟨w.heap.size, 1, none⟩ = some (.slice (some ⟨b, o, none⟩) l.length c) := by rw [hwo]; exact c1
          rw [← hwo] at Hkg4 Hown4 k04 k14 k24 hb4w hsw4
          go_upto_region 9 with fail
          rw [← hwo]
          clear e0 e1 g0 g1 g2 g3 c0 c1 p0 p1 q0 q1 q2 q3 hwo
          refine wp_region_textZ [7, 8, 10] (fun w' => Below w2.heap.size wo w') (fun w' => Below wo.heap.size wo w') (by kernel_rfl) (by kernel_rfl) (by kernel_rfl) (by kernel_rfl) (Below.refl _ _).drew (Below.refl _ _).drew ?_
          repeat (first
            | (refine TxtZL.skip (by rfl) ?_; simp only [Act.put, List.setIfInBounds_toArray, List.set_cons_zero, List.set_cons_succ])
            | (refine TxtZL.take (by rfl) (by rfl) ?_; apply Exists.intro; refine ⟨fun w1 hS1 => ?_, ?_⟩; (focus ((have g0 := (hS1.cell (p := ⟨b, o + k * 2, none⟩) hBb).trans e0'; have g1 := (hS1.cell (p := ⟨b, o + k * 2 + 1, none⟩) hBb).trans e1'; have g2 := (hS1.cell (p := ⟨w.heap.size + 3, 1, none⟩) hB3).trans g1'; have g3 := (hS1.cell (p := ⟨w.heap.size, 1, none⟩) hB0).trans c1'); go_simp; with_reducible rfl)); simp only [Act.put, List.setIfInBounds_toArray, List.set_cons_zero, List.set_cons_succ])
            | (refine TxtZL.takeE' (by rfl) (by rfl) ?_; apply Exists.intro; refine ⟨fun w1 hS1 => ?_, ?_⟩; (focus ((have g0 := (hS1.cell (p := ⟨b, o + k * 2, none⟩) hBb).trans e0'; have g1 := (hS1.cell (p := ⟨b, o + k * 2 + 1, none⟩) hBb).trans e1'; have g2 := (hS1.cell (p := ⟨w.heap.size + 3, 1, none⟩) hB3).trans g1'; have g3 := (hS1.cell (p := ⟨w.heap.size, 1, none⟩) hB0).trans c1'); go_simp; with_reducible rfl)); simp only [Act.put, List.setIfInBounds_toArray, List.set_cons_zero, List.set_cons_succ]))
          refine TxtZL.eff (fun u => ∃ gv : Nat, u = .slice (some ⟨gv, 0, none⟩) 1 1) (fun u w' => OwnP w' w2.heap.size u [x] ∧ OwnP w' w2.heap.size (.slice AV nF cV) F) (by rfl) (by rfl) ⟨_, 0, rfl⟩ (fun w3 hS3 hJ3 => ?_) ?_
          · have hB2 : w2.heap.size ≤ w3.heap.size := Nat.le_trans hsw4 hS3.size
            exact Eff.value (w' := w3.alloc (.cells #[.int .i64 x.1, .int .i64 x.2] 42)) (v := .slice (some ⟨w3.heap.size, 0, none⟩) 1 1) (by go_simp) ⟨hS3.trans ((newB w3 _).mono hB2), ⟨_, rfl⟩, own_onePr w3 x _ hB2, ownsRow_below (ownsRow_below Hown4.out hJ3) (newB w3 _)⟩
          rintro u ⟨gv, rfl⟩
          simp only [Act.put, List.setIfInBounds_toArray, List.set_cons_zero, List.set_cons_succ]
          refine TxtZL.eff (fun u => ∃ A' c', u = Value.slice A' (nF + 1) c') (fun u w' => OwnP w' w2.heap.size u (F ++ [x])) (by rfl) (by rfl) ⟨_, none, 0, rfl⟩ (fun w3 hS3 hJ3 => ?_) ?_
          · refine eff_appPr (.tmp 38) (.tmp 44) (by rfl) w3 w2.heap.size (.slice AV nF cV) F (some ⟨gv, 0, none⟩) [x] 1 1 hJ3.2 (OwnP.rpr hJ3.1) rfl (fun e => by cases e) (by rfl) (by rfl) (by simp; omega) (Nat.le_trans hsw4 hS3.size) fun v' w' hown' hb hg => ?_
            obtain ⟨A', c', e⟩ := hown'.shape
            exact ⟨hS3.trans hb, ⟨A', c', by rw [e, List.length_append, ← HnF.out]; rfl⟩, hown'⟩
          rintro _ ⟨A', c', rfl⟩
          simp only [Act.put, List.setIfInBounds_toArray, List.set_cons_zero, List.set_cons_succ]
          repeat (first
            | (refine TxtZL.skip (by rfl) ?_; simp only [Act.put, List.setIfInBounds_toArray, List.set_cons_zero, List.set_cons_succ])
            | (refine TxtZL.take (by rfl) (by rfl) ?_; apply Exists.intro; refine ⟨fun w1 hS1 => ?_, ?_⟩; (focus (skip; go_simp; with_reducible rfl)); simp only [Act.put, List.setIfInBounds_toArray, List.set_cons_zero, List.set_cons_succ])
            | (refine TxtZL.takeE' (by rfl) (by rfl) ?_; apply Exists.intro; refine ⟨fun w1 hS1 => ?_, ?_⟩; (focus (skip; go_simp; with_reducible rfl)); simp only [Act.put, List.setIfInBounds_toArray, List.set_cons_zero, List.set_cons_succ]))
          refine TxtZL.last (fun w' => Blk w' (w.heap.size + 3) 24 #[.int .i64 N, .slice A' (nF + 1) c'] ∧ OwnP w' w2.heap.size (.slice A' (nF + 1) c') (F ++ [x]) ∧ Blk w' w.heap.size 24 #[.int .i64 N, .slice (some ⟨b, o, none⟩) l.length c] ∧ Blk w' (w.heap.size + 1) 42 #[.int .i64 p.1, .int .i64 p.2] ∧ Blk w' (w.heap.size + 2) 24 #[.int .i64 0, .slice none 0 0] ∧ Below w.heap.size w w' ∧ w2.heap.size ≤ w'.heap.size) (by rfl) (by rfl) (fun w4 hS4 hJ4 => ?_) ?_
          · have j3 := Hkg4.out.below hS4 hB3
            have j0 := k04.below hS4 hB0
            have j1 := k14.below hS4 (by omega)
            have j2 := k24.below hS4 (by omega)
            obtain ⟨g0, g1, g2, g3⟩ := j3.two
            exact Eff.skip (w' := w4.setCell ⟨w.heap.size + 3, 1, none⟩ (.slice A' (nF + 1) c')) (by go_simp) ⟨j3.set_ 1 _, World.ownsRow.kept hJ4 (grownBy_setCell w4 (w.heap.size + 3) 1 _) (.inr (own_apart hJ4 j3 (by decide))), j0.far (p := ⟨w.heap.size + 3, 1, none⟩) (by simp) _, j1.far (p := ⟨w.heap.size + 3, 1, none⟩) (by simp) _, j2.far (p := ⟨w.heap.size + 3, 1, none⟩) (by simp) _,
              (hb4w.trans (hS4.mono (by omega))).setCell (p := ⟨w.heap.size + 3, 1, none⟩) (by show w.heap.size ≤ w.heap.size + 3; omega) _, Nat.le_trans hsw4 (by simpa using hS4.size)⟩
          rintro u2 w5 ⟨j3, ho5, j0, j1, j2, hb5, hs5⟩
          simp only [Act.put]
          have hn1 : nF + 1 = ((l.take (k + 1)).filter (fun q => !decide (q = p))).length := by rw [Hfs.out, HnF.out, List.length_append]; rfl
          rw [← Hfs.out] at ho5
          rw [hn1] at j3 ho5
          have H5 := Lib.hid (And.intro j3 ho5)
          clear j3 ho5 hn1
          go_wp2_with fail
          go_roundw
          case rel => exact ⟨k + 1, _, hlt, by go_num, H5.out.2, H5.out.1, j0, j1, j2, hb5, hs5⟩
          case measure => simp [intOf]; omega
      case neg =>
        obtain rfl : k = l.length := by omega
        obtain ⟨Z, hZ⟩ : ∃ Z, l.filter (fun q => !decide (q = p)) = Z := ⟨_, rfl⟩
        have hown := Hown.out
        have hto := Hto.out
        rw [List.take_length, hZ] at hown
        rw [hZ] at hto
        have hkgZ := kg
        rw [List.take_length, hZ] at hkgZ
        obtain ⟨nZ, hnZ⟩ : ∃ nZ, ((l.take l.length).filter (fun q => !decide (q = p))).length = nZ := ⟨_, rfl⟩
        have hnZ' : nZ = Z.length := by rw [← hnZ, List.take_length, hZ]
        rw [hnZ] at g1
        rw [← hnZ'] at hown hkgZ
        obtain ⟨hY, y0, y1, hgY⟩ := gr_put N (.slice AV nZ cV) k2 hbw (by omega)
        have hoY := World.ownsRow.kept hown hgY (.inr (own_apart hown k2 (by decide)))
        have HoY := Lib.hid (And.intro (OwnP.rpr (c := cV) hoY) (And.intro hown.fit hY))
        have Hto := Lib.hid hto; have Hn3 := Lib.hid hnZ'
        clear hto hnZ hnZ' hZ hown hoY hgY hY hkgZ kg p0 p1 hfl Hown
        go_wp2_with fail
        refine bodyPost_ret (v := .agg #[.int .i64 N, .slice AV nZ cV]) (by simp only [results, Tryd.results59]; simp [go_sem, y0, y1]) rfl ?_
        rw [Hto.out]
        exact ⟨AV, cV, by rw [Hn3.out], HoY.out.1, HoY.out.2.1.1, HoY.out.2.1.2, HoY.out.2.2⟩
end Go.Proofs.YtncimnfhfomddaaDoor
