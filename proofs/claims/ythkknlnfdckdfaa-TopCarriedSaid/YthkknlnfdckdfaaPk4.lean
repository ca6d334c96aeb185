/- slices.Delete at packets: one packet out of a list that the call owns. -/
import Derived.Test.YthkknlnfdckdfaaPk3
namespace Go.Proofs.Ythkknlnfdckdfaa
open Go.ChangeShapes Go.WideShapes Go.ChangeAt Go.RowKit

theorem Eff.append {P : Program} {o : Oper} {a : Act} {w : World} {Post : Value → World → Prop} (d s : Operand) (t t' : TypeId) (ho : o.op = .call { callee := .builtin .append, args := #[d, s], argTypes := #[t, t'] }) (v u : Value) (hd : a.eval d = v) (hs : a.eval s = u) {v' : Value} {w' : World}
    (hr : (Builtin.append_ #[t, t'] o.type #[v, u]).run P w = .ok v' w') (h : Post v' w') : Eff P o a w Post := by
  unfold Eff Oper.wp
  simp [execOp, ho, resolve, invoke, builtin, hd, hs, hr, Result.andThen]
  exact ⟨v', rfl, h⟩
theorem run_clear_pk (w : World) (ty : TypeId) (b o c : Nat) (hc : ∀ j, j < 3 → (w.cell? ⟨b, o + j, none⟩).isSome = true) (hf : ∀ j, w.frozen? ⟨b, j, none⟩ = false) :
    (Builtin.clear_ #[48] ty #[.slice (some ⟨b, o, none⟩) 1 c]).run Try.prog w = .ok (.tuple #[]) (w.setCells b o [.bool false, .int .i64 0, .int .i64 0]) := by
  have hzc : (Builtin.zeroCells (Value.agg #[.bool false, .int .i64 0, .int .i64 0]).cells 1).toList = [.bool false, .int .i64 0, .int .i64 0] := by
    simp only [Value.cells, Builtin.zeroCells]
    apply List.ext_getElem
    · simp
    · intro i h1 h2
      have : i = 0 ∨ i = 1 ∨ i = 2 := by simp at h2; omega
      rcases this with e | e | e <;> simp [e]
  have hst := run_storeCells_cells (P := Try.prog) b o [.bool false, .int .i64 0, .int .i64 0] 0 w (by simpa using hc) (fun j _ => hf _) (by intro v hv'; simp at hv'; rcases hv' with rfl | rfl | rfl <;> rfl)
  simp only [Nat.add_zero] at hst
  have hu : Try.prog.underlying 48 = some (.slice 94) := Try.underlying48
  simp [Builtin.clear_, run_underlying hu, hzc, hst]
theorem del_cellsK {w : World} {g o i : Nat} {l : List Pk} (hi : i < l.length) (h0 : ∀ j, j < i * 3 → w.cell? ⟨g, o + j, none⟩ = (flatK l)[j]?)
    (h3 : ∀ j, j < (l.length - (i + 1)) * 3 → w.cell? ⟨g, o + i * 3 + j, none⟩ = (flatK (l.drop (i + 1)))[j]?) : ∀ j, j < (l.length - 1) * 3 → w.cell? ⟨g, o + j, none⟩ = (flatK (l.take i ++ l.drop (i + 1)))[j]? := by
  intro j hj
  have e : flatK (l.take i ++ l.drop (i + 1)) = (flatK l).take (i * 3) ++ flatK (l.drop (i + 1)) := by
    rw [flatK_append, flatK_take l i (by omega)]
  have hlen : ((flatK l).take (i * 3)).length = i * 3 := by rw [List.length_take, flatK_length]; omega
  rw [e]
  by_cases c1 : j < i * 3
  · rw [List.getElem?_append_left (by omega), List.getElem?_take_of_lt c1]; exact h0 j c1
  · rw [List.getElem?_append_right (by omega), hlen]
    have := h3 (j - i * 3) (by omega)
    rw [show o + i * 3 + (j - i * 3) = o + j by omega] at this
    exact this
theorem del_lenK {l : List Pk} {i : Nat} (hi : i < l.length) : (l.take i ++ l.drop (i + 1)).length = l.length - 1 := by
  rw [List.length_append, List.length_take, List.length_drop]; omega
theorem del_grownK {w : World} {g o o2 : Nat} {vs us : List Value} : w.grownBy ((w.drew.setCells g o vs).setCells g o2 us) (some g) := set_grownK

set_option maxRecDepth 100000 in
set_option maxHeartbeats 4000000 in
theorem delK_any (A : Option Addr) (c i base : Nat) (l : List Pk) (w : World) (hown : OwnK w base (.slice A l.length c) l) (hi : i < l.length) (hl : l.length ≤ 100000) :
    Calls Try.prog 36 #[.slice A l.length c, .int .i64 (i : Int), .int .i64 ((i : Int) + 1)] w (RetInK base (.slice A l.length c) (l.take i ++ l.drop (i + 1)) w) := by
  rcases hown with ⟨e, h0⟩ | ⟨g, o, cap, cur, e, hbg, hg, hle, hm, hs, hcell⟩
  · subst h0; simp at hi
  injection e with e1 _ e3
  subst e1 e3
  have hmax : maxLen = 9223372036854775807 := rfl
  obtain ⟨i0, hi0, hz0, hz1, hz2⟩ := info_parts info_pk
  obtain ⟨m, hm1⟩ : ∃ m, m + 1 = l.length := ⟨l.length - 1, by omega⟩
  have hthere : ∀ (W : World) (cs : Array Value), Blk W g 94 cs → cs.size = cur.size → ∀ k, k < c * 3 → (W.cell? ⟨g, o + k, none⟩).isSome = true := fun W cs h hs' k hk => by
    rw [h.cell, Array.getElem?_eq_getElem (by omega)]; rfl
  have hdl : (flatK (l.drop (i + 1))).length = (l.length - (i + 1)) * 3 := by rw [flatK_length, List.length_drop]
  have hB : Blk w.drew g 94 cur := hg
  obtain ⟨cur1, hB1, hs1⟩ := blk_setCellsK (flatK (l.drop (i + 1))) (o + i * 3) w.drew cur hB
  obtain ⟨cur2, hB2, hs2⟩ := blk_setCellsK [.bool false, .int .i64 0, .int .i64 0] (o + m * 3) _ cur1 hB1
  have hL := del_lenK hi
  have happ : ∀ (ao : Nat) (sc : Nat), (i + 1 = c ∨ ao = o + (i + 1) * 3) → ∀ ty, (Builtin.append_ #[48, 48] ty #[.slice (some ⟨g, o, none⟩) i c, .slice (some ⟨g, ao, none⟩) (l.length - (i + 1)) sc]).run Try.prog w.drew = .ok (.slice (some ⟨g, o, none⟩) m c) (w.drew.setCells g (o + i * 3) (flatK (l.drop (i + 1)))) := fun ao sc hao ty => by
    have hsrc : Src Try.prog i0.size 48 (.slice (some ⟨g, ao, none⟩) (l.length - (i + 1)) sc) (l.length - (i + 1)) (flatK (l.drop (i + 1))) w.drew := by
      rw [hz1]
      refine Src.ofSlice w.drew Try.underlying48 _ _ sc _ hdl (fun j u hu => ?_) (flatK_one _)
      have hj := (List.getElem?_eq_some_iff.1 hu).1
      rw [hdl] at hj
      rw [show (⟨g, ao, none⟩ : Addr).add j = ⟨g, ao + j, none⟩ by unfold Addr.add; split <;> simp_all]
      rcases hao with h | h
      · omega
      · subst h
        rw [← flatK_drop l (i + 1) (by omega), List.getElem?_drop] at hu
        rw [Nat.add_assoc]; exact hcell _ _ hu
    have hrun := run_append_room_src (P := Try.prog) w.drew 48 48 ty 94 i0 Try.underlying48 hi0 g o i c _ (l.length - (i + 1)) _ hsrc (by omega) (fun j hj => by rw [hz1, Nat.add_assoc]; rw [hdl] at hj; exact hthere _ cur hB rfl _ (by omega)) (fun j hj => hB.frozen _)
    rw [hz1, show i + (l.length - (i + 1)) = m by omega] at hrun
    exact hrun
  obtain ⟨W1, hW1⟩ : ∃ W1, w.drew.setCells g (o + i * 3) (flatK (l.drop (i + 1))) = W1 := ⟨_, rfl⟩
  rw [hW1] at happ hB1 hB2
  have hclr : ∀ ty, (Builtin.clear_ #[48] ty #[.slice (some ⟨g, o + m * 3, none⟩) 1 (c - m)]).run Try.prog W1 = .ok (.tuple #[]) (W1.setCells g (o + m * 3) [.bool false, .int .i64 0, .int .i64 0]) := fun ty =>
    run_clear_pk W1 ty g (o + m * 3) (c - m) (fun j hj => by rw [Nat.add_assoc]; exact hthere W1 cur1 hB1 hs1 _ (by omega)) (fun j => hB1.frozen _)
  have hfin : RetInK base (.slice (some ⟨g, o, none⟩) l.length c) (l.take i ++ l.drop (i + 1)) w (.returned (.slice (some ⟨g, o, none⟩) m c)) (W1.setCells g (o + m * 3) [.bool false, .int .i64 0, .int .i64 0]) := by
    refine ⟨some ⟨g, o, none⟩, c, by rw [hL, show l.length - 1 = m by omega], ?_, by rw [← hW1]; exact set_grownK, .inl rfl⟩
    refine own_of_cellsK hbg hB2 rfl (by omega) hm (by omega) ?_
    rw [hL]
    refine del_cellsK hi (fun j hj => ?_) (fun j hj => ?_)
    · rw [World.cell?_setCells_out g _ _ _ _ (fun _ _ => Or.inl (by show o + j < o + m * 3; omega)), ← hW1, World.cell?_setCells_out g _ _ _ _ (fun _ _ => Or.inl (by show o + j < o + i * 3; omega))]
      show w.cell? _ = _
      have hjl : j < (flatK l).length := by rw [flatK_length]; omega
      rw [List.getElem?_eq_getElem hjl]
      exact hcell j _ (List.getElem?_eq_getElem hjl)
    · rw [World.cell?_setCells_out g _ _ _ _ (fun _ _ => Or.inl (by show o + i * 3 + j < o + m * 3; omega)), ← hW1, World.cell?_setCells_in g _ _ _ (fun k hk => by rw [Nat.add_assoc]; exact hthere w.drew cur hB rfl _ (by omega)) j (by omega), List.getElem?_eq_getElem]
  have HW1 : Hid (l.length ≤ i + 1 → W1 = w.drew) := Lib.hid fun h => by
    rw [← hW1, List.drop_of_length_le h]; rfl
  have Hfin := Lib.hid hfin; have Happ := Lib.hid happ; have Hclr := Lib.hid hclr
  have hin : (i : Int) < (l.length : Int) := by omega
  have hi2 : (0 : Int) ≤ (i : Int) := by omega
  have hi3 : (i : Int) + 1 ≤ (l.length : Int) := by omega
  have hi4 : (i : Int) ≤ (i : Int) + 1 := by omega
  have hi5 : (0 : Int) ≤ (i : Int) + 1 := by omega
  have hi6 : (i : Int) ≤ (c : Int) := by omega
  have hlc : (l.length : Int) ≤ (c : Int) := by omega
  have htn : ((i : Int) + 1).toNat = i + 1 := by omega
  have heq : ((i : Int) == (i : Int) + 1) = false := by rw [beq_eq_false_iff_ne]; omega
  have hni : ¬ l.length = i := by omega
  have hmn : (m : Int) ≤ (l.length : Int) := by omega
  have hm0 : (0 : Int) ≤ (m : Int) := by omega
  have hcm : ¬ c = m := by omega
  have h1m : l.length - m = 1 := by omega
  clear hfin happ hclr hB2 hB1 hB hW1 hthere hdl hcell hL hs1 hs2 hs hg
  by_cases hcc : c = i + 1
  · subst hcc
    obtain rfl : m = i := by omega
    have hw1 := HW1.out (by omega)
    subst hw1
    have hclr := Hclr.out 0
    have ha := fun sc => Happ.out o sc (.inl rfl)
    have hfin := Hfin.out
    rw [hm1] at ha hclr hfin
    rw [show l.length - m = 1 by omega] at hclr
    simp only [Nat.sub_self] at ha
    have Ha := Lib.hid ha
    rw [hm1]
    clear Happ HW1 ha
    obtain ⟨R, hR⟩ : ∃ R, l.take m ++ l.drop l.length = R := ⟨_, rfl⟩
    rw [hR] at hfin ⊢
    have Hfin := Lib.hid hfin
    clear hR hfin
    go_enter Try.func36, Try.ntmps36
    go_upto_region 5 with fail
    refine wp_region_textZ [6, 7] (fun _ => True) (fun w' => w' = w.drew) (by kernel_rfl) (by kernel_rfl) (by kernel_rfl) (by kernel_rfl) trivial rfl ?_
    repeat (first
      | (refine TxtZL.skip (by rfl) ?_; simp only [Act.put, List.setIfInBounds_toArray, List.set_cons_zero, List.set_cons_succ])
      | (refine TxtZL.take (by rfl) (by rfl) ?_; apply Exists.intro; refine ⟨fun w1 hS1 => ?_, ?_⟩; (focus (skip; go_simp; with_reducible rfl)); simp only [Act.put, List.setIfInBounds_toArray, List.set_cons_zero, List.set_cons_succ])
      | (refine TxtZL.takeE' (by rfl) (by rfl) ?_; apply Exists.intro; refine ⟨fun w1 hS1 => ?_, ?_⟩; (focus (skip; go_simp; with_reducible rfl)); simp only [Act.put, List.setIfInBounds_toArray, List.set_cons_zero, List.set_cons_succ]))
    refine TxtZL.eff (fun v => v = .slice (some ⟨g, o, none⟩) m l.length) (fun _ w' => w' = w.drew) (by rfl) (by rfl) ⟨_, rfl⟩ (fun w1 _ hJ1 => ?_) ?_
    · subst hJ1
      exact Eff.append (.tmp 22) (.tmp 25) 48 48 rfl _ _ (by go_simp) (by go_simp; rfl) (Ha.out _ _) ⟨trivial, rfl, rfl⟩
    rintro v rfl
    simp only [Act.put, List.setIfInBounds_toArray, List.set_cons_zero, List.set_cons_succ]
    refine TxtZL.eff (fun v => v = .slice (some ⟨g, o, none⟩) m l.length) (fun _ w' => w' = w.drew) (by rfl) (by rfl) ⟨_, rfl⟩ (fun w1 _ hJ1 => Eff.value (by go_simp) ⟨trivial, rfl, hJ1⟩) ?_
    rintro v rfl
    simp only [Act.put, List.setIfInBounds_toArray, List.set_cons_zero]
    refine TxtZL.nil (fun w2 hw2 => ?_)
    subst hw2
    go_wp2_with fail
    go_ret
    exact Hfin.out
  · have ha := fun sc => Happ.out (o + (i + 1) * 3) sc (.inr rfl)
    have Ha := Lib.hid ha
    clear ha Happ
    go_enter Try.func36, Try.ntmps36
    go_upto_region 5 with fail
    refine wp_region_textZ [6, 7] (fun _ => True) (fun w' => w' = w.drew) (by kernel_rfl) (by kernel_rfl) (by kernel_rfl) (by kernel_rfl) trivial rfl ?_
    repeat (first
      | (refine TxtZL.skip (by rfl) ?_; simp only [Act.put, List.setIfInBounds_toArray, List.set_cons_zero, List.set_cons_succ])
      | (refine TxtZL.take (by rfl) (by rfl) ?_; apply Exists.intro; refine ⟨fun w1 hS1 => ?_, ?_⟩; (focus (skip; go_simp; with_reducible rfl)); simp only [Act.put, List.setIfInBounds_toArray, List.set_cons_zero, List.set_cons_succ])
      | (refine TxtZL.takeE' (by rfl) (by rfl) ?_; apply Exists.intro; refine ⟨fun w1 hS1 => ?_, ?_⟩; (focus (skip; go_simp; with_reducible rfl)); simp only [Act.put, List.setIfInBounds_toArray, List.set_cons_zero, List.set_cons_succ]))
    refine TxtZL.eff (fun v => v = .slice (some ⟨g, o, none⟩) m c) (fun _ w' => w' = W1) (by rfl) (by rfl) ⟨_, rfl⟩ (fun w1 _ hJ1 => ?_) ?_
    · subst hJ1
      exact Eff.append (.tmp 22) (.tmp 25) 48 48 rfl _ _ (by go_simp) (by go_simp; rfl) (Ha.out _ _) ⟨trivial, rfl, rfl⟩
    rintro v rfl
    simp only [Act.put, List.setIfInBounds_toArray, List.set_cons_zero, List.set_cons_succ]
    refine TxtZL.eff (fun v => v = .slice (some ⟨g, o, none⟩) m c) (fun _ w' => w' = W1) (by rfl) (by rfl) ⟨_, rfl⟩ (fun w1 _ hJ1 => Eff.value (by go_simp) ⟨trivial, rfl, hJ1⟩) ?_
    rintro v rfl
    simp only [Act.put, List.setIfInBounds_toArray, List.set_cons_zero]
    refine TxtZL.nil (fun w2 hw2 => ?_)
    subst hw2
    have hclr := Hclr.out 0
    go_wp2_with fail
    go_ret
    exact Hfin.out
end Go.Proofs.Ythkknlnfdckdfaa
