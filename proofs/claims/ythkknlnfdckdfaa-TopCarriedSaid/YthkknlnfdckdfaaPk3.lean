/- slices.Insert at packets: one packet into a list that the call owns, at any place of its block. -/
import Derived.Test.YthkknlnfdckdfaaPk2
import Derived.Shelf.Spec.SlicesInsertGrow
namespace Go.Proofs.Ythkknlnfdckdfaa
open Go.ChangeShapes Go.WideShapes Go.ChangeAt Go.RowKit

theorem run_copy_cells2 {P : Program} (w : World) (dT sT ty elem : TypeId) (b o dLen dCap : Nat) (a : Addr) (sLen sCap : Nat) (cs : List Value) (k : Nat)
    (hu : P.underlying dT = some (.slice elem)) (hs : (P.info? elem).map (·.size) = some k) (hn : cs.length = Nat.min sLen dLen * k)
    (hsrc : ∀ j v, cs[j]? = some v → w.cell? (a.add j) = some v) (hc : ∀ j, j < cs.length → (w.cell? ⟨b, o + j, none⟩).isSome = true) (hf : ∀ j, j < cs.length → w.frozen? ⟨b, o + j, none⟩ = false) (h1 : ∀ v ∈ cs, v.oneCell' = true) :
    (Builtin.copy_ #[dT, sT] ty #[.slice (some ⟨b, o, none⟩) dLen dCap, .slice (some a) sLen sCap]).run P w = .ok (goInt (Nat.min sLen dLen)) (w.setCells b o cs) := by
  have hl := run_loadCells_list (P := P) w a cs hsrc
  have hst := run_storeCells_cells (P := P) b o cs 0 w (by simpa using hc) (by simpa using hf) h1
  cases hq : P.info? elem with
  | none => simp [hq] at hs
  | some i =>
    have hi : i.size = k := by simpa [hq] using hs
    simp [Builtin.copy_, run_underlying hu, Builtin.lenOf, Builtin.firstCells, sizeOf, typeInfo, hq, hi, ← hn, hl, hst]
theorem Eff.copy {P : Program} {o : Oper} {a : Act} {w : World} {Post : Value → World → Prop} (d s : Operand) (t t' : TypeId) (ho : o.op = .call { callee := .builtin .copy, args := #[d, s], argTypes := #[t, t'] }) (v u : Value) (hd : a.eval d = v) (hs : a.eval s = u) {v' : Value} {w' : World}
    (hr : (Builtin.copy_ #[t, t'] o.type #[v, u]).run P w = .ok v' w') (h : Post v' w') : Eff P o a w Post := by
  unfold Eff
  exact wp_copy_runI w d s t t' ho v u hd hs hr ⟨v', rfl, h⟩
set_option maxRecDepth 100000 in
set_option maxHeartbeats 4000000 in
/-- there is room, and the pair comes ahead of others -/
theorem insK_shift (g o c n i gv : Nat) (l : List Pk) (p : Pk) (w : World) (cur : Array Value) (hi : i < n) (hl : l.length = n) (hroom : n + 1 ≤ c) (hc63 : c ≤ 9223372036854775807) (hgv : gv ≠ g)
    (hc : ∀ j v, (flatK l)[j]? = some v → w.cell? ⟨g, o + j, none⟩ = some v) (hB : Blk w g 94 cur) (hsz : o + c * 3 ≤ cur.size) (hV : Blk w gv 94 #[.bool p.1, .int .i64 p.2.1, .int .i64 p.2.2]) :
    Calls Try.prog 70 #[.slice (some ⟨g, o, none⟩) n c, .int .i64 (i : Int), .slice (some ⟨gv, 0, none⟩) 1 1] w fun e w' =>
      e = .returned (.slice (some ⟨g, o, none⟩) (n + 1) c) ∧ w' = (w.drew.setCells g (o + (i + 1) * 3) (flatK (l.drop i))).setCells g (o + i * 3) [.bool p.1, .int .i64 p.2.1, .int .i64 p.2.2] := by
  have hz2 : ((i : Int) == (n : Int)) = false := by rw [beq_eq_false_iff_ne]; omega
  have hsize : (Try.prog.info? 94).map (·.size) = some 3 := by kernel_rfl
  have hov : ∀ (W : World), Blk W g 94 cur → Blk W gv 94 #[.bool p.1, .int .i64 p.2.1, .int .i64 p.2.2] → ∀ lb cb, (callFunc 75 #[.slice (some ⟨gv, 0, none⟩) 1 1, .slice (some ⟨g, o + (i + 1) * 3, none⟩) lb cb]).run Try.prog W = .ok (.value (.bool false)) W := fun W h1 h2 lb cb => by
    rw [run_callFunc_extern Try.func75 (by kernel_rfl) (by kernel_rfl) (by kernel_rfl) (e := Extern.SlicesOverlaps.overlaps #[48, 48] #[4]) (by kernel_rfl),
      Lib.run_overlaps_apart W 48 4 94 Try.underlying48 3 Try.sizeOf94 ⟨gv, 0, none⟩ ⟨g, o + (i + 1) * 3, none⟩ 1 1 lb cb hgv 94 94 3 cur.size (by unfold Blk at h2; simp [World.shape?, h2]) (by unfold Blk at h1; simp [World.shape?, h1]) (by omega) (h2.frozen 0) (h2.frozen 3)]
    rfl
  have hov1 := hov w hB hV
  have hn0 : ¬ (c : Int) < (n : Int) + 1 := by omega
  have hin0 : (i : Int) ≤ (n : Int) + 1 := by omega
  have hw1 : IntKind.i64.wrap ((i : Int) + 1) = (i : Int) + 1 := by rw [IntKind.wrap_i64]; omega
  have hi0 : (0 : Int) ≤ (i : Int) := by omega
  have hin : (i : Int) ≤ (n : Int) := by omega
  have hi1 : (0 : Int) ≤ (i : Int) + 1 := by omega
  have hin1 : (i : Int) + 1 ≤ (n : Int) + 1 := by omega
  have htn : ((i : Int) + 1).toNat = i + 1 := by omega
  have htn2 : ((n : Int) + 1).toNat = n + 1 := by omega
  have hc1 : ¬ c = i := by omega
  have hc2 : ¬ c = i + 1 := by omega
  have hdl : (flatK (l.drop i)).length = (n - i) * 3 := by rw [flatK_length, List.length_drop, hl]
  have hthere : ∀ (W : World) (cs : Array Value), Blk W g 94 cs → cs.size = cur.size → ∀ k, k < c * 3 → (W.cell? ⟨g, o + k, none⟩).isSome = true := fun W cs h hs k hk => by
    rw [h.cell, Array.getElem?_eq_getElem (by omega)]; rfl
  have hcp1 : ∀ ty dc sc, (Builtin.copy_ #[48, 48] ty #[.slice (some ⟨g, o + (i + 1) * 3, none⟩) (n - i) dc, .slice (some ⟨g, o + i * 3, none⟩) (n + 1 - i) sc]).run Try.prog w.drew = .ok (goInt (Nat.min (n + 1 - i) (n - i))) (w.drew.setCells g (o + (i + 1) * 3) (flatK (l.drop i))) := fun ty dc sc =>
    run_copy_cells2 w.drew _ _ ty 94 g (o + (i + 1) * 3) _ dc ⟨g, o + i * 3, none⟩ _ sc (flatK (l.drop i)) 3 Try.underlying48 hsize (by rw [hdl]; simp only [Nat.min_def]; split <;> omega)
      (fun j v hj => by
        rw [show (⟨g, o + i * 3, none⟩ : Addr).add j = ⟨g, o + i * 3 + j, none⟩ by unfold Addr.add; split <;> simp_all]
        rw [← flatK_drop l i (by omega), List.getElem?_drop] at hj
        rw [Nat.add_assoc]; exact hc _ v hj)
      (fun j hj => by rw [Nat.add_assoc]; exact hthere w.drew cur hB rfl _ (by omega)) (fun j _ => hB.frozen _) (flatK_one _)
  obtain ⟨cur1, hB1, hsz1⟩ := blk_setCellsK (flatK (l.drop i)) (o + (i + 1) * 3) w.drew cur hB
  have hV1 : Blk (w.drew.setCells g (o + (i + 1) * 3) (flatK (l.drop i))) gv 94 #[.bool p.1, .int .i64 p.2.1, .int .i64 p.2.2] := (World.heap_setCells_other w.drew g _ _ hV.lt hgv).trans hV
  obtain ⟨W1, hW1⟩ : ∃ W1, w.drew.setCells g (o + (i + 1) * 3) (flatK (l.drop i)) = W1 := ⟨_, rfl⟩
  rw [hW1] at hcp1 hB1 hV1
  have hcp2 : ∀ ty dc, (Builtin.copy_ #[48, 48] ty #[.slice (some ⟨g, o + i * 3, none⟩) (n + 1 - i) dc, .slice (some ⟨gv, 0, none⟩) 1 1]).run Try.prog W1 = .ok (goInt (Nat.min 1 (n + 1 - i))) (W1.setCells g (o + i * 3) [.bool p.1, .int .i64 p.2.1, .int .i64 p.2.2]) := fun ty dc =>
    run_copy_cells2 W1 _ _ ty 94 g (o + i * 3) _ dc ⟨gv, 0, none⟩ _ 1 [.bool p.1, .int .i64 p.2.1, .int .i64 p.2.2] 3 Try.underlying48 hsize (by simp only [Nat.min_def]; split <;> simp <;> omega)
      (fun j v hj => by
        rw [show (⟨gv, 0, none⟩ : Addr).add j = ⟨gv, j, none⟩ by unfold Addr.add; split <;> simp_all, hV1.cell, ← hj]
        simp)
      (fun j hj => by rw [Nat.add_assoc]; exact hthere W1 cur1 hB1 hsz1 _ (by simp at hj; omega)) (fun j _ => hB1.frozen _) (by simp [Value.oneCell'])
  have Hcp1 := Lib.hid hcp1; have Hcp2 := Lib.hid hcp2; have HW1 := Lib.hid hW1
  clear hov hcp1 hcp2 hW1 hthere hdl
  go_enter Try.func70, Try.ntmps70
  go_wp2_with (simp only [hov1])
  refine wp_region_textZ [8] (fun w' => w' = w.drew) (fun _ => True) (by kernel_rfl) (by kernel_rfl) (by kernel_rfl) (by kernel_rfl) rfl trivial ?_
  repeat (first
    | (refine TxtZL.skip (by rfl) ?_; simp only [Act.put, List.setIfInBounds_toArray, List.set_cons_zero, List.set_cons_succ])
    | (refine TxtZL.take (by rfl) (by rfl) ?_; apply Exists.intro; refine ⟨fun w1 hS1 => ?_, ?_⟩; (focus (subst hS1; go_simp; with_reducible rfl)); simp only [Act.put, List.setIfInBounds_toArray, List.set_cons_zero, List.set_cons_succ])
    | (refine TxtZL.takeE' (by rfl) (by rfl) ?_; apply Exists.intro; refine ⟨fun w1 hS1 => ?_, ?_⟩; (focus (subst hS1; go_simp; with_reducible rfl)); simp only [Act.put, List.setIfInBounds_toArray, List.set_cons_zero, List.set_cons_succ]))
  refine TxtZL.last (fun w' => w' = W1) (by rfl) (by rfl) (fun w1 hS1 hJ1 => ?_) ?_
  · subst hS1
    exact Eff.copy _ _ 48 48 rfl _ _ rfl rfl (Hcp1.out _ _ _) rfl
  rintro v w2 rfl
  simp only [Act.put, List.setIfInBounds_toArray, List.set_cons_zero, List.set_cons_succ]
  have hq := Hcp2.out 3 (c - i)
  go_wp2_with fail
  go_ret
  exact ⟨rfl, by rw [HW1.out]⟩

theorem own_of_cellsK {w : World} {base g o cap n : Nat} {cur : Array Value} {L : List Pk} (hb : base ≤ g) (h : Blk w g 94 cur) (hn : L.length = n) (hle : n ≤ cap) (hm : cap ≤ maxLen) (hs : o + cap * 3 ≤ cur.size)
    (hc : ∀ j, j < n * 3 → w.cell? ⟨g, o + j, none⟩ = (flatK L)[j]?) : OwnK w base (.slice (some ⟨g, o, none⟩) n cap) L := by
  subst hn
  refine .inr ⟨g, o, cap, cur, rfl, hb, h, hle, hm, hs, fun j u hu => ?_⟩
  have hj := (List.getElem?_eq_some_iff.1 hu).1
  rw [flatK_length] at hj
  rw [hc j hj, hu]
theorem ins_cellsK {w : World} {g o i : Nat} {l : List Pk} {p : Pk} (hi : i ≤ l.length) (h0 : ∀ j, j < i * 3 → w.cell? ⟨g, o + j, none⟩ = (flatK l)[j]?) (h1 : w.cell? ⟨g, o + i * 3, none⟩ = some (.bool p.1)) (h2 : w.cell? ⟨g, o + i * 3 + 1, none⟩ = some (.int .i64 p.2.1)) (h4 : w.cell? ⟨g, o + i * 3 + 2, none⟩ = some (.int .i64 p.2.2))
    (h3 : ∀ j, j < (l.length - i) * 3 → w.cell? ⟨g, o + (i + 1) * 3 + j, none⟩ = (flatK (l.drop i))[j]?) : ∀ j, j < (l.length + 1) * 3 → w.cell? ⟨g, o + j, none⟩ = (flatK (l.take i ++ p :: l.drop i))[j]? := by
  intro j hj
  have e : flatK (l.take i ++ p :: l.drop i) = (flatK l).take (i * 3) ++ (.bool p.1 :: .int .i64 p.2.1 :: .int .i64 p.2.2 :: flatK (l.drop i)) := by
    rw [flatK_append, flatK_take l i hi]; rfl
  have hlen : ((flatK l).take (i * 3)).length = i * 3 := by rw [List.length_take, flatK_length]; omega
  rw [e]
  by_cases c1 : j < i * 3
  · rw [List.getElem?_append_left (by omega), List.getElem?_take_of_lt c1]; exact h0 j c1
  · rw [List.getElem?_append_right (by omega), hlen]
    by_cases c2 : j = i * 3
    · subst c2; rw [Nat.sub_self, h1]; rfl
    · by_cases c3 : j = i * 3 + 1
      · subst c3; rw [show i * 3 + 1 - i * 3 = 1 by omega, ← Nat.add_assoc, h2]; rfl
      · by_cases c4 : j = i * 3 + 2
        · subst c4; rw [show i * 3 + 2 - i * 3 = 2 by omega, ← Nat.add_assoc, h4]; rfl
        · have := h3 (j - (i + 1) * 3) (by omega)
          rw [show o + (i + 1) * 3 + (j - (i + 1) * 3) = o + j by omega] at this
          rw [this, show j - i * 3 = (j - (i + 1) * 3) + 3 by omega]; rfl
def RetInK (base : Nat) (v : Value) (l : List Pk) (w : World) : Ending → World → Prop := fun e w' => ∃ A c, e = .returned (.slice A l.length c) ∧ OwnK w' base (.slice A l.length c) l ∧ w.grownBy w' v.ownBlock ∧ ((Value.slice A l.length c).ownBlock = v.ownBlock ∨ ∀ k, (Value.slice A l.length c).ownBlock = some k → w.heap.size ≤ k)
theorem ins_lenK {l : List Pk} {i : Nat} (hi : i ≤ l.length) (p : Pk) : (l.take i ++ p :: l.drop i).length = l.length + 1 := by
  rw [List.length_append, List.length_cons, List.length_take, List.length_drop]; omega
theorem set_grownK {w : World} {g o o2 : Nat} {vs us : List Value} : w.grownBy ((w.drew.setCells g o vs).setCells g o2 us) (some g) :=
  ⟨by rw [World.os_setCells, World.os_setCells]; rfl, by rw [tape_setCellsK, tape_setCellsK]; rfl, by rw [World.output_setCells, World.output_setCells]; rfl, by rw [size_setCellsK, size_setCellsK]; exact Nat.le_refl _,
    fun k hk hne => (World.heap_setCells_other _ g _ _ (by rw [size_setCellsK]; exact hk) (fun e => hne (by rw [e]))).trans (World.heap_setCells_other w.drew g _ _ hk (fun e => hne (by rw [e])))⟩

set_option maxRecDepth 100000 in
set_option maxHeartbeats 4000000 in
/-- there is no room, and the pair comes ahead of others -/
theorem insK_grow (g o n i gv base : Nat) (l : List Pk) (p : Pk) (w : World) (cur : Array Value) (hi : i < n) (hl : l.length = n) (hn6 : n ≤ 100000) (hbase : base ≤ w.heap.size)
    (hc : ∀ j v, (flatK l)[j]? = some v → w.cell? ⟨g, o + j, none⟩ = some v) (hB : Blk w g 94 cur) (hV : Blk w gv 94 #[.bool p.1, .int .i64 p.2.1, .int .i64 p.2.2]) :
    Calls Try.prog 70 #[.slice (some ⟨g, o, none⟩) n n, .int .i64 (i : Int), .slice (some ⟨gv, 0, none⟩) 1 1] w (RetInK base (.slice (some ⟨g, o, none⟩) n n) (l.take i ++ p :: l.drop i) w) := by
  obtain ⟨i0, hi0, hz0, hzs, hzb⟩ := info_parts info_pk
  have hsize : (Try.prog.info? 94).map (·.size) = some 3 := by kernel_rfl
  have hint : Try.prog.underlying 3 = some (.int .i64) := by kernel_rfl
  have hmax : maxLen = 9223372036854775807 := rfl
  have hold : (Builtin.firstCells i0.size i (.slice (some ⟨g, o, none⟩) i n)).run Try.prog w.drew = .ok (flatK (l.take i)).toArray w.drew := by
    rw [hzs]
    exact run_firstCells_some w.drew 3 i ⟨g, o, none⟩ i n _ (by rw [flatK_length, List.length_take]; congr 1; omega) (fun j v hj => by
      rw [show (⟨g, o, none⟩ : Addr).add j = ⟨g, o + j, none⟩ by unfold Addr.add; split <;> simp_all]
      rw [← flatK_take l i (by omega), List.getElem?_take] at hj
      split at hj
      · exact hc j v hj
      · cases hj)
  have hik : i + (n + 1 - i) = n + 1 := by omega
  have hkk : (n : Int) + 1 - (i : Int) = ((n + 1 - i : Nat) : Int) := by omega
  have hrz : ∀ ty, (Builtin.append_ #[48, 3] ty #[.slice (some ⟨g, o, none⟩) i n, .int .i64 ((n : Int) + 1 - (i : Int))]).run Try.prog w =
      .ok (.slice (some ⟨w.heap.size, 0, none⟩) (n + 1) (grownCap w (n + 1) n 94)) (w.drew.alloc (.cells ((flatK (l.take i)).toArray ++ Builtin.zeroCells (Value.agg #[.bool false, .int .i64 0, .int .i64 0]).cells (n + 1 - i) ++ Builtin.zeroCells (Value.agg #[.bool false, .int .i64 0, .int .i64 0]).cells (grownCap w (n + 1) n 94 - (n + 1))) 94)) := fun ty => by
    have h := Lib.run_append_grow_zeros w 48 3 ty 94 i0 _ .i64 .i64 Try.underlying48 hint hi0 hz0 (some ⟨g, o, none⟩) i n _ hold (n + 1 - i) (by omega) (by omega) (by omega) (by omega) (by rw [hzb]; omega) (by rw [hzb, hik]; exact growslice_fits (by omega) (by omega))
    rw [hik] at h
    rw [hkk]
    exact h
  have hge := grownCap_ge w (n + 1) n 94
  have hcm : grownCap w (n + 1) n 94 ≤ maxLen := grownCap_le_maxLen w _ n 94 (by omega)
  obtain ⟨G, hG⟩ : ∃ G, grownCap w (n + 1) n 94 = G := ⟨_, rfl⟩
  rw [hG] at hrz hge hcm
  obtain ⟨ROW, hROW⟩ : ∃ ROW : Array Value, (flatK (l.take i)).toArray ++ Builtin.zeroCells (Value.agg #[.bool false, .int .i64 0, .int .i64 0]).cells (n + 1 - i) ++ Builtin.zeroCells (Value.agg #[.bool false, .int .i64 0, .int .i64 0]).cells (G - (n + 1)) = ROW := ⟨_, rfl⟩
  rw [hROW] at hrz
  have hRs : ROW.size = G * 3 := by
    rw [← hROW]
    simp only [Array.size_append, List.size_toArray, size_zeroCells, flatK_length, List.length_take, Value.cells, List.size_toArray, List.length_cons, List.length_nil]
    omega
  have hRp : ∀ j, j < i * 3 → ROW[j]? = (flatK l)[j]? := fun j hj => by
    rw [← hROW, Array.getElem?_append_left (by simp only [Array.size_append, List.size_toArray, flatK_length, List.length_take]; omega), Array.getElem?_append_left (by rw [List.size_toArray, flatK_length, List.length_take]; omega), List.getElem?_toArray, ← flatK_take l i (by omega), List.getElem?_take_of_lt hj]
  obtain ⟨H, hH⟩ : ∃ H, w.heap.size = H := ⟨_, rfl⟩
  rw [hH] at hrz
  obtain ⟨W1, hW1⟩ : ∃ W1, w.drew.alloc (.cells ROW 94) = W1 := ⟨_, rfl⟩
  have hB1 : Blk W1 H 94 ROW := by rw [← hW1, ← hH]; exact Blk.new w.drew _ _
  have hb1 : Below H w W1 := by rw [← hW1, ← hH]; exact (Below.refl _ _).drew.alloc (Nat.le_refl _) _
  have hgl : g < H := by rw [← hH]; exact hB.lt
  have hvl : gv < H := by rw [← hH]; exact hV.lt
  have hg1 : Blk W1 g 94 cur := (hb1.block g hgl).trans hB
  have hv1 : Blk W1 gv 94 #[.bool p.1, .int .i64 p.2.1, .int .i64 p.2.2] := (hb1.block gv hvl).trans hV
  rw [hW1] at hrz
  have hthere : ∀ (W : World) (cs : Array Value), Blk W H 94 cs → cs.size = G * 3 → ∀ k, k < G * 3 → (W.cell? ⟨H, k, none⟩).isSome = true := fun W cs h hs k hk => by
    rw [h.cell, Array.getElem?_eq_getElem (by omega)]; rfl
  have hcp2 : ∀ ty dc, (Builtin.copy_ #[48, 48] ty #[.slice (some ⟨H, i * 3, none⟩) (n + 1 - i) dc, .slice (some ⟨gv, 0, none⟩) 1 1]).run Try.prog W1 = .ok (goInt (Nat.min 1 (n + 1 - i))) (W1.setCells H (i * 3) [.bool p.1, .int .i64 p.2.1, .int .i64 p.2.2]) := fun ty dc =>
    run_copy_cells2 W1 _ _ ty 94 H (i * 3) _ dc ⟨gv, 0, none⟩ _ 1 [.bool p.1, .int .i64 p.2.1, .int .i64 p.2.2] 3 Try.underlying48 hsize (by simp only [Nat.min_def]; split <;> simp <;> omega)
      (fun j v hj => by
        rw [show (⟨gv, 0, none⟩ : Addr).add j = ⟨gv, j, none⟩ by unfold Addr.add; split <;> simp_all, hv1.cell, ← hj]
        simp)
      (fun j hj => hthere W1 ROW hB1 hRs _ (by simp at hj; omega)) (fun j _ => hB1.frozen _) (by simp [Value.oneCell'])
  obtain ⟨cur2, hB2, hs2⟩ := blk_setCellsK [.bool p.1, .int .i64 p.2.1, .int .i64 p.2.2] (i * 3) W1 ROW hB1
  have hg2 : Blk (W1.setCells H (i * 3) [.bool p.1, .int .i64 p.2.1, .int .i64 p.2.2]) g 94 cur := (World.heap_setCells_other W1 H _ _ hg1.lt (by omega)).trans hg1
  obtain ⟨W2, hW2⟩ : ∃ W2, W1.setCells H (i * 3) [.bool p.1, .int .i64 p.2.1, .int .i64 p.2.2] = W2 := ⟨_, rfl⟩
  rw [hW2] at hcp2 hB2 hg2
  have hdl : (flatK (l.drop i)).length = (n - i) * 3 := by rw [flatK_length, List.length_drop, hl]
  have hcp1 : ∀ ty dc sc, (Builtin.copy_ #[48, 48] ty #[.slice (some ⟨H, (i + 1) * 3, none⟩) (n - i) dc, .slice (some ⟨g, o + i * 3, none⟩) (n - i) sc]).run Try.prog W2.drew = .ok (goInt (Nat.min (n - i) (n - i))) (W2.drew.setCells H ((i + 1) * 3) (flatK (l.drop i))) := fun ty dc sc =>
    run_copy_cells2 W2.drew _ _ ty 94 H ((i + 1) * 3) _ dc ⟨g, o + i * 3, none⟩ _ sc (flatK (l.drop i)) 3 Try.underlying48 hsize (by rw [hdl]; simp only [Nat.min_def]; split <;> omega)
      (fun j v hj => by
        rw [show (⟨g, o + i * 3, none⟩ : Addr).add j = ⟨g, o + i * 3 + j, none⟩ by unfold Addr.add; split <;> simp_all]
        rw [← flatK_drop l i (by omega), List.getElem?_drop] at hj
        have := hc _ v hj
        rw [← Nat.add_assoc, hB.cell] at this
        exact (hg2.cell _).trans this)
      (fun j hj => hthere W2.drew cur2 hB2 (hs2.trans hRs) _ (by omega)) (fun j _ => hB2.frozen _) (flatK_one _)
  obtain ⟨cur3, hB3, hs3⟩ := blk_setCellsK (flatK (l.drop i)) ((i + 1) * 3) W2.drew cur2 hB2
  obtain ⟨W3, hW3⟩ : ∃ W3, W2.drew.setCells H ((i + 1) * 3) (flatK (l.drop i)) = W3 := ⟨_, rfl⟩
  rw [hW3] at hcp1 hB3
  have hfin : RetInK base (.slice (some ⟨g, o, none⟩) n n) (l.take i ++ p :: l.drop i) w (.returned (.slice (some ⟨H, 0, none⟩) (n + 1) G)) W3 := by
    have hL : (l.take i ++ p :: l.drop i).length = n + 1 := by rw [ins_lenK (by omega), hl]
    have c1 := fun j (hj : j < 3) => World.cell?_setCells_in H [.bool p.1, .int .i64 p.2.1, .int .i64 p.2.2] (i * 3) W1 (fun j hj => hthere W1 ROW hB1 hRs _ (by simp at hj; omega)) j hj
    refine ⟨some ⟨H, 0, none⟩, G, by rw [hL], ?_, ?_, .inr fun k hk => by have hk2 : H = k := Option.some.inj hk; omega⟩
    · rw [hL]
      refine own_of_cellsK (by omega) hB3 hL (by omega) hcm (by omega) ?_
      rw [← hl]
      refine ins_cellsK (by omega) (fun j hj => ?_) ?_ ?_ ?_ (fun j hj => ?_)
      · rw [Nat.zero_add, ← hW3, World.cell?_setCells_out H _ _ _ _ (fun _ _ => Or.inl (by show j < (i + 1) * 3; omega))]
        show W2.cell? _ = _
        rw [← hW2, World.cell?_setCells_out H _ _ _ _ (fun _ _ => Or.inl hj), hB1.cell]
        exact hRp j hj
      · rw [Nat.zero_add, ← hW3, World.cell?_setCells_out H _ _ _ _ (fun _ _ => Or.inl (by show i * 3 < (i + 1) * 3; omega))]
        show W2.cell? _ = _
        rw [← hW2]
        exact c1 0 (by omega)
      · rw [Nat.zero_add, ← hW3, World.cell?_setCells_out H _ _ _ _ (fun _ _ => Or.inl (by show i * 3 + 1 < (i + 1) * 3; omega))]
        show W2.cell? _ = _
        rw [← hW2]
        exact c1 1 (by omega)
      · rw [Nat.zero_add, ← hW3, World.cell?_setCells_out H _ _ _ _ (fun _ _ => Or.inl (by show i * 3 + 2 < (i + 1) * 3; omega))]
        show W2.cell? _ = _
        rw [← hW2]
        exact c1 2 (by omega)
      · rw [Nat.zero_add, ← hW3, World.cell?_setCells_in H _ _ _ (fun k hk => hthere W2.drew cur2 hB2 (hs2.trans hRs) _ (by omega)) j (by omega), List.getElem?_eq_getElem]
    · have e2 : W2.heap.size = W1.heap.size := by rw [← hW2, size_setCellsK]
      have hs1 : w.heap.size ≤ W1.heap.size := hb1.size
      refine ⟨?_, ?_, ?_, ?_, fun k hk _ => ?_⟩
      · rw [← hW3, World.os_setCells]; show W2.os = _; rw [← hW2, World.os_setCells]; exact hb1.os
      · rw [← hW3, tape_setCellsK]; show W2.tape = _; rw [← hW2, tape_setCellsK]; exact hb1.tape
      · rw [← hW3, World.output_setCells]; show W2.output = _; rw [← hW2, World.output_setCells]; exact hb1.output
      · rw [← hW3, size_setCellsK]; show _ ≤ W2.heap.size; omega
      · rw [← hW3]
        refine (World.heap_setCells_other _ H _ _ (by show k < W2.heap.size; omega) (by omega)).trans ?_
        show W2.heap[k]? = _
        rw [← hW2]
        exact (World.heap_setCells_other _ H _ _ (by omega) (by omega)).trans (hb1.block k (by omega))
  have hz2 : ((i : Int) == (n : Int)) = false := by rw [beq_eq_false_iff_ne]; omega
  have hn0 : (n : Int) < (n : Int) + 1 := by omega
  have hi0 : (0 : Int) ≤ (i : Int) := by omega
  have hin : (i : Int) ≤ (n : Int) := by omega
  have hin0 : (i : Int) ≤ (n : Int) + 1 := by omega
  have hi1 : (0 : Int) ≤ (i : Int) + 1 := by omega
  have hin1 : (i : Int) + 1 ≤ (n : Int) + 1 := by omega
  have htn : ((i : Int) + 1).toNat = i + 1 := by omega
  have hw1 : IntKind.i64.wrap ((i : Int) + 1) = (i : Int) + 1 := by rw [IntKind.wrap_i64]; omega
  have hc1 : ¬ n = i := by omega
  have hc2 : ¬ G = i := by omega
  have hc3 : ¬ G = i + 1 := by omega
  have Hfin := Lib.hid hfin; have Hcp1 := Lib.hid hcp1; have Hcp2 := Lib.hid hcp2; have Hrz := Lib.hid hrz
  clear hfin hcp1 hcp2 hW3 hW2 hW1 hB1 hB2 hB3 hthere hdl hRp hRs hROW hG hold hH hkk hik hv1 hg1 hg2 hb1 hrz
  go_enter Try.func70, Try.ntmps70
  have hq2 := Hcp2.out 3 (G - i)
  go_wp2_with (at_builtin; refine Lib.wpList_append_run _ rfl _ _ _ _ rfl _ _ rfl rfl _ _ (Hrz.out _) ?_)
  refine wp_region_textZ [8] (fun w' => w' = W2.drew) (fun _ => True) (by kernel_rfl) (by kernel_rfl) (by kernel_rfl) (by kernel_rfl) rfl trivial ?_
  repeat (first
    | (refine TxtZL.skip (by rfl) ?_; simp only [Act.put, List.setIfInBounds_toArray, List.set_cons_zero, List.set_cons_succ])
    | (refine TxtZL.take (by rfl) (by rfl) ?_; apply Exists.intro; refine ⟨fun w1 hS1 => ?_, ?_⟩; (focus (subst hS1; go_simp; with_reducible rfl)); simp only [Act.put, List.setIfInBounds_toArray, List.set_cons_zero, List.set_cons_succ])
    | (refine TxtZL.takeE' (by rfl) (by rfl) ?_; apply Exists.intro; refine ⟨fun w1 hS1 => ?_, ?_⟩; (focus (subst hS1; go_simp; with_reducible rfl)); simp only [Act.put, List.setIfInBounds_toArray, List.set_cons_zero, List.set_cons_succ]))
  refine TxtZL.last (fun w' => w' = W3) (by rfl) (by rfl) (fun w1 hS1 hJ1 => ?_) ?_
  · subst hS1
    exact Eff.copy _ _ 48 48 rfl _ _ rfl rfl (Hcp1.out _ _ _) rfl
  rintro v w2 rfl
  simp only [Act.put, List.setIfInBounds_toArray, List.set_cons_zero, List.set_cons_succ]
  go_wp2_with fail
  go_ret
  exact Hfin.out

set_option maxRecDepth 100000 in
set_option maxHeartbeats 4000000 in
theorem insertK_any (A : Option Addr) (c i gv base : Nat) (l : List Pk) (p : Pk) (w : World) (hown : OwnK w base (.slice A l.length c) l) (hi : i ≤ l.length) (hl : l.length ≤ 100000) (hbase : base ≤ w.heap.size) (hV : Blk w gv 94 #[.bool p.1, .int .i64 p.2.1, .int .i64 p.2.2])
    (hne : ∀ k, (Value.slice A l.length c).ownBlock = some k → gv ≠ k) :
    Calls Try.prog 70 #[.slice A l.length c, .int .i64 (i : Int), .slice (some ⟨gv, 0, none⟩) 1 1] w (RetInK base (.slice A l.length c) (l.take i ++ p :: l.drop i) w) := by
  by_cases hin : i = l.length
  · subst hin
    have hL : l.take l.length ++ p :: l.drop l.length = l ++ [p] := by rw [List.take_length, List.drop_length]
    rw [hL]
    have hrp : RK w (some ⟨gv, 0, none⟩) [p] := fun k hk => by
      have : k = 0 := by simp at hk; omega
      subst this
      exact ⟨gv, 0, rfl, by rw [hV.cell]; rfl, by rw [hV.cell]; rfl, by rw [hV.cell]; rfl⟩
    by_cases hcl : c = l.length
    · subst hcl
      have Hown := Lib.hid hown
      have hbnd : (0 : Int) ≤ (l.length : Int) := by omega
      clear hown hL hne hV
      go_enter Try.func70, Try.ntmps70
      go_wp2_with (at_builtin; refine wpList_appK (by rfl) _ _ (by rfl) w base _ l (some ⟨gv, 0, none⟩) [p] 1 Hown.out hrp (by simp) (by rfl) (by rfl) (by simp; omega) hbase ?_; intro v' w1 ho hb1 hg1 hl1; (obtain ⟨A', c', rfl, _, _⟩ := OwnK.form ho); have Ho := Lib.hid ho; have Hg1 := Lib.hid hg1; have Hl1 := Lib.hid hl1; clear ho hb1 hg1 hl1)
      go_ret
      exact ⟨A', c', by simp, Ho.out, Hg1.out, Hl1.out⟩
    · have Hown := Lib.hid hown
      have hbnd : (0 : Int) ≤ (l.length : Int) := by omega
      clear hown hL hne hV
      go_enter Try.func70, Try.ntmps70
      go_wp2_with (at_builtin; refine wpList_appK (by rfl) _ _ (by rfl) w base _ l (some ⟨gv, 0, none⟩) [p] 1 Hown.out hrp (by simp) (by rfl) (by rfl) (by simp; omega) hbase ?_; intro v' w1 ho hb1 hg1 hl1; (obtain ⟨A', c', rfl, _, _⟩ := OwnK.form ho); have Ho := Lib.hid ho; have Hg1 := Lib.hid hg1; have Hl1 := Lib.hid hl1; clear ho hb1 hg1 hl1)
      go_ret
      exact ⟨A', c', by simp, Ho.out, Hg1.out, Hl1.out⟩
  · have hlt : i < l.length := by omega
    rcases hown with ⟨e, h0⟩ | ⟨g, o, cap, cur, e, hbg, hg, hle, hm, hs, hcell⟩
    · subst h0; simp at hlt
    · injection e with e1 _ e3
      subst e1 e3
      have hmax : maxLen = 9223372036854775807 := rfl
      by_cases hroom : l.length + 1 ≤ c
      · refine (insK_shift g o c l.length i gv l p w cur hlt rfl hroom (by omega) (hne g rfl) hcell hg hs hV).mono ?_
        rintro e w' ⟨rfl, rfl⟩
        have hthere : ∀ (W : World) (cs : Array Value), Blk W g 94 cs → cs.size = cur.size → ∀ k, k < c * 3 → (W.cell? ⟨g, o + k, none⟩).isSome = true := fun W cs h hs' k hk => by
          rw [h.cell, Array.getElem?_eq_getElem (by omega)]; rfl
        have hdl : (flatK (l.drop i)).length = (l.length - i) * 3 := by rw [flatK_length, List.length_drop]
        have hB : Blk w.drew g 94 cur := hg
        obtain ⟨cur1, hB1, hs1⟩ := blk_setCellsK (flatK (l.drop i)) (o + (i + 1) * 3) w.drew cur hB
        obtain ⟨cur2, hB2, hs2⟩ := blk_setCellsK [.bool p.1, .int .i64 p.2.1, .int .i64 p.2.2] (o + i * 3) _ cur1 hB1
        have hL := ins_lenK hi p
        have c1 := fun j (hj : j < 3) => World.cell?_setCells_in g [.bool p.1, .int .i64 p.2.1, .int .i64 p.2.2] (o + i * 3) _ (fun j hj => by rw [Nat.add_assoc]; exact hthere _ cur1 hB1 hs1 _ (by simp at hj; omega)) j hj
        refine ⟨some ⟨g, o, none⟩, c, by rw [hL], ?_, set_grownK, .inl rfl⟩
        rw [hL]
        refine own_of_cellsK hbg hB2 hL hroom hm (by omega) ?_
        refine ins_cellsK hi (fun j hj => ?_) ?_ ?_ ?_ (fun j hj => ?_)
        · rw [World.cell?_setCells_out g _ _ _ _ (fun _ _ => Or.inl (by show o + j < o + i * 3; omega)), World.cell?_setCells_out g _ _ _ _ (fun _ _ => Or.inl (by show o + j < o + (i + 1) * 3; omega))]
          show w.cell? _ = _
          have hjl : j < (flatK l).length := by rw [flatK_length]; omega
          rw [List.getElem?_eq_getElem hjl]
          exact hcell j _ (List.getElem?_eq_getElem hjl)
        · exact c1 0 (by omega)
        · exact c1 1 (by omega)
        · exact c1 2 (by omega)
        · rw [World.cell?_setCells_out g _ _ _ _ (fun _ _ => Or.inr (by show o + i * 3 + 3 ≤ o + (i + 1) * 3 + j; omega)), World.cell?_setCells_in g _ _ _ (fun k hk => by rw [Nat.add_assoc]; exact hthere w.drew cur hB rfl _ (by omega)) j (by omega), List.getElem?_eq_getElem]
      · have hcn : c = l.length := by omega
        subst hcn
        exact insK_grow g o l.length i gv base l p w cur hlt rfl hl hbase hcell hg hV
end Go.Proofs.Ythkknlnfdckdfaa
