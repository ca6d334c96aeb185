import Derived.Test.YthkknlnfdckdfaaGreatDoorPt
import Derived.Test.YthkknlnfdckdfaaGreatDoorLb
import Derived.Lib.SliceRun
import Derived.Laws.IdiomCopy
import Derived.Laws.EntriesVeiled
/- Package participant: valid, scripted (of a player without a script); network.Ascending. -/
namespace Go.Proofs.YthkknlnfdckdfaaGreatDoor
open Go.ChangeShapes Go.WideShapes Go.ChangeAt Go.RowKit

/-- ascending nodes of a graph -/
def AscP (n : Nat) (l : List Int) : Prop := ∀ i, i < l.length → 0 ≤ l.getD i 0 ∧ l.getD i 0 < n ∧ (0 < i → l.getD (i - 1) 0 < l.getD i 0)
theorem RI.c_ {w : World} {b o : Nat} {l : List Int} (h : RI w (some ⟨b, o, none⟩) l) {k : Nat} (hk : k < l.length) : w.cell? ⟨b, o + k, none⟩ = some (.int .i64 (l.getD k 0)) := by
  obtain ⟨b', o', hA, hc⟩ := h k hk
  injection hA with hA; injection hA with e1 e2 _
  subst e1 e2
  exact hc
set_option maxRecDepth 100000 in
set_option maxHeartbeats 1000000 in
theorem asc_any (A : Option Addr) (l : List Int) (c n : Nat) (w : World) (hr : RI w A l) (hl : l.length ≤ 100000) (ha : AscP n l) :
    Calls Tryz.prog 65 #[.slice A l.length c, .int .i64 (n : Int)] w (Ret (.bool true) w) := by
  have Ha := Lib.hid ha
  clear ha
  go_enter Tryz.func65, Tryz.ntmps65
  go_wp2_with fail
  go_loop [9] (fun t => ∃ k : Nat, k ≤ l.length ∧ t = .int .i64 k) (fun t => l.length - (intOf t).toNat)
  case atStart => exact ⟨0, Nat.zero_le _, rfl⟩
  case round =>
    obtain ⟨k, hk, rfl⟩ := hrel
    by_cases hlt : k < l.length
    case neg =>
      go_wp2_with fail
      go_ret
      exact ⟨rfl, rfl⟩
    case pos =>
    obtain ⟨h1, h2, h3⟩ := Ha.out k hlt
    have hk0 : (0 : Int) ≤ (k : Int) := by omega
    have hk1 : (k : Int) < (l.length : Int) := by omega
    obtain ⟨b, o, rfl, e0⟩ := hr k hlt
    have d1 : decide (l.getD k 0 < 0) = false := decide_eq_false (by omega)
    have d2 : decide ((n : Int) ≤ l.getD k 0) = false := decide_eq_false (by omega)
    rcases Nat.eq_zero_or_pos k with h0 | h0
    · subst h0
      clear h3
      rw [Nat.add_zero] at e0
      generalize l.getD 0 0 = x at *
      go_wp2_with fail
      go_round
      case rel => exact ⟨1, by omega, by go_num⟩
      case measure => simp [intOf]; omega
    · have e1 := hr.c_ (k := k - 1) (by omega)
      have hw : IntKind.i64.wrap ((k : Int) - 1) = ((k - 1 : Nat) : Int) := by rw [IntKind.wrap_i64]; omega
      have hk2 : (0 : Int) ≤ ((k - 1 : Nat) : Int) := by omega
      have hk3 : ((k - 1 : Nat) : Int) < (l.length : Int) := by omega
      have d3 : decide ((0 : Int) < (k : Int)) = true := decide_eq_true (by omega)
      have d4 : decide (l.getD k 0 ≤ l.getD (k - 1) 0) = false := decide_eq_false (by have := h3 h0; omega)
      clear h3
      generalize l.getD k 0 = x at *
      generalize l.getD (k - 1) 0 = y at *
      go_wp2_with fail
      go_round
      case rel => exact ⟨k + 1, by omega, by go_num⟩
      case measure => simp [intOf]; omega
set_option maxRecDepth 100000 in
set_option maxHeartbeats 1000000 in
theorem pvalid_any (n : Nat) (A : Option Addr) (k c : Nat) (root l0 l1 : Int) (M : Option Addr) (km cm : Nat) (P : Option Addr) (pool : List Int) (pc : Nat) (sty : Int) (w : World) (hp : RI w P pool) (hpl : pool.length ≤ 100000) (ha : AscP n pool) (h1 : 1 ≤ sty) (h3 : sty ≤ 3) :
    Calls Tryz.prog 42 #[.agg #[.int .i64 (n : Int), .slice A k c, .int .i64 root, .int .i64 l0, .int .i64 l1, .slice M km cm], .agg #[.slice P pool.length pc, .slice none 0 0, .slice none 0 0, .int .i64 sty]] w (RetB (.int .i64 0) w) := by
  go_enter Tryz.func42, Tryz.ntmps42
  go_upto_region 1 with fail
  obtain ⟨W0, hW, k0, k1, hb0, hs0⟩ := boxed2A w 55 60 #[.int .i64 (n : Int), .slice A k c, .int .i64 root, .int .i64 l0, .int .i64 l1, .slice M km cm] #[.slice P pool.length pc, .slice none 0 0, .slice none 0 0, .int .i64 sty]
  rw [hW]
  obtain ⟨z0, z1, z2, z3, z4, z5⟩ := dgC k0
  obtain ⟨y0, y1, y2, y3, _, _, _, _⟩ := mvC k1
  have hp0 := hp.below hb0
  have d1 : decide (sty < 1) = false := decide_eq_false (by omega)
  have d2 : decide (3 < sty) = false := decide_eq_false (by omega)
  have Hb0 := Lib.hid hb0
  clear hW k0 k1 hb0 hs0 hp
  go_wp2_with fail
  refine (asc_any P pool pc n W0 hp0 hpl ha).mono ?_
  rintro e w1 ⟨rfl, rfl⟩
  go_wp2_with fail
  refine (asc_any none [] 0 n W0 (RI.nil _ _) (by simp) (fun i hi => absurd hi (by simp))).mono ?_
  rintro e w1 ⟨rfl, rfl⟩
  go_wp2_with fail
  go_ret
  exact ⟨rfl, Hb0.out⟩
set_option maxRecDepth 100000 in
set_option maxHeartbeats 2000000 in
theorem scripted_any (n : Nat) (A : Option Addr) (l : List (Int × Int)) (c : Nat) (root l0 l1 : Int) (M : Option Addr) (ms : List Mv) (cm : Nat) (P : Option Addr) (kp pc : Nat) (sty : Int) (T : Option Addr) (kt ct : Nat) (w : World) (hp : RP w A l) (hr : RM w M ms) (hm : OkM ms) (hl : ms.length ≤ 300) (hll : l.length ≤ 1600) :
    Calls Tryz.prog 71 #[.agg #[.int .i64 (n : Int), .slice A l.length c, .int .i64 root, .int .i64 l0, .int .i64 l1, .slice M ms.length cm], .agg #[.slice P kp pc, .slice none 0 0, .slice none 0 0, .int .i64 sty], .slice T kt ct] w (RetB (.tuple #[.agg #[.int .i64 0, .int .i64 0, .int .i64 0, .int .i64 0], .bool false]) w) := by
  have HM := Lib.hid hm
  clear hm
  go_enter Tryz.func71, Tryz.ntmps71
  go_upto_region 1 with fail
  obtain ⟨W0, hW, k0, k1, k2, hb0, hs0⟩ := boxed3A w 55 60 89 #[.int .i64 (n : Int), .slice A l.length c, .int .i64 root, .int .i64 l0, .int .i64 l1, .slice M ms.length cm] #[.slice P kp pc, .slice none 0 0, .slice none 0 0, .int .i64 sty] #[.int .i64 0, .int .i64 0, .int .i64 0, .int .i64 0]
  rw [hW]
  obtain ⟨z0, z1, z2, z3, z4, z5⟩ := dgC k0
  have hp0 := hp.below hb0; have hr0 := hr.below hb0
  clear hW hp hr
  go_wp2_with fail
  refine (turn_any n A l c root l0 l1 M ms cm W0 hp0 hr0 HM.out hl hll).mono ?_
  rintro e w1 ⟨rfl, hb1⟩
  generalize turnF l0 l1 l ms = tn
  have hr1 := hr0.below hb1
  have k0' := k0.below hb1 (by omega); have k1' := k1.below hb1 (by omega); have k2' := k2.below hb1 (by omega)
  have hg0 := k0'.lt; have hg1 := k1'.lt; have hg2 := k2'.lt
  have y5 : w1.cell? ⟨w.heap.size, 5, none⟩ = some (.slice M ms.length cm) := k0'.cell 5
  have y2 : w1.cell? ⟨w.heap.size + 1, 2, none⟩ = some (.slice none 0 0) := k1'.cell 2
  have Hk2 := Lib.hid k2'
  have Hb1 := Lib.hid (hb0.trans (hb1.mono hb0.size))
  have Hr1 := Lib.hid hr1
  clear k0 k1 k2 hb0 hs0 hp0 hr0 hb1 z0 z1 z2 z3 z4 z5 k0' k1' k2' hr1
  go_wp2_with fail
  go_loopw [9, 20] (fun s t wr => ∃ j k : Nat, j ≤ ms.length ∧ k ≤ j ∧ t = .int .i64 j ∧ s = .int .i64 k ∧ Below w1.heap.size w1 wr) (fun _ t _ => ms.length - (intOf t).toNat)
  case atStart => exact ⟨0, 0, Nat.zero_le _, Nat.le_refl _, rfl, rfl, Below.refl _ _⟩
  case round =>
    obtain ⟨j, k, hj, hkj, rfl, rfl, hbl⟩ := hrel
    by_cases hlt : j < ms.length
    case neg =>
      have hkt := Hk2.out.below hbl hg2
      obtain ⟨q0, q1, q2, q3, f0, f1, f2, f3⟩ := mvC hkt
      have x2 := (hbl.cell (lt_of_cell y2)).trans y2
      have hk0 : (0 : Int) ≤ (k : Int) := by omega
      have d1 : decide ((0 : Int) ≤ (k : Int)) = true := decide_eq_true hk0
      have Hkt := Lib.hid hkt; have Hbl := Lib.hid hbl
      clear hkt hbl
      go_wp2_with fail
      have hk4 := set4 Hkt.out (.int .i64 0) (.int .i64 0) (.int .i64 0) (.int .i64 0)
      obtain ⟨r0, r1, r2, r3, _, _, _, _⟩ := mvC hk4
      refine bodyPost_ret (v := .tuple #[.agg #[.int .i64 0, .int .i64 0, .int .i64 0, .int .i64 0], .bool false]) (by simp [results, Tryz.results71, go_sem, r0, r1, r2, r3]) rfl ?_
      exact ⟨rfl, below_set4 (Hb1.out.trans (Hbl.out.mono Hb1.out.size)) (by omega) _ _ _ _⟩
    case pos =>
    have hjl : (j : Int) < (ms.length : Int) := by omega
    obtain ⟨b, o, rfl, e0, e1, e2, e3⟩ := (Hr1.out.below hbl) j hlt
    have hbs := hbl.size
    cases ha : ((mv ms j).1 == tn)
    · go_wp2_with fail
      go_roundw
      case rel => exact ⟨j + 1, k, by omega, by omega, by go_num, rfl, hbl.alloc hbs _⟩
      case measure => simp [intOf]; omega
    · cases hc : ((mv ms j).2.1 != 1)
      · go_wp2_with fail
        go_roundw
        case rel => exact ⟨j + 1, k, by omega, by omega, by go_num, rfl, hbl.alloc hbs _⟩
        case measure => simp [intOf]; omega
      · go_wp2_with fail
        go_roundw
        case rel => exact ⟨j + 1, k + 1, by omega, by omega, by go_num, by go_num, hbl.alloc hbs _⟩
        case measure => simp [intOf]; omega
end Go.Proofs.YthkknlnfdckdfaaGreatDoor

/- slices.IndexFunc, DeleteFunc, MinFunc at moves, with the closures of package participant. -/
namespace Go.Proofs.YthkknlnfdckdfaaGreatDoor
open Go.ChangeShapes Go.WideShapes Go.ChangeAt Go.RowKit

/-- a row of moves that can be written -/
structure MRow (w : World) (g o n : Nat) (f : Nat → Mv) : Prop where
  c : ∀ k, k < n → w.cell? ⟨g, o + k * 4, none⟩ = some (.int .i64 (f k).1) ∧ w.cell? ⟨g, o + k * 4 + 1, none⟩ = some (.int .i64 (f k).2.1) ∧ w.cell? ⟨g, o + k * 4 + 2, none⟩ = some (.int .i64 (f k).2.2.1) ∧ w.cell? ⟨g, o + k * 4 + 3, none⟩ = some (.int .i64 (f k).2.2.2)
  fz : ∀ i, w.frozen? ⟨g, i, none⟩ = false
  lt : g < w.heap.size
theorem frozen_below {w w' : World} {B g i : Nat} (hb : Below B w w') (hg : g < B) (h : w.frozen? ⟨g, i, none⟩ = false) : w'.frozen? ⟨g, i, none⟩ = false := by
  unfold World.frozen? at h ⊢
  rw [show w'.heap[g]? = w.heap[g]? from hb.block g hg]; exact h
theorem MRow.below {w w' : World} {g o n : Nat} {f : Nat → Mv} (h : MRow w g o n f) (hb : Below w.heap.size w w') : MRow w' g o n f :=
  ⟨fun k hk => by
    obtain ⟨h0, h1, h2, h3⟩ := h.c k hk
    exact ⟨(hb.cell (lt_of_cell h0)).trans h0, (hb.cell (lt_of_cell h1)).trans h1, (hb.cell (lt_of_cell h2)).trans h2, (hb.cell (lt_of_cell h3)).trans h3⟩,
   fun i => frozen_below hb h.lt (h.fz i), Nat.lt_of_lt_of_le h.lt hb.size⟩
theorem cell_co {w : World} {g y z : Nat} {v : Value} (h : y ≠ z) : (w.setCell ⟨g, z, none⟩ v).cell? ⟨g, y, none⟩ = w.cell? ⟨g, y, none⟩ := World.cell?_setCell_other _ _ _ _ (fun e => by injection e with _ e _; exact h e.symm)
theorem MRow.set {w : World} {g o n : Nat} {f : Nat → Mv} (h : MRow w g o n f) {i : Nat} (hi : i < n) (m : Mv) :
    MRow ((((w.setCell ⟨g, o + i * 4, none⟩ (.int .i64 m.1)).setCell ⟨g, o + i * 4 + 1, none⟩ (.int .i64 m.2.1)).setCell ⟨g, o + i * 4 + 2, none⟩ (.int .i64 m.2.2.1)).setCell ⟨g, o + i * 4 + 3, none⟩ (.int .i64 m.2.2.2)) g o n (fun k => if k = i then m else f k) := by
  obtain ⟨i0, i1, i2, i3⟩ := h.c i hi
  refine ⟨fun k hk => ?_, fun j => by simp [h.fz j], by simpa using h.lt⟩
  obtain ⟨h0, h1, h2, h3⟩ := h.c k hk
  by_cases e : k = i
  · subst e
    simp only [if_true]
    refine ⟨?_, ?_, ?_, ?_⟩
    · rw [cell_co (by omega), cell_co (by omega), cell_co (by omega)]; exact World.cell?_setCell_same _ _ _ h0
    · rw [cell_co (by omega), cell_co (by omega)]; exact World.cell?_setCell_same _ _ _ (by rw [cell_co (by omega)]; exact h1)
    · rw [cell_co (by omega)]; exact World.cell?_setCell_same _ _ _ (by rw [cell_co (by omega), cell_co (by omega)]; exact h2)
    · exact World.cell?_setCell_same _ _ _ (by rw [cell_co (by omega), cell_co (by omega), cell_co (by omega)]; exact h3)
  · simp only [if_neg e]
    refine ⟨?_, ?_, ?_, ?_⟩
    · rw [cell_co (by omega), cell_co (by omega), cell_co (by omega), cell_co (by omega)]; exact h0
    · rw [cell_co (by omega), cell_co (by omega), cell_co (by omega), cell_co (by omega)]; exact h1
    · rw [cell_co (by omega), cell_co (by omega), cell_co (by omega), cell_co (by omega)]; exact h2
    · rw [cell_co (by omega), cell_co (by omega), cell_co (by omega), cell_co (by omega)]; exact h3
theorem MRow.of_own {w : World} {b g c : Nat} {ms : List Mv} (h : OwnM w b (.slice (some ⟨g, 0, none⟩) ms.length c) ms) : MRow w g 0 ms.length (mv ms) := by
  obtain ⟨A, c', e, hr, _, _⟩ := h.form
  injection e with e _ _
  subst e
  refine ⟨fun k hk => hr.cells hk, fun i => ?_, (World.ownsRow.lt h g rfl).2⟩
  obtain ⟨_, h2⟩ := h
  rcases h2 with ⟨e, _⟩ | ⟨g', cap, cur, e, hg, hh, _⟩
  · cases e
  · injection e with e _ _
    injection e with e
    injection e with e
    subst e
    simp [World.frozen?, hh]
theorem run_clear_mv (w : World) (ty : TypeId) (b o n c : Nat) (hn : 0 < n) (hc : ∀ j, j < n * 4 → (w.cell? ⟨b, o + j, none⟩).isSome = true) (hf : ∀ j, w.frozen? ⟨b, j, none⟩ = false) :
    (Builtin.clear_ #[53] ty #[.slice (some ⟨b, o, none⟩) n c]).run Tryz.prog w = .ok (.tuple #[]) (w.setCells b o (List.replicate (n * 4) (.int .i64 0))) := by
  have hzc : (Builtin.zeroCells (Value.agg #[.int .i64 0, .int .i64 0, .int .i64 0, .int .i64 0]).cells n).toList = List.replicate (n * 4) (.int .i64 0) := by
    simp only [Value.cells, Builtin.zeroCells]
    apply List.ext_getElem
    · simp
    · intro i h1 h2
      have : i % 4 = 0 ∨ i % 4 = 1 ∨ i % 4 = 2 ∨ i % 4 = 3 := by omega
      rcases this with e | e | e | e <;> simp [e]
  have hst := run_storeCells_cells (P := Tryz.prog) b o (List.replicate (n * 4) (.int .i64 0)) 0 w (by simpa using hc) (fun j _ => hf _) (by intro v hv'; rw [List.eq_of_mem_replicate hv']; rfl)
  simp only [Nat.add_zero] at hst
  obtain ⟨m, rfl⟩ : ∃ m, n = m + 1 := ⟨n - 1, by omega⟩
  have hu : Tryz.prog.underlying 53 = some (.slice 89) := Tryz.underlying53
  simp [Builtin.clear_, run_underlying hu, hzc, hst]
/-- what the closure of Choose reads -/
structure ChC (p : Nat) (P : Option Addr) (pool : List Int) (pc : Nat) (w : World) : Prop where
  c0 : w.cell? ⟨p, 0, none⟩ = some (.slice P pool.length pc)
  c1 : w.cell? ⟨p, 1, none⟩ = some (.slice none 0 0)
  ri : RI w P pool
theorem ChC.below {p : Nat} {P : Option Addr} {pool : List Int} {pc : Nat} {w w' : World} (h : ChC p P pool pc w) (hb : Below w.heap.size w w') : ChC p P pool pc w' :=
  ⟨(hb.cell (lt_of_cell h.c0)).trans h.c0, (hb.cell (lt_of_cell h.c1)).trans h.c1, h.ri.below hb⟩
set_option maxRecDepth 100000 in
theorem choose1_any (p : Nat) (P : Option Addr) (pool : List Int) (pc : Nat) (m : Mv) (w : World) (h : ChC p P pool pc w) (hl : pool.length ≤ 100000) :
    Calls Tryz.prog 70 #[.agg #[.int .i64 m.1, .int .i64 m.2.1, .int .i64 m.2.2.1, .int .i64 m.2.2.2], .pointer (some ⟨p, 0, none⟩)] w (RetB (.bool (!poolB pool m)) w) := by
  go_enter Tryz.func70, Tryz.ntmps70
  go_upto_region 1 with fail
  obtain ⟨W0, hW, k0, hb0, hs0⟩ := boxedA w 89 #[.int .i64 m.1, .int .i64 m.2.1, .int .i64 m.2.2.1, .int .i64 m.2.2.2]
  rw [hW]
  obtain ⟨y0, y1, y2, y3, _, _, _, _⟩ := mvC k0
  obtain ⟨c0, c1, hri⟩ := h.below hb0
  have Hb0 := Lib.hid hb0
  clear hW k0 hb0 hs0 h
  go_wp2_with fail
  refine (containsI_any P pool pc m.2.2.1 W0 hri hl).mono ?_
  rintro e w1 ⟨rfl, rfl⟩
  cases hin : inB pool m.2.2.1
  · have Hin := Lib.hid (show poolB pool m = false from hin)
    clear hin
    go_wp2_with fail
    go_ret
    exact ⟨rb (by rw [Hin.out]; rfl), Hb0.out⟩
  · have Hin := Lib.hid (show poolB pool m = true from hin)
    clear hin
    go_wp2_with fail
    refine (containsI_any none [] 0 m.2.2.1 W0 (RI.nil _ _) (by simp)).mono ?_
    rintro e w1 ⟨rfl, rfl⟩
    go_wp2_with fail
    go_ret
    exact ⟨rb (by rw [Hin.out]; rfl), Hb0.out⟩
/-- the place of the first move that is not in the pool -/
def IxS (pool : List Int) (ms : List Mv) (r : Int) : Prop := (r = -1 ∧ ∀ j, j < ms.length → poolB pool (mv ms j) = true) ∨ ∃ k : Nat, k < ms.length ∧ r = (k : Int) ∧ poolB pool (mv ms k) = false ∧ ∀ j, j < k → poolB pool (mv ms j) = true
set_option maxRecDepth 100000 in
set_option maxHeartbeats 1000000 in
theorem idxMF_any (p : Nat) (P : Option Addr) (pool : List Int) (pc g o c : Nat) (ms : List Mv) (w : World) (h : ChC p P pool pc w) (hl : pool.length ≤ 100000) (hr : MRow w g o ms.length (mv ms)) (hml : ms.length ≤ 1000000) :
    Calls Tryz.prog 86 #[.slice (some ⟨g, o, none⟩) ms.length c, .func (.func 70) #[] #[.pointer (some ⟨p, 0, none⟩)]] w (fun e w' => ∃ r : Int, e = .returned (.int .i64 r) ∧ IxS pool ms r ∧ Below w.heap.size w w') := by
  go_enter Tryz.func86, Tryz.ntmps86
  go_wp2_with fail
  go_loopw [8] (fun t wr => ∃ k : Nat, k ≤ ms.length ∧ t = .int .i64 k ∧ (∀ j, j < k → poolB pool (mv ms j) = true) ∧ Below w.heap.size w wr) (fun t _ => ms.length - (intOf t).toNat)
  case atStart => exact ⟨0, Nat.zero_le _, rfl, fun j hj => absurd hj (by omega), Below.refl _ _⟩
  case round =>
    obtain ⟨k, hk, rfl, hno, hbl⟩ := hrel
    have Hno := Lib.hid hno; clear hno
    by_cases hlt : k < ms.length
    case neg =>
      obtain rfl : k = ms.length := by omega
      go_wp2_with fail
      go_ret
      exact ⟨_, rfl, .inl ⟨rfl, Hno.out⟩, hbl⟩
    case pos =>
    obtain ⟨e0, e1, e2, e3⟩ := (hr.below hbl).c k hlt
    have hk0 : (0 : Int) ≤ (k : Int) := by omega
    have hk1 : (k : Int) < (ms.length : Int) := by omega
    have H := Lib.hid (choose1_any p P pool pc (mv ms k) wr (h.below hbl) hl)
    go_wp2_with fail
    refine H.out.mono ?_
    rintro e w1 ⟨rfl, hb1⟩
    have Hb1 := Lib.hid (endB hbl hb1)
    clear hb1 hbl
    cases hb : poolB pool (mv ms k)
    · have Hb := Lib.hid hb; clear hb
      go_wp2_with fail
      go_ret
      exact ⟨_, rfl, .inr ⟨k, hlt, rfl, Hb.out, Hno.out⟩, Hb1.out⟩
    · have Hb := Lib.hid hb; clear hb
      go_wp2_with fail
      go_roundw
      case rel => exact ⟨k + 1, by omega, by go_num, (fun j hj => by
        by_cases e : j = k
        · rw [e]; exact Hb.out
        · exact Hno.out j (by omega)), Hb1.out⟩
      case measure => simp [intOf]; omega
theorem filt_snoc (pool : List Int) (ms : List Mv) {j : Nat} (h : j < ms.length) : (ms.take (j + 1)).filter (poolB pool) = (ms.take j).filter (poolB pool) ++ (if poolB pool (mv ms j) = true then [mv ms j] else []) := by
  rw [List.take_succ_eq_append_getElem h, List.filter_append, mv_at h]
  by_cases e : poolB pool ms[j] = true
  · rw [if_pos e]; simp [e]
  · rw [if_neg e]; simp [e]
/-- the row while moves are taken out of it: i are kept of the first j -/
structure DelI (pool : List Int) (ms : List Mv) (i j : Nat) (f : Nat → Mv) : Prop where
  len : i = ((ms.take j).filter (poolB pool)).length
  lt : i < j
  le : j ≤ ms.length
  low : ∀ k, k < i → f k = mv ((ms.take j).filter (poolB pool)) k
  high : ∀ k, j ≤ k → k < ms.length → f k = mv ms k
theorem DelI.skip {pool : List Int} {ms : List Mv} {i j : Nat} {f : Nat → Mv} (h : DelI pool ms i j f) (hj : j < ms.length) (hb : poolB pool (mv ms j) = false) : DelI pool ms i (j + 1) f := by
  have e := filt_snoc pool ms hj
  rw [hb] at e
  simp only [Bool.false_eq_true, if_false, List.append_nil] at e
  exact ⟨by rw [e]; exact h.len, by have := h.lt; omega, hj, fun k hk => by rw [e]; exact h.low k hk, fun k hk1 hk2 => h.high k (by omega) hk2⟩
theorem DelI.keep {pool : List Int} {ms : List Mv} {i j : Nat} {f : Nat → Mv} (h : DelI pool ms i j f) (hj : j < ms.length) (hb : poolB pool (mv ms j) = true) : DelI pool ms (i + 1) (j + 1) (fun k => if k = i then mv ms j else f k) := by
  have e := filt_snoc pool ms hj
  rw [if_pos hb] at e
  have hl := h.len; have hlt := h.lt
  refine ⟨by rw [e, List.length_append, List.length_singleton, ← hl], by omega, hj, fun k hk => ?_, fun k hk1 hk2 => ?_⟩
  · rw [e]
    by_cases e2 : k = i
    · rw [if_pos e2, e2, hl, mv_last]
    · rw [if_neg e2, mv_app _ (by omega)]; exact h.low k (by omega)
  · rw [if_neg (by omega)]; exact h.high k (by omega) hk2
theorem DelI.start {pool : List Int} {ms : List Mv} {k : Nat} (hk : k < ms.length) (hb : poolB pool (mv ms k) = false) (hall : ∀ j, j < k → poolB pool (mv ms j) = true) : DelI pool ms k (k + 1) (mv ms) := by
  have e0 : ∀ q, q ≤ k → (ms.take q).filter (poolB pool) = ms.take q := fun q hq => List.filter_eq_self.2 fun x hx => by
    obtain ⟨j, hj, rfl⟩ := List.mem_iff_getElem.1 hx
    rw [List.length_take] at hj
    rw [List.getElem_take, ← mv_at (by omega)]
    exact hall j (by omega)
  have e := filt_snoc pool ms hk
  rw [hb] at e
  simp only [Bool.false_eq_true, if_false, List.append_nil] at e
  rw [e0 k (Nat.le_refl _)] at e
  refine ⟨by rw [e, List.length_take]; omega, by omega, hk, fun j hj => ?_, fun j _ _ => rfl⟩
  rw [e, mv_at (by omega), mv_at (by rw [List.length_take]; omega), List.getElem_take]
theorem below_sets {B b : Nat} {a : World} (hb : B ≤ b) : ∀ (vs : List Value) (o : Nat) (w : World), Below B a w → Below B a (w.setCells b o vs)
  | [], _, _, h => h
  | v :: vs, o, _, h => below_sets hb vs (o + 1) _ (h.setCell (p := ⟨b, o, none⟩) hb v)
set_option maxRecDepth 100000 in
set_option maxHeartbeats 2000000 in
theorem delMF_any (p : Nat) (P : Option Addr) (pool : List Int) (pc g o c B : Nat) (ms : List Mv) (w : World) (hB : B ≤ g) (hBw : B ≤ w.heap.size) (h : ∀ wr, Below B w wr → ChC p P pool pc wr) (hl : pool.length ≤ 100000) (hr : MRow w g o ms.length (mv ms)) (hml : ms.length ≤ 1000000) (hcap : ms.length ≤ c) :
    Calls Tryz.prog 68 #[.slice (some ⟨g, o, none⟩) ms.length c, .func (.func 70) #[] #[.pointer (some ⟨p, 0, none⟩)]] w (fun e w' => e = .returned (.slice (some ⟨g, o, none⟩) (ms.filter (poolB pool)).length c) ∧ RM w' (some ⟨g, o, none⟩) (ms.filter (poolB pool)) ∧ Below B w w') := by
  have Hh := Lib.hid h
  have Hix := Lib.hid (idxMF_any p P pool pc g o c ms w (h w (Below.refl _ _)) hl hr hml)
  have hcap' : (ms.length : Int) ≤ (c : Int) := by omega
  clear h
  go_enter Tryz.func68, Tryz.ntmps68
  go_wp2_with fail
  refine Hix.out.mono ?_
  rintro e w1 ⟨r, rfl, hs, hb1⟩
  have hr1 := hr.below hb1
  have hbB := hb1.mono hBw
  rcases hs with ⟨rfl, hall⟩ | ⟨k, hk, rfl, hbk, hall⟩
  · have hf : ms.filter (poolB pool) = ms := List.filter_eq_self.2 fun x hx => by
      obtain ⟨j, hj, rfl⟩ := List.mem_iff_getElem.1 hx
      rw [← mv_at hj]; exact hall j hj
    have Hf := Lib.hid hf
    clear hf hall
    go_wp2_with fail
    go_ret
    refine ⟨by rw [Hf.out]; rfl, ?_, hbB⟩
    rw [Hf.out]
    exact fun k hk => ⟨g, o, rfl, hr1.c k hk⟩
  · have hne : ((k : Int) == -1) = false := beq_eq_false_iff_ne.2 (by omega)
    have HI := Lib.hid (DelI.start hk hbk hall)
    clear hall hbk
    go_wp2_with fail
    go_loopw [5, 6] (fun s t wr => ∃ (i j : Nat) (f : Nat → Mv), s = .int .i64 i ∧ t = .int .i64 j ∧ DelI pool ms i j f ∧ MRow wr g o ms.length f ∧ Below B w wr) (fun _ t _ => ms.length - (intOf t).toNat)
    case atStart => exact ⟨k, k + 1, mv ms, rfl, by go_num, HI.out, hr1, hbB⟩
    case round =>
      clear hne HI hr1 hbB hb1 hr
      obtain ⟨i, j, f, rfl, rfl, hI, hrow, hbl⟩ := hrel
      have hij := hI.lt; have hjn := hI.le
      have HI := Lib.hid hI
      by_cases hlt : j < ms.length
      case neg =>
        obtain rfl : j = ms.length := by omega
        have hi1 : (i : Int) ≤ (ms.length : Int) := by omega
        have hi2 : (i : Int) ≤ (c : Int) := by omega
        have hi0 : (0 : Int) ≤ (i : Int) := by omega
        have hclr : ∀ ty, (Builtin.clear_ #[53] ty #[.slice (some ⟨g, o + i * 4, none⟩) (ms.length - i) (c - i)]).run Tryz.prog wr = .ok (.tuple #[]) (wr.setCells g (o + i * 4) (List.replicate ((ms.length - i) * 4) (.int .i64 0))) := fun ty =>
          run_clear_mv wr ty g (o + i * 4) (ms.length - i) (c - i) (by omega) (fun q hq => by
            have hk : i + q / 4 < ms.length := by omega
            obtain ⟨h0, h1, h2, h3⟩ := hrow.c _ hk
            have hm : q % 4 = 0 ∨ q % 4 = 1 ∨ q % 4 = 2 ∨ q % 4 = 3 := by omega
            rcases hm with hm | hm | hm | hm
            · rw [show o + i * 4 + q = o + (i + q / 4) * 4 by omega, h0]; rfl
            · rw [show o + i * 4 + q = o + (i + q / 4) * 4 + 1 by omega, h1]; rfl
            · rw [show o + i * 4 + q = o + (i + q / 4) * 4 + 2 by omega, h2]; rfl
            · rw [show o + i * 4 + q = o + (i + q / 4) * 4 + 3 by omega, h3]; rfl) hrow.fz
        have hfin : ∀ q, q < i → (wr.setCells g (o + i * 4) (List.replicate ((ms.length - i) * 4) (.int .i64 0))).cell? ⟨g, o + q * 4, none⟩ = some (.int .i64 (f q).1) ∧ (wr.setCells g (o + i * 4) (List.replicate ((ms.length - i) * 4) (.int .i64 0))).cell? ⟨g, o + q * 4 + 1, none⟩ = some (.int .i64 (f q).2.1) ∧ (wr.setCells g (o + i * 4) (List.replicate ((ms.length - i) * 4) (.int .i64 0))).cell? ⟨g, o + q * 4 + 2, none⟩ = some (.int .i64 (f q).2.2.1) ∧ (wr.setCells g (o + i * 4) (List.replicate ((ms.length - i) * 4) (.int .i64 0))).cell? ⟨g, o + q * 4 + 3, none⟩ = some (.int .i64 (f q).2.2.2) := fun q hq => by
          obtain ⟨h0, h1, h2, h3⟩ := hrow.c q (by omega)
          refine ⟨?_, ?_, ?_, ?_⟩ <;> (rw [World.cell?_setCells_out _ _ _ _ _ (fun _ _ => .inl (by dsimp only; omega))]; assumption)
        have Hfin := Lib.hid hfin
        have Hbs := Lib.hid (below_sets hB (List.replicate ((ms.length - i) * 4) (.int .i64 0)) (o + i * 4) wr hbl)
        have hlen := HI.out.len
        have hlow := HI.out.low
        rw [List.take_length] at hlen hlow
        have Hlen := Lib.hid hlen; have Hlow := Lib.hid hlow
        clear hfin hrow hI hlen hlow
        go_wp2_with fail
        go_ret
        rw [← Hlen.out]
        refine ⟨rfl, fun q hq => ⟨g, o, rfl, ?_⟩, Hbs.out⟩
        rw [← Hlen.out] at hq
        rw [← Hlow.out q hq]
        exact Hfin.out q hq
      case pos =>
      obtain ⟨e0, e1, e2, e3⟩ := hrow.c j hlt
      have hfj := hI.high j (Nat.le_refl _) hlt
      rw [hfj] at e0 e1 e2 e3
      have hj0 : (0 : Int) ≤ (j : Int) := by omega
      have hj1 : (j : Int) < (ms.length : Int) := by omega
      have hi0 : (0 : Int) ≤ (i : Int) := by omega
      have hi1 : (i : Int) < (ms.length : Int) := by omega
      go_upto_region 8 with fail
      obtain ⟨wa, hwa, ka, hba, hsa⟩ := boxedA wr 89 #[.int .i64 (mv ms j).1, .int .i64 (mv ms j).2.1, .int .i64 (mv ms j).2.2.1, .int .i64 (mv ms j).2.2.2]
      rw [hwa]
      obtain ⟨a0, a1, a2, a3, _, _, _, _⟩ := mvC ka
      have hbla : Below B w wa := hbl.trans (hba.mono (Nat.le_trans hBw hbl.size))
      have H := Lib.hid (choose1_any p P pool pc (mv ms j) wa (Hh.out wa hbla) hl)
      have hrowa := hrow.below hba
      clear hwa e0 e1 e2 e3 hrow hba hbl ka hI hfj
      generalize wr.heap.size = ga at *
      go_wp2_with fail
      refine H.out.mono ?_
      rintro e w2 ⟨rfl, hb2⟩
      have hrow2 := hrowa.below hb2
      have hbl2 : Below B w w2 := hbla.trans (hb2.mono (Nat.le_trans hBw hbla.size))
      have b0 := (hb2.cell (lt_of_cell a0)).trans a0
      have b1 := (hb2.cell (lt_of_cell a1)).trans a1
      have b2 := (hb2.cell (lt_of_cell a2)).trans a2
      have b3 := (hb2.cell (lt_of_cell a3)).trans a3
      clear a0 a1 a2 a3 hrowa hb2 hbla H
      cases hb : poolB pool (mv ms j)
      · have HI2 := Lib.hid (HI.out.skip hlt hb)
        have Hr2 := Lib.hid hrow2; have Hb2 := Lib.hid hbl2
        clear hrow2 hbl2 HI
        go_wp2_with fail
        go_roundw
        case rel => exact ⟨i, j + 1, f, rfl, by go_num, HI2.out, Hr2.out, Hb2.out⟩
        case measure => simp [intOf]; omega
      · have HI2 := Lib.hid (HI.out.keep hlt hb)
        obtain ⟨c0, c1, c2, c3⟩ := hrow2.c i (by omega)
        have f0 := hrow2.fz (o + i * 4)
        have f1 := hrow2.fz (o + i * 4 + 1)
        have f2 := hrow2.fz (o + i * 4 + 2)
        have f3 := hrow2.fz (o + i * 4 + 3)
        have Hr2 := Lib.hid (hrow2.set (i := i) (by omega) (mv ms j))
        have Hb2 := Lib.hid ((((hbl2.setCell (p := ⟨g, o + i * 4, none⟩) hB (.int .i64 (mv ms j).1)).setCell (p := ⟨g, o + i * 4 + 1, none⟩) hB (.int .i64 (mv ms j).2.1)).setCell (p := ⟨g, o + i * 4 + 2, none⟩) hB (.int .i64 (mv ms j).2.2.1)).setCell (p := ⟨g, o + i * 4 + 3, none⟩) hB (.int .i64 (mv ms j).2.2.2))
        clear hrow2 hbl2 HI
        go_wp2_with fail
        go_roundw
        case rel => exact ⟨i + 1, j + 1, _, by go_num, by go_num, HI2.out, Hr2.out, Hb2.out⟩
        case measure => simp [intOf]; omega
end Go.Proofs.YthkknlnfdckdfaaGreatDoor

/- The styles of participants; slices.MinFunc at moves. -/
namespace Go.Proofs.YthkknlnfdckdfaaGreatDoor
open Go.ChangeShapes Go.WideShapes Go.ChangeAt Go.RowKit

/-- the call returns a number that is negative exactly if b -/
def RetLt (b : Bool) (w : World) : Ending → World → Prop := fun e w' => ∃ v : Int, e = .returned (.int .i64 v) ∧ decide (v < 0) = b ∧ Below w.heap.size w w'
theorem cmpI_neg (a b : Int) : decide (cmpI a b < 0) = decide (a < b) := by
  unfold cmpI
  by_cases h : a < b
  · simp [h]
  · by_cases h2 : b < a <;> simp [h, h2]
theorem cntA_snoc {l : List (Int × Int)} {x : Int} {q : Nat} (h : q < l.length) : cntA (l.take (q + 1)) x = cntA (l.take q) x + if l[q].2 == x then 1 else 0 := by
  unfold cntA
  rw [List.take_succ_eq_append_getElem h, List.countP_append]
  simp [List.countP_cons]
theorem cntA_le (l : List (Int × Int)) (x : Int) (q : Nat) : cntA (l.take q) x ≤ q := by
  unfold cntA
  have := List.countP_le_length (p := fun p : Int × Int => p.2 == x) (l := l.take q)
  rw [List.length_take] at this; omega
set_option maxRecDepth 100000 in
set_option maxHeartbeats 1000000 in
theorem attackers_any (d : Nat) (A : Option Addr) (l : List (Int × Int)) (c : Nat) (x : Int) (w : World) (hc : w.cell? ⟨d, 1, none⟩ = some (.slice A l.length c)) (hr : RP w A l) (hl : l.length ≤ 100000) :
    Calls Tryz.prog 89 #[.int .i64 x, .pointer (some ⟨d, 0, none⟩)] w (RetB (.int .i64 (cntA l x : Nat)) w) := by
  go_enter Tryz.func89, Tryz.ntmps89
  go_wp2_with fail
  go_loopw [4, 11] (fun s t wr => ∃ q : Nat, q ≤ l.length ∧ t = .int .i64 q ∧ s = .int .i64 (cntA (l.take q) x : Nat) ∧ Below w.heap.size w wr) (fun _ t _ => l.length - (intOf t).toNat)
  case atStart => exact ⟨0, Nat.zero_le _, rfl, rfl, Below.refl _ _⟩
  case round =>
    obtain ⟨q, hq, rfl, rfl, hbl⟩ := hrel
    by_cases hlt : q < l.length
    case neg =>
      obtain rfl : q = l.length := by omega
      go_wp2_with fail
      go_ret
      exact ⟨ri (by rw [List.take_length]), hbl⟩
    case pos =>
    obtain ⟨b, o, rfl, e0, e1⟩ := (hr.below hbl).at_ hlt
    have hlt' : (q : Int) < (l.length : Int) := by omega
    have hst := cntA_snoc (x := x) hlt
    have hle := cntA_le l x q
    have hbs := hbl.size
    cases hx : (l[q].2 == x)
    · rw [hx] at hst
      have Hs := Lib.hid hst; clear hst
      go_wp2_with fail
      go_roundw
      case rel => exact ⟨q + 1, by omega, by go_num, by rw [Hs.out]; rfl, hbl.alloc hbs _⟩
      case measure => simp [intOf]; omega
    · rw [hx] at hst
      have Hs := Lib.hid hst; clear hst
      go_wp2_with fail
      go_roundw
      case rel => exact ⟨q + 1, by omega, by go_num, by rw [Hs.out]; go_num, hbl.alloc hbs _⟩
      case measure => simp [intOf]; omega
set_option maxRecDepth 100000 in
theorem sty1_any (l : List (Int × Int)) (x y : Mv) (w : World) : Calls Tryz.prog 92 #[.agg #[.int .i64 x.1, .int .i64 x.2.1, .int .i64 x.2.2.1, .int .i64 x.2.2.2], .agg #[.int .i64 y.1, .int .i64 y.2.1, .int .i64 y.2.2.1, .int .i64 y.2.2.2]] w (RetLt (decide (keyF l 1 x < keyF l 1 y)) w) := by
  go_enter Tryz.func92, Tryz.ntmps92
  go_upto_region 1 with fail
  obtain ⟨W0, hW, k0, k1, hb0, hs0⟩ := boxed2A w 89 89 #[.int .i64 x.1, .int .i64 x.2.1, .int .i64 x.2.2.1, .int .i64 x.2.2.2] #[.int .i64 y.1, .int .i64 y.2.1, .int .i64 y.2.2.1, .int .i64 y.2.2.2]
  rw [hW]
  clear hW k0 k1 hs0
  go_wp2_with fail
  go_ret
  exact ⟨0, rfl, by simp [keyF], hb0⟩
set_option maxRecDepth 100000 in
theorem sty2_any (l : List (Int × Int)) (x y : Mv) (w : World) : Calls Tryz.prog 90 #[.agg #[.int .i64 x.1, .int .i64 x.2.1, .int .i64 x.2.2.1, .int .i64 x.2.2.2], .agg #[.int .i64 y.1, .int .i64 y.2.1, .int .i64 y.2.2.1, .int .i64 y.2.2.2]] w (RetLt (decide (keyF l 2 x < keyF l 2 y)) w) := by
  go_enter Tryz.func90, Tryz.ntmps90
  go_upto_region 1 with fail
  obtain ⟨W0, hW, k0, k1, hb0, hs0⟩ := boxed2A w 89 89 #[.int .i64 x.1, .int .i64 x.2.1, .int .i64 x.2.2.1, .int .i64 x.2.2.2] #[.int .i64 y.1, .int .i64 y.2.1, .int .i64 y.2.2.1, .int .i64 y.2.2.2]
  rw [hW]
  obtain ⟨_, _, _, x3, _, _, _, _⟩ := mvC k0
  obtain ⟨_, _, _, y3, _, _, _, _⟩ := mvC k1
  clear hW k0 k1 hs0
  go_wp2_with fail
  refine (cmpc_any y.2.2.2 x.2.2.2 W0).mono ?_
  rintro e w1 ⟨rfl, rfl⟩
  go_wp2_with fail
  go_ret
  refine ⟨_, rfl, ?_, hb0⟩
  rw [cmpI_neg]
  have : keyF l 2 x < keyF l 2 y ↔ y.2.2.2 < x.2.2.2 := by unfold keyF; simp only [if_true]; omega
  simp [this]
set_option maxRecDepth 100000 in
set_option maxHeartbeats 1000000 in
theorem sty3_any (q d : Nat) (A : Option Addr) (l : List (Int × Int)) (c : Nat) (x y : Mv) (w : World) (hq : w.cell? ⟨q, 0, none⟩ = some (.func (.func 89) #[] #[.pointer (some ⟨d, 0, none⟩)])) (hc : w.cell? ⟨d, 1, none⟩ = some (.slice A l.length c)) (hr : RP w A l) (hl : l.length ≤ 100000) :
    Calls Tryz.prog 91 #[.agg #[.int .i64 x.1, .int .i64 x.2.1, .int .i64 x.2.2.1, .int .i64 x.2.2.2], .agg #[.int .i64 y.1, .int .i64 y.2.1, .int .i64 y.2.2.1, .int .i64 y.2.2.2], .pointer (some ⟨q, 0, none⟩)] w (RetLt (decide (keyF l 3 x < keyF l 3 y)) w) := by
  go_enter Tryz.func91, Tryz.ntmps91
  go_upto_region 1 with fail
  obtain ⟨W0, hW, k0, k1, hb0, hs0⟩ := boxed2A w 89 89 #[.int .i64 x.1, .int .i64 x.2.1, .int .i64 x.2.2.1, .int .i64 x.2.2.2] #[.int .i64 y.1, .int .i64 y.2.1, .int .i64 y.2.2.1, .int .i64 y.2.2.2]
  rw [hW]
  obtain ⟨_, _, x2, _, _, _, _, _⟩ := mvC k0
  obtain ⟨_, _, y2, _, _, _, _, _⟩ := mvC k1
  have q0 := (hb0.cell (lt_of_cell hq)).trans hq
  have d0 := (hb0.cell (lt_of_cell hc)).trans hc
  have hr0 := hr.below hb0
  clear hW k0 k1 hs0 hq hc hr
  refine wp_region_textB [3, 7, 8] (fun w' => Below W0.heap.size W0 w') (fun _ => True) (by kernel_rfl) (by kernel_rfl) (by kernel_rfl) (Below.refl _ _).drew trivial ?_
  repeat (first
    | (refine TxtBL.skip (by rfl) ?_; simp only [Act.put, List.setIfInBounds_toArray, List.set_cons_zero, List.set_cons_succ])
    | (refine TxtBL.take (by rfl) (by rfl) ?_; apply Exists.intro; refine ⟨fun w1 hS1 => ?_, ?_⟩; (focus ((have g0 := (hS1.cell (lt_of_cell q0)).trans q0); (have g1 := (hS1.cell (lt_of_cell x2)).trans x2); go_simp; with_reducible rfl)); simp only [Act.put, List.setIfInBounds_toArray, List.set_cons_zero, List.set_cons_succ])
    | (refine TxtBL.takeE (by rfl) (by rfl) ?_; apply Exists.intro; refine ⟨fun w1 hS1 => ?_, ?_⟩; (focus ((have g0 := (hS1.cell (lt_of_cell q0)).trans q0); (have g1 := (hS1.cell (lt_of_cell x2)).trans x2); go_simp; with_reducible rfl)); simp only [Act.put, List.setIfInBounds_toArray, List.set_cons_zero, List.set_cons_succ]))
  refine TxtBL.call (f := 89) (args := #[.int .i64 x.2.2.1, .pointer (some ⟨d, 0, none⟩)]) (fun u => u = .int .i64 (cntA l x.2.2.1 : Nat)) (fun _ _ => True) (by rfl) (by rfl) ⟨_, rfl⟩ (fun w2 hS1 hJ1 => by go_simp) (fun w2 hS1 hJ1 => ?_) ?_
  · refine (attackers_any d A l c x.2.2.1 w2 ((hS1.cell (lt_of_cell d0)).trans d0) (hr0.below hS1) hl).mono ?_
    rintro e w' ⟨rfl, hb⟩
    exact ⟨_, rfl, hS1.trans (hb.mono hS1.size), rfl, trivial⟩
  rintro u rfl
  simp only [Act.put, List.setIfInBounds_toArray, List.set_cons_zero, List.set_cons_succ]
  repeat (first
    | (refine TxtBL.skip (by rfl) ?_; simp only [Act.put, List.setIfInBounds_toArray, List.set_cons_zero, List.set_cons_succ])
    | (refine TxtBL.take (by rfl) (by rfl) ?_; apply Exists.intro; refine ⟨fun w1 hS1 => ?_, ?_⟩; (focus ((have g0 := (hS1.cell (lt_of_cell q0)).trans q0); (have g1 := (hS1.cell (lt_of_cell y2)).trans y2); go_simp; with_reducible rfl)); simp only [Act.put, List.setIfInBounds_toArray, List.set_cons_zero, List.set_cons_succ])
    | (refine TxtBL.takeE (by rfl) (by rfl) ?_; apply Exists.intro; refine ⟨fun w1 hS1 => ?_, ?_⟩; (focus ((have g0 := (hS1.cell (lt_of_cell q0)).trans q0); (have g1 := (hS1.cell (lt_of_cell y2)).trans y2); go_simp; with_reducible rfl)); simp only [Act.put, List.setIfInBounds_toArray, List.set_cons_zero, List.set_cons_succ]))
  refine TxtBL.call (f := 89) (args := #[.int .i64 y.2.2.1, .pointer (some ⟨d, 0, none⟩)]) (fun u => u = .int .i64 (cntA l y.2.2.1 : Nat)) (fun _ _ => True) (by rfl) (by rfl) ⟨_, rfl⟩ (fun w2 hS1 hJ1 => by go_simp) (fun w2 hS1 hJ1 => ?_) ?_
  · refine (attackers_any d A l c y.2.2.1 w2 ((hS1.cell (lt_of_cell d0)).trans d0) (hr0.below hS1) hl).mono ?_
    rintro e w' ⟨rfl, hb⟩
    exact ⟨_, rfl, hS1.trans (hb.mono hS1.size), rfl, trivial⟩
  rintro u rfl
  simp only [Act.put, List.setIfInBounds_toArray, List.set_cons_zero, List.set_cons_succ]
  refine TxtBL.call (f := 77) (args := #[.int .i64 (cntA l x.2.2.1 : Nat), .int .i64 (cntA l y.2.2.1 : Nat)]) (fun u => u = .int .i64 (cmpI (cntA l x.2.2.1 : Nat) (cntA l y.2.2.1 : Nat))) (fun _ _ => True) (by rfl) (by rfl) ⟨_, rfl⟩ (fun w2 hS1 hJ1 => by go_simp) (fun w2 hS1 hJ1 => ?_) ?_
  · refine (cmpc_any (cntA l x.2.2.1 : Nat) (cntA l y.2.2.1 : Nat) w2).mono ?_
    rintro e w' ⟨rfl, rfl⟩
    exact ⟨_, rfl, hS1, rfl, trivial⟩
  rintro u rfl
  simp only [Act.put, List.setIfInBounds_toArray, List.set_cons_zero, List.set_cons_succ]
  repeat (first
    | (refine TxtBL.skip (by rfl) ?_; simp only [Act.put, List.setIfInBounds_toArray, List.set_cons_zero, List.set_cons_succ])
    | (refine TxtBL.take (by rfl) (by rfl) ?_; apply Exists.intro; refine ⟨fun w1 hS1 => ?_, ?_⟩; (focus (skip; go_simp; with_reducible rfl)); simp only [Act.put, List.setIfInBounds_toArray, List.set_cons_zero, List.set_cons_succ])
    | (refine TxtBL.takeE (by rfl) (by rfl) ?_; apply Exists.intro; refine ⟨fun w1 hS1 => ?_, ?_⟩; (focus (skip; go_simp; with_reducible rfl)); simp only [Act.put, List.setIfInBounds_toArray, List.set_cons_zero, List.set_cons_succ]))
  refine TxtBL.nil (fun w2 hS hJ => ?_)
  have Hb := Lib.hid (hb0.trans (hS.mono hb0.size))
  clear hS
  go_wp2_with fail
  go_ret
  refine ⟨_, rfl, ?_, Hb.out⟩
  rw [cmpI_neg]
  have : keyF l 3 x < keyF l 3 y ↔ ((cntA l x.2.2.1 : Nat) : Int) < (cntA l y.2.2.1 : Nat) := by unfold keyF; simp
  simp [this]
theorem minF_snoc (l : List (Int × Int)) (s : Int) {a : List Mv} (h : a ≠ []) (x : Mv) : minF l s (a ++ [x]) = minS l s (minF l s a) x := by
  cases a with
  | nil => exact absurd rfl h
  | cons m r => simp [minF, List.foldl_append]
/-- the call returns the first of the least moves -/
def RetMv (m : Mv) (w : World) : Ending → World → Prop := fun e w' => e = .returned (.agg #[.int .i64 m.1, .int .i64 m.2.1, .int .i64 m.2.2.1, .int .i64 m.2.2.2]) ∧ Below w.heap.size w w'
set_option maxRecDepth 100000 in
set_option maxHeartbeats 2000000 in
theorem minMF1_any (l : List (Int × Int)) (cc : Nat) (M : Option Addr) (ms : List Mv) (w : World)  (hr : RM w M ms) (h0 : ms ≠ []) (hml : ms.length ≤ 1000000) :
    Calls Tryz.prog 72 #[.slice M ms.length cc, .func (.func 92) #[] #[]] w (RetMv (minF l 1 ms) w) := by
  have hpos : 0 < ms.length := List.length_pos_iff.2 h0
  have hcmp : ∀ w1, Below w.heap.size w w1 → ∀ x y : Mv, Calls Tryz.prog 92 (#[.agg #[.int .i64 x.1, .int .i64 x.2.1, .int .i64 x.2.2.1, .int .i64 x.2.2.2], .agg #[.int .i64 y.1, .int .i64 y.2.1, .int .i64 y.2.2.1, .int .i64 y.2.2.2]] ++ #[]) w1 (RetLt (decide (keyF l 1 x < keyF l 1 y)) w1) := fun w1 _ x y => sty1_any l x y w1
  simp only [List.append_toArray, List.cons_append, List.nil_append] at hcmp
  have Hc := Lib.hid hcmp
  have hnl : decide ((ms.length : Int) < 1) = false := decide_eq_false (by omega)
  have hn0 : (0 : Int) < (ms.length : Int) := by omega
  clear hcmp
  obtain ⟨b, o, rfl, e0, e1, e2, e3⟩ := hr 0 hpos
  simp only [Nat.zero_mul, Nat.add_zero] at e0 e1 e2 e3
  go_enter Tryz.func72, Tryz.ntmps72
  go_upto_region 1 with fail
  obtain ⟨W1, hW1, j0, hb1, hs1⟩ := boxedA w 89 #[.int .i64 0, .int .i64 0, .int .i64 0, .int .i64 0]
  rw [hW1]
  have e0 := (hb1.cell (lt_of_cell e0)).trans e0
  have e1 := (hb1.cell (lt_of_cell e1)).trans e1
  have e2 := (hb1.cell (lt_of_cell e2)).trans e2
  have e3 := (hb1.cell (lt_of_cell e3)).trans e3
  go_upto_region 4 with fail
  obtain ⟨W0, hW, k1, hb2, hs2⟩ := boxedA W1 89 #[.int .i64 (mv ms 0).1, .int .i64 (mv ms 0).2.1, .int .i64 (mv ms 0).2.2.1, .int .i64 (mv ms 0).2.2.2]
  rw [hW]
  have k0 := j0.below hb2 (by omega)
  have hb0 := endB hb1 hb2
  rw [hs1] at k1
  have hs0 : W0.heap.size = w.heap.size + 2 := by omega
  have hk1 : Blk W0 (w.heap.size + 1) 89 #[.int .i64 (minF l 1 (ms.take 1)).1, .int .i64 (minF l 1 (ms.take 1)).2.1, .int .i64 (minF l 1 (ms.take 1)).2.2.1, .int .i64 (minF l 1 (ms.take 1)).2.2.2] := by
    have : minF l 1 (ms.take 1) = mv ms 0 := by
      cases ms with
      | nil => exact absurd rfl h0
      | cons m r => rfl
    rw [this]; exact k1
  have Hk0 := Lib.hid k0
  have Hs0 := Lib.hid hs0
  have Hb0 := Lib.hid hb0
  clear hW hW1 j0 hb1 hs1 hb2 hs2 k0 k1 hb0 hs0 e0 e1 e2 e3 hnl
  go_wp2_with fail
  go_loopw [6] (fun t wr => ∃ j : Nat, 1 ≤ j ∧ j ≤ ms.length ∧ t = .int .i64 j ∧ Blk wr (w.heap.size + 1) 89 #[.int .i64 (minF l 1 (ms.take j)).1, .int .i64 (minF l 1 (ms.take j)).2.1, .int .i64 (minF l 1 (ms.take j)).2.2.1, .int .i64 (minF l 1 (ms.take j)).2.2.2] ∧ Below (w.heap.size + 1) W0 wr) (fun t _ => ms.length - (intOf t).toNat)
  case atStart => exact ⟨1, Nat.le_refl _, hpos, rfl, hk1, Below.refl _ _⟩
  case round =>
    clear hk1
    obtain ⟨j, hj1, hj, rfl, hk, hbl⟩ := hrel
    have hbw : Below w.heap.size w wr := Hb0.out.trans (hbl.mono (Nat.le_succ _))
    by_cases hlt : j < ms.length
    case neg =>
      obtain rfl : j = ms.length := by omega
      rw [List.take_length] at hk
      obtain ⟨u0, u1, u2, u3, _, _, _, _⟩ := mvC hk
      have hkz := Hk0.out.below hbl (Nat.lt_succ_self _)
      obtain ⟨q0, q1, q2, q3, f0, f1, f2, f3⟩ := mvC hkz
      have Hkz := Lib.hid hkz; have Hbw := Lib.hid hbw
      clear hkz hbw hbl hk
      go_wp2_with fail
      have hk4 := set4 Hkz.out (.int .i64 (minF l 1 ms).1) (.int .i64 (minF l 1 ms).2.1) (.int .i64 (minF l 1 ms).2.2.1) (.int .i64 (minF l 1 ms).2.2.2)
      obtain ⟨r0, r1, r2, r3, _, _, _, _⟩ := mvC hk4
      refine bodyPost_ret (v := .agg #[.int .i64 (minF l 1 ms).1, .int .i64 (minF l 1 ms).2.1, .int .i64 (minF l 1 ms).2.2.1, .int .i64 (minF l 1 ms).2.2.2]) (by simp [results, Tryz.results72, go_sem, r0, r1, r2, r3]) rfl ?_
      exact ⟨rfl, below_set4 Hbw.out (Nat.le_refl _) _ _ _ _⟩
    case pos =>
    have htk : ms.take j ≠ [] := fun e => by
      have := congrArg List.length e
      rw [List.length_take, List.length_nil] at this; omega
    have hmin : minF l 1 (ms.take (j + 1)) = minS l 1 (minF l 1 (ms.take j)) (mv ms j) := by
      rw [List.take_succ_eq_append_getElem hlt, minF_snoc _ _ htk, mv_at hlt]
    have Hmin := Lib.hid hmin
    clear hmin htk
    obtain ⟨mk, hmk⟩ : ∃ x, minF l 1 (ms.take j) = x := ⟨_, rfl⟩
    rw [hmk] at hk
    have Hmk := Lib.hid hmk
    clear hmk
    obtain ⟨u0, u1, u2, u3, f0, f1, f2, f3⟩ := mvC hk
    obtain ⟨e0, e1, e2, e3⟩ := (hr.below hbw).cells hlt
    have hj0 : (0 : Int) ≤ (j : Int) := by omega
    have hjl : (j : Int) < (ms.length : Int) := by omega
    have hwr : w.heap.size + 1 < wr.heap.size := hk.lt
    go_upto_region 7 with fail
    refine wp_region_textB [6] (fun w' => Below wr.heap.size wr w') (fun _ => True) (by kernel_rfl) (by kernel_rfl) (by kernel_rfl) (Below.refl _ _).drew trivial ?_
    repeat (first
      | (refine TxtBL.skip (by rfl) ?_; simp only [Act.put, List.setIfInBounds_toArray, List.set_cons_zero, List.set_cons_succ])
      | (refine TxtBL.take (by rfl) (by rfl) ?_; apply Exists.intro; refine ⟨fun w1 hS1 => ?_, ?_⟩; (focus ((have g0 := (hS1.cell (lt_of_cell u0)).trans u0); (have h0 := (hS1.cell (lt_of_cell e0)).trans e0); (have g1 := (hS1.cell (lt_of_cell u1)).trans u1); (have h1 := (hS1.cell (lt_of_cell e1)).trans e1); (have g2 := (hS1.cell (lt_of_cell u2)).trans u2); (have h2 := (hS1.cell (lt_of_cell e2)).trans e2); (have g3 := (hS1.cell (lt_of_cell u3)).trans u3); (have h3 := (hS1.cell (lt_of_cell e3)).trans e3); go_simp; with_reducible rfl)); simp only [Act.put, List.setIfInBounds_toArray, List.set_cons_zero, List.set_cons_succ])
      | (refine TxtBL.takeE (by rfl) (by rfl) ?_; apply Exists.intro; refine ⟨fun w1 hS1 => ?_, ?_⟩; (focus ((have g0 := (hS1.cell (lt_of_cell u0)).trans u0); (have h0 := (hS1.cell (lt_of_cell e0)).trans e0); (have g1 := (hS1.cell (lt_of_cell u1)).trans u1); (have h1 := (hS1.cell (lt_of_cell e1)).trans e1); (have g2 := (hS1.cell (lt_of_cell u2)).trans u2); (have h2 := (hS1.cell (lt_of_cell e2)).trans e2); (have g3 := (hS1.cell (lt_of_cell u3)).trans u3); (have h3 := (hS1.cell (lt_of_cell e3)).trans e3); go_simp; with_reducible rfl)); simp only [Act.put, List.setIfInBounds_toArray, List.set_cons_zero, List.set_cons_succ]))
    refine TxtBL.call (f := 92) (args := #[.agg #[.int .i64 (mv ms j).1, .int .i64 (mv ms j).2.1, .int .i64 (mv ms j).2.2.1, .int .i64 (mv ms j).2.2.2], .agg #[.int .i64 mk.1, .int .i64 mk.2.1, .int .i64 mk.2.2.1, .int .i64 mk.2.2.2]]) (fun u => ∃ v : Int, u = .int .i64 v ∧ decide (v < 0) = decide (keyF l 1 (mv ms j) < keyF l 1 mk)) (fun _ _ => True) (by rfl) (by rfl) ⟨.int .i64 (if keyF l 1 (mv ms j) < keyF l 1 mk then -1 else 0), _, rfl, by split <;> simp [*]⟩ (fun w2 hS1 hJ1 => by go_simp) (fun w2 hS1 hJ1 => ?_) ?_
    · refine (Hc.out w2 (endB hbw hS1) (mv ms j) mk).mono ?_
      rintro e w' ⟨v, rfl, hd, hb⟩
      exact ⟨_, rfl, endB hS1 hb, ⟨v, rfl, hd⟩, trivial⟩
    rintro u ⟨v, rfl, hd⟩
    simp only [Act.put, List.setIfInBounds_toArray, List.set_cons_zero, List.set_cons_succ]
    repeat (first
      | (refine TxtBL.skip (by rfl) ?_; simp only [Act.put, List.setIfInBounds_toArray, List.set_cons_zero, List.set_cons_succ])
      | (refine TxtBL.take (by rfl) (by rfl) ?_; apply Exists.intro; refine ⟨fun w1 hS1 => ?_, ?_⟩; (focus (skip; go_simp; with_reducible rfl)); simp only [Act.put, List.setIfInBounds_toArray, List.set_cons_zero, List.set_cons_succ])
      | (refine TxtBL.takeE (by rfl) (by rfl) ?_; apply Exists.intro; refine ⟨fun w1 hS1 => ?_, ?_⟩; (focus (skip; go_simp; with_reducible rfl)); simp only [Act.put, List.setIfInBounds_toArray, List.set_cons_zero, List.set_cons_succ]))
    clear hd
    refine TxtBL.nil (fun w2 hS hJ => ?_)
    have hk2 := hk.below hS hk.lt
    have hb2 : Below (w.heap.size + 1) W0 w2 := hbl.trans (hS.mono (by omega))
    have hb2w := endB hbw hS
    clear u0 u1 u2 u3 f0 f1 f2 f3 e0 e1 e2 e3 hk hbl hbw hS hJ
    obtain ⟨_, _, _, _, f0, f1, f2, f3⟩ := mvC hk2
    obtain ⟨u0, u1, u2, u3, _, _, _, _⟩ := mvC hk2
    obtain ⟨e0, e1, e2, e3⟩ := (hr.below hb2w).cells hlt
    cases hle : decide (keyF l 1 (mv ms j) < keyF l 1 mk)
    case true =>
      have Hle := Lib.hid (of_decide_eq_true hle)
      have Hk3 := Lib.hid (set4 hk2 (.int .i64 (mv ms j).1) (.int .i64 (mv ms j).2.1) (.int .i64 (mv ms j).2.2.1) (.int .i64 (mv ms j).2.2.2))
      have Hb3 := Lib.hid (below_set4 hb2 (Nat.le_refl _) (.int .i64 (mv ms j).1) (.int .i64 (mv ms j).2.1) (.int .i64 (mv ms j).2.2.1) (.int .i64 (mv ms j).2.2.2))
      clear hle hk2 hb2 hb2w
      go_wp2_with fail
      go_roundw
      case rel => exact ⟨j + 1, by omega, by omega, by go_num, by rw [Hmin.out, Hmk.out]; unfold minS; rw [if_pos Hle.out]; exact Hk3.out, Hb3.out⟩
      case measure => simp [intOf]; omega
    case false =>
      have Hle := Lib.hid (of_decide_eq_false hle)
      have Hk3 := Lib.hid hk2; have Hb3 := Lib.hid hb2
      clear hle hk2 hb2 hb2w
      go_wp2_with fail
      go_roundw
      case rel => exact ⟨j + 1, by omega, by omega, by go_num, by rw [Hmin.out, Hmk.out]; unfold minS; rw [if_neg Hle.out]; exact Hk3.out, Hb3.out⟩
      case measure => simp [intOf]; omega
set_option maxRecDepth 100000 in
set_option maxHeartbeats 2000000 in
theorem minMF2_any (l : List (Int × Int)) (cc : Nat) (M : Option Addr) (ms : List Mv) (w : World)  (hr : RM w M ms) (h0 : ms ≠ []) (hml : ms.length ≤ 1000000) :
    Calls Tryz.prog 72 #[.slice M ms.length cc, .func (.func 90) #[] #[]] w (RetMv (minF l 2 ms) w) := by
  have hpos : 0 < ms.length := List.length_pos_iff.2 h0
  have hcmp : ∀ w1, Below w.heap.size w w1 → ∀ x y : Mv, Calls Tryz.prog 90 (#[.agg #[.int .i64 x.1, .int .i64 x.2.1, .int .i64 x.2.2.1, .int .i64 x.2.2.2], .agg #[.int .i64 y.1, .int .i64 y.2.1, .int .i64 y.2.2.1, .int .i64 y.2.2.2]] ++ #[]) w1 (RetLt (decide (keyF l 2 x < keyF l 2 y)) w1) := fun w1 _ x y => sty2_any l x y w1
  simp only [List.append_toArray, List.cons_append, List.nil_append] at hcmp
  have Hc := Lib.hid hcmp
  have hnl : decide ((ms.length : Int) < 1) = false := decide_eq_false (by omega)
  have hn0 : (0 : Int) < (ms.length : Int) := by omega
  clear hcmp
  obtain ⟨b, o, rfl, e0, e1, e2, e3⟩ := hr 0 hpos
  simp only [Nat.zero_mul, Nat.add_zero] at e0 e1 e2 e3
  go_enter Tryz.func72, Tryz.ntmps72
  go_upto_region 1 with fail
  obtain ⟨W1, hW1, j0, hb1, hs1⟩ := boxedA w 89 #[.int .i64 0, .int .i64 0, .int .i64 0, .int .i64 0]
  rw [hW1]
  have e0 := (hb1.cell (lt_of_cell e0)).trans e0
  have e1 := (hb1.cell (lt_of_cell e1)).trans e1
  have e2 := (hb1.cell (lt_of_cell e2)).trans e2
  have e3 := (hb1.cell (lt_of_cell e3)).trans e3
  go_upto_region 4 with fail
  obtain ⟨W0, hW, k1, hb2, hs2⟩ := boxedA W1 89 #[.int .i64 (mv ms 0).1, .int .i64 (mv ms 0).2.1, .int .i64 (mv ms 0).2.2.1, .int .i64 (mv ms 0).2.2.2]
  rw [hW]
  have k0 := j0.below hb2 (by omega)
  have hb0 := endB hb1 hb2
  rw [hs1] at k1
  have hs0 : W0.heap.size = w.heap.size + 2 := by omega
  have hk1 : Blk W0 (w.heap.size + 1) 89 #[.int .i64 (minF l 2 (ms.take 1)).1, .int .i64 (minF l 2 (ms.take 1)).2.1, .int .i64 (minF l 2 (ms.take 1)).2.2.1, .int .i64 (minF l 2 (ms.take 1)).2.2.2] := by
    have : minF l 2 (ms.take 1) = mv ms 0 := by
      cases ms with
      | nil => exact absurd rfl h0
      | cons m r => rfl
    rw [this]; exact k1
  have Hk0 := Lib.hid k0
  have Hs0 := Lib.hid hs0
  have Hb0 := Lib.hid hb0
  clear hW hW1 j0 hb1 hs1 hb2 hs2 k0 k1 hb0 hs0 e0 e1 e2 e3 hnl
  go_wp2_with fail
  go_loopw [6] (fun t wr => ∃ j : Nat, 1 ≤ j ∧ j ≤ ms.length ∧ t = .int .i64 j ∧ Blk wr (w.heap.size + 1) 89 #[.int .i64 (minF l 2 (ms.take j)).1, .int .i64 (minF l 2 (ms.take j)).2.1, .int .i64 (minF l 2 (ms.take j)).2.2.1, .int .i64 (minF l 2 (ms.take j)).2.2.2] ∧ Below (w.heap.size + 1) W0 wr) (fun t _ => ms.length - (intOf t).toNat)
  case atStart => exact ⟨1, Nat.le_refl _, hpos, rfl, hk1, Below.refl _ _⟩
  case round =>
    clear hk1
    obtain ⟨j, hj1, hj, rfl, hk, hbl⟩ := hrel
    have hbw : Below w.heap.size w wr := Hb0.out.trans (hbl.mono (Nat.le_succ _))
    by_cases hlt : j < ms.length
    case neg =>
      obtain rfl : j = ms.length := by omega
      rw [List.take_length] at hk
      obtain ⟨u0, u1, u2, u3, _, _, _, _⟩ := mvC hk
      have hkz := Hk0.out.below hbl (Nat.lt_succ_self _)
      obtain ⟨q0, q1, q2, q3, f0, f1, f2, f3⟩ := mvC hkz
      have Hkz := Lib.hid hkz; have Hbw := Lib.hid hbw
      clear hkz hbw hbl hk
      go_wp2_with fail
      have hk4 := set4 Hkz.out (.int .i64 (minF l 2 ms).1) (.int .i64 (minF l 2 ms).2.1) (.int .i64 (minF l 2 ms).2.2.1) (.int .i64 (minF l 2 ms).2.2.2)
      obtain ⟨r0, r1, r2, r3, _, _, _, _⟩ := mvC hk4
      refine bodyPost_ret (v := .agg #[.int .i64 (minF l 2 ms).1, .int .i64 (minF l 2 ms).2.1, .int .i64 (minF l 2 ms).2.2.1, .int .i64 (minF l 2 ms).2.2.2]) (by simp [results, Tryz.results72, go_sem, r0, r1, r2, r3]) rfl ?_
      exact ⟨rfl, below_set4 Hbw.out (Nat.le_refl _) _ _ _ _⟩
    case pos =>
    have htk : ms.take j ≠ [] := fun e => by
      have := congrArg List.length e
      rw [List.length_take, List.length_nil] at this; omega
    have hmin : minF l 2 (ms.take (j + 1)) = minS l 2 (minF l 2 (ms.take j)) (mv ms j) := by
      rw [List.take_succ_eq_append_getElem hlt, minF_snoc _ _ htk, mv_at hlt]
    have Hmin := Lib.hid hmin
    clear hmin htk
    obtain ⟨mk, hmk⟩ : ∃ x, minF l 2 (ms.take j) = x := ⟨_, rfl⟩
    rw [hmk] at hk
    have Hmk := Lib.hid hmk
    clear hmk
    obtain ⟨u0, u1, u2, u3, f0, f1, f2, f3⟩ := mvC hk
    obtain ⟨e0, e1, e2, e3⟩ := (hr.below hbw).cells hlt
    have hj0 : (0 : Int) ≤ (j : Int) := by omega
    have hjl : (j : Int) < (ms.length : Int) := by omega
    have hwr : w.heap.size + 1 < wr.heap.size := hk.lt
    go_upto_region 7 with fail
    refine wp_region_textB [6] (fun w' => Below wr.heap.size wr w') (fun _ => True) (by kernel_rfl) (by kernel_rfl) (by kernel_rfl) (Below.refl _ _).drew trivial ?_
    repeat (first
      | (refine TxtBL.skip (by rfl) ?_; simp only [Act.put, List.setIfInBounds_toArray, List.set_cons_zero, List.set_cons_succ])
      | (refine TxtBL.take (by rfl) (by rfl) ?_; apply Exists.intro; refine ⟨fun w1 hS1 => ?_, ?_⟩; (focus ((have g0 := (hS1.cell (lt_of_cell u0)).trans u0); (have h0 := (hS1.cell (lt_of_cell e0)).trans e0); (have g1 := (hS1.cell (lt_of_cell u1)).trans u1); (have h1 := (hS1.cell (lt_of_cell e1)).trans e1); (have g2 := (hS1.cell (lt_of_cell u2)).trans u2); (have h2 := (hS1.cell (lt_of_cell e2)).trans e2); (have g3 := (hS1.cell (lt_of_cell u3)).trans u3); (have h3 := (hS1.cell (lt_of_cell e3)).trans e3); go_simp; with_reducible rfl)); simp only [Act.put, List.setIfInBounds_toArray, List.set_cons_zero, List.set_cons_succ])
      | (refine TxtBL.takeE (by rfl) (by rfl) ?_; apply Exists.intro; refine ⟨fun w1 hS1 => ?_, ?_⟩; (focus ((have g0 := (hS1.cell (lt_of_cell u0)).trans u0); (have h0 := (hS1.cell (lt_of_cell e0)).trans e0); (have g1 := (hS1.cell (lt_of_cell u1)).trans u1); (have h1 := (hS1.cell (lt_of_cell e1)).trans e1); (have g2 := (hS1.cell (lt_of_cell u2)).trans u2); (have h2 := (hS1.cell (lt_of_cell e2)).trans e2); (have g3 := (hS1.cell (lt_of_cell u3)).trans u3); (have h3 := (hS1.cell (lt_of_cell e3)).trans e3); go_simp; with_reducible rfl)); simp only [Act.put, List.setIfInBounds_toArray, List.set_cons_zero, List.set_cons_succ]))
    refine TxtBL.call (f := 90) (args := #[.agg #[.int .i64 (mv ms j).1, .int .i64 (mv ms j).2.1, .int .i64 (mv ms j).2.2.1, .int .i64 (mv ms j).2.2.2], .agg #[.int .i64 mk.1, .int .i64 mk.2.1, .int .i64 mk.2.2.1, .int .i64 mk.2.2.2]]) (fun u => ∃ v : Int, u = .int .i64 v ∧ decide (v < 0) = decide (keyF l 2 (mv ms j) < keyF l 2 mk)) (fun _ _ => True) (by rfl) (by rfl) ⟨.int .i64 (if keyF l 2 (mv ms j) < keyF l 2 mk then -1 else 0), _, rfl, by split <;> simp [*]⟩ (fun w2 hS1 hJ1 => by go_simp) (fun w2 hS1 hJ1 => ?_) ?_
    · refine (Hc.out w2 (endB hbw hS1) (mv ms j) mk).mono ?_
      rintro e w' ⟨v, rfl, hd, hb⟩
      exact ⟨_, rfl, endB hS1 hb, ⟨v, rfl, hd⟩, trivial⟩
    rintro u ⟨v, rfl, hd⟩
    simp only [Act.put, List.setIfInBounds_toArray, List.set_cons_zero, List.set_cons_succ]
    repeat (first
      | (refine TxtBL.skip (by rfl) ?_; simp only [Act.put, List.setIfInBounds_toArray, List.set_cons_zero, List.set_cons_succ])
      | (refine TxtBL.take (by rfl) (by rfl) ?_; apply Exists.intro; refine ⟨fun w1 hS1 => ?_, ?_⟩; (focus (skip; go_simp; with_reducible rfl)); simp only [Act.put, List.setIfInBounds_toArray, List.set_cons_zero, List.set_cons_succ])
      | (refine TxtBL.takeE (by rfl) (by rfl) ?_; apply Exists.intro; refine ⟨fun w1 hS1 => ?_, ?_⟩; (focus (skip; go_simp; with_reducible rfl)); simp only [Act.put, List.setIfInBounds_toArray, List.set_cons_zero, List.set_cons_succ]))
    clear hd
    refine TxtBL.nil (fun w2 hS hJ => ?_)
    have hk2 := hk.below hS hk.lt
    have hb2 : Below (w.heap.size + 1) W0 w2 := hbl.trans (hS.mono (by omega))
    have hb2w := endB hbw hS
    clear u0 u1 u2 u3 f0 f1 f2 f3 e0 e1 e2 e3 hk hbl hbw hS hJ
    obtain ⟨_, _, _, _, f0, f1, f2, f3⟩ := mvC hk2
    obtain ⟨u0, u1, u2, u3, _, _, _, _⟩ := mvC hk2
    obtain ⟨e0, e1, e2, e3⟩ := (hr.below hb2w).cells hlt
    cases hle : decide (keyF l 2 (mv ms j) < keyF l 2 mk)
    case true =>
      have Hle := Lib.hid (of_decide_eq_true hle)
      have Hk3 := Lib.hid (set4 hk2 (.int .i64 (mv ms j).1) (.int .i64 (mv ms j).2.1) (.int .i64 (mv ms j).2.2.1) (.int .i64 (mv ms j).2.2.2))
      have Hb3 := Lib.hid (below_set4 hb2 (Nat.le_refl _) (.int .i64 (mv ms j).1) (.int .i64 (mv ms j).2.1) (.int .i64 (mv ms j).2.2.1) (.int .i64 (mv ms j).2.2.2))
      clear hle hk2 hb2 hb2w
      go_wp2_with fail
      go_roundw
      case rel => exact ⟨j + 1, by omega, by omega, by go_num, by rw [Hmin.out, Hmk.out]; unfold minS; rw [if_pos Hle.out]; exact Hk3.out, Hb3.out⟩
      case measure => simp [intOf]; omega
    case false =>
      have Hle := Lib.hid (of_decide_eq_false hle)
      have Hk3 := Lib.hid hk2; have Hb3 := Lib.hid hb2
      clear hle hk2 hb2 hb2w
      go_wp2_with fail
      go_roundw
      case rel => exact ⟨j + 1, by omega, by omega, by go_num, by rw [Hmin.out, Hmk.out]; unfold minS; rw [if_neg Hle.out]; exact Hk3.out, Hb3.out⟩
      case measure => simp [intOf]; omega
set_option maxRecDepth 100000 in
set_option maxHeartbeats 2000000 in
theorem minMF3_any (A : Option Addr) (l : List (Int × Int)) (c q d cc : Nat) (M : Option Addr) (ms : List Mv) (w : World) (hq : w.cell? ⟨q, 0, none⟩ = some (.func (.func 89) #[] #[.pointer (some ⟨d, 0, none⟩)])) (hc : w.cell? ⟨d, 1, none⟩ = some (.slice A l.length c)) (hp : RP w A l) (hll : l.length ≤ 100000) (hr : RM w M ms) (h0 : ms ≠ []) (hml : ms.length ≤ 1000000) :
    Calls Tryz.prog 72 #[.slice M ms.length cc, .func (.func 91) #[] #[.pointer (some ⟨q, 0, none⟩)]] w (RetMv (minF l 3 ms) w) := by
  have hpos : 0 < ms.length := List.length_pos_iff.2 h0
  have hcmp : ∀ w1, Below w.heap.size w w1 → ∀ x y : Mv, Calls Tryz.prog 91 (#[.agg #[.int .i64 x.1, .int .i64 x.2.1, .int .i64 x.2.2.1, .int .i64 x.2.2.2], .agg #[.int .i64 y.1, .int .i64 y.2.1, .int .i64 y.2.2.1, .int .i64 y.2.2.2]] ++ #[.pointer (some ⟨q, 0, none⟩)]) w1 (RetLt (decide (keyF l 3 x < keyF l 3 y)) w1) := fun w1 hb x y => sty3_any q d A l c x y w1 ((hb.cell (lt_of_cell hq)).trans hq) ((hb.cell (lt_of_cell hc)).trans hc) (hp.below hb) hll
  simp only [List.append_toArray, List.cons_append, List.nil_append] at hcmp
  have Hc := Lib.hid hcmp
  have hnl : decide ((ms.length : Int) < 1) = false := decide_eq_false (by omega)
  have hn0 : (0 : Int) < (ms.length : Int) := by omega
  clear hcmp
  obtain ⟨b, o, rfl, e0, e1, e2, e3⟩ := hr 0 hpos
  simp only [Nat.zero_mul, Nat.add_zero] at e0 e1 e2 e3
  go_enter Tryz.func72, Tryz.ntmps72
  go_upto_region 1 with fail
  obtain ⟨W1, hW1, j0, hb1, hs1⟩ := boxedA w 89 #[.int .i64 0, .int .i64 0, .int .i64 0, .int .i64 0]
  rw [hW1]
  have e0 := (hb1.cell (lt_of_cell e0)).trans e0
  have e1 := (hb1.cell (lt_of_cell e1)).trans e1
  have e2 := (hb1.cell (lt_of_cell e2)).trans e2
  have e3 := (hb1.cell (lt_of_cell e3)).trans e3
  go_upto_region 4 with fail
  obtain ⟨W0, hW, k1, hb2, hs2⟩ := boxedA W1 89 #[.int .i64 (mv ms 0).1, .int .i64 (mv ms 0).2.1, .int .i64 (mv ms 0).2.2.1, .int .i64 (mv ms 0).2.2.2]
  rw [hW]
  have k0 := j0.below hb2 (by omega)
  have hb0 := endB hb1 hb2
  rw [hs1] at k1
  have hs0 : W0.heap.size = w.heap.size + 2 := by omega
  have hk1 : Blk W0 (w.heap.size + 1) 89 #[.int .i64 (minF l 3 (ms.take 1)).1, .int .i64 (minF l 3 (ms.take 1)).2.1, .int .i64 (minF l 3 (ms.take 1)).2.2.1, .int .i64 (minF l 3 (ms.take 1)).2.2.2] := by
    have : minF l 3 (ms.take 1) = mv ms 0 := by
      cases ms with
      | nil => exact absurd rfl h0
      | cons m r => rfl
    rw [this]; exact k1
  have Hk0 := Lib.hid k0
  have Hs0 := Lib.hid hs0
  have Hb0 := Lib.hid hb0
  clear hW hW1 j0 hb1 hs1 hb2 hs2 k0 k1 hb0 hs0 e0 e1 e2 e3 hnl
  go_wp2_with fail
  go_loopw [6] (fun t wr => ∃ j : Nat, 1 ≤ j ∧ j ≤ ms.length ∧ t = .int .i64 j ∧ Blk wr (w.heap.size + 1) 89 #[.int .i64 (minF l 3 (ms.take j)).1, .int .i64 (minF l 3 (ms.take j)).2.1, .int .i64 (minF l 3 (ms.take j)).2.2.1, .int .i64 (minF l 3 (ms.take j)).2.2.2] ∧ Below (w.heap.size + 1) W0 wr) (fun t _ => ms.length - (intOf t).toNat)
  case atStart => exact ⟨1, Nat.le_refl _, hpos, rfl, hk1, Below.refl _ _⟩
  case round =>
    clear hk1
    obtain ⟨j, hj1, hj, rfl, hk, hbl⟩ := hrel
    have hbw : Below w.heap.size w wr := Hb0.out.trans (hbl.mono (Nat.le_succ _))
    by_cases hlt : j < ms.length
    case neg =>
      obtain rfl : j = ms.length := by omega
      rw [List.take_length] at hk
      obtain ⟨u0, u1, u2, u3, _, _, _, _⟩ := mvC hk
      have hkz := Hk0.out.below hbl (Nat.lt_succ_self _)
      obtain ⟨q0, q1, q2, q3, f0, f1, f2, f3⟩ := mvC hkz
      have Hkz := Lib.hid hkz; have Hbw := Lib.hid hbw
      clear hkz hbw hbl hk
      go_wp2_with fail
      have hk4 := set4 Hkz.out (.int .i64 (minF l 3 ms).1) (.int .i64 (minF l 3 ms).2.1) (.int .i64 (minF l 3 ms).2.2.1) (.int .i64 (minF l 3 ms).2.2.2)
      obtain ⟨r0, r1, r2, r3, _, _, _, _⟩ := mvC hk4
      refine bodyPost_ret (v := .agg #[.int .i64 (minF l 3 ms).1, .int .i64 (minF l 3 ms).2.1, .int .i64 (minF l 3 ms).2.2.1, .int .i64 (minF l 3 ms).2.2.2]) (by simp [results, Tryz.results72, go_sem, r0, r1, r2, r3]) rfl ?_
      exact ⟨rfl, below_set4 Hbw.out (Nat.le_refl _) _ _ _ _⟩
    case pos =>
    have htk : ms.take j ≠ [] := fun e => by
      have := congrArg List.length e
      rw [List.length_take, List.length_nil] at this; omega
    have hmin : minF l 3 (ms.take (j + 1)) = minS l 3 (minF l 3 (ms.take j)) (mv ms j) := by
      rw [List.take_succ_eq_append_getElem hlt, minF_snoc _ _ htk, mv_at hlt]
    have Hmin := Lib.hid hmin
    clear hmin htk
    obtain ⟨mk, hmk⟩ : ∃ x, minF l 3 (ms.take j) = x := ⟨_, rfl⟩
    rw [hmk] at hk
    have Hmk := Lib.hid hmk
    clear hmk
    obtain ⟨u0, u1, u2, u3, f0, f1, f2, f3⟩ := mvC hk
    obtain ⟨e0, e1, e2, e3⟩ := (hr.below hbw).cells hlt
    have hj0 : (0 : Int) ≤ (j : Int) := by omega
    have hjl : (j : Int) < (ms.length : Int) := by omega
    have hwr : w.heap.size + 1 < wr.heap.size := hk.lt
    go_upto_region 7 with fail
    refine wp_region_textB [6] (fun w' => Below wr.heap.size wr w') (fun _ => True) (by kernel_rfl) (by kernel_rfl) (by kernel_rfl) (Below.refl _ _).drew trivial ?_
    repeat (first
      | (refine TxtBL.skip (by rfl) ?_; simp only [Act.put, List.setIfInBounds_toArray, List.set_cons_zero, List.set_cons_succ])
      | (refine TxtBL.take (by rfl) (by rfl) ?_; apply Exists.intro; refine ⟨fun w1 hS1 => ?_, ?_⟩; (focus ((have g0 := (hS1.cell (lt_of_cell u0)).trans u0); (have h0 := (hS1.cell (lt_of_cell e0)).trans e0); (have g1 := (hS1.cell (lt_of_cell u1)).trans u1); (have h1 := (hS1.cell (lt_of_cell e1)).trans e1); (have g2 := (hS1.cell (lt_of_cell u2)).trans u2); (have h2 := (hS1.cell (lt_of_cell e2)).trans e2); (have g3 := (hS1.cell (lt_of_cell u3)).trans u3); (have h3 := (hS1.cell (lt_of_cell e3)).trans e3); go_simp; with_reducible rfl)); simp only [Act.put, List.setIfInBounds_toArray, List.set_cons_zero, List.set_cons_succ])
      | (refine TxtBL.takeE (by rfl) (by rfl) ?_; apply Exists.intro; refine ⟨fun w1 hS1 => ?_, ?_⟩; (focus ((have g0 := (hS1.cell (lt_of_cell u0)).trans u0); (have h0 := (hS1.cell (lt_of_cell e0)).trans e0); (have g1 := (hS1.cell (lt_of_cell u1)).trans u1); (have h1 := (hS1.cell (lt_of_cell e1)).trans e1); (have g2 := (hS1.cell (lt_of_cell u2)).trans u2); (have h2 := (hS1.cell (lt_of_cell e2)).trans e2); (have g3 := (hS1.cell (lt_of_cell u3)).trans u3); (have h3 := (hS1.cell (lt_of_cell e3)).trans e3); go_simp; with_reducible rfl)); simp only [Act.put, List.setIfInBounds_toArray, List.set_cons_zero, List.set_cons_succ]))
    refine TxtBL.call (f := 91) (args := #[.agg #[.int .i64 (mv ms j).1, .int .i64 (mv ms j).2.1, .int .i64 (mv ms j).2.2.1, .int .i64 (mv ms j).2.2.2], .agg #[.int .i64 mk.1, .int .i64 mk.2.1, .int .i64 mk.2.2.1, .int .i64 mk.2.2.2], .pointer (some ⟨q, 0, none⟩)]) (fun u => ∃ v : Int, u = .int .i64 v ∧ decide (v < 0) = decide (keyF l 3 (mv ms j) < keyF l 3 mk)) (fun _ _ => True) (by rfl) (by rfl) ⟨.int .i64 (if keyF l 3 (mv ms j) < keyF l 3 mk then -1 else 0), _, rfl, by split <;> simp [*]⟩ (fun w2 hS1 hJ1 => by go_simp) (fun w2 hS1 hJ1 => ?_) ?_
    · refine (Hc.out w2 (endB hbw hS1) (mv ms j) mk).mono ?_
      rintro e w' ⟨v, rfl, hd, hb⟩
      exact ⟨_, rfl, endB hS1 hb, ⟨v, rfl, hd⟩, trivial⟩
    rintro u ⟨v, rfl, hd⟩
    simp only [Act.put, List.setIfInBounds_toArray, List.set_cons_zero, List.set_cons_succ]
    repeat (first
      | (refine TxtBL.skip (by rfl) ?_; simp only [Act.put, List.setIfInBounds_toArray, List.set_cons_zero, List.set_cons_succ])
      | (refine TxtBL.take (by rfl) (by rfl) ?_; apply Exists.intro; refine ⟨fun w1 hS1 => ?_, ?_⟩; (focus (skip; go_simp; with_reducible rfl)); simp only [Act.put, List.setIfInBounds_toArray, List.set_cons_zero, List.set_cons_succ])
      | (refine TxtBL.takeE (by rfl) (by rfl) ?_; apply Exists.intro; refine ⟨fun w1 hS1 => ?_, ?_⟩; (focus (skip; go_simp; with_reducible rfl)); simp only [Act.put, List.setIfInBounds_toArray, List.set_cons_zero, List.set_cons_succ]))
    clear hd
    refine TxtBL.nil (fun w2 hS hJ => ?_)
    have hk2 := hk.below hS hk.lt
    have hb2 : Below (w.heap.size + 1) W0 w2 := hbl.trans (hS.mono (by omega))
    have hb2w := endB hbw hS
    clear u0 u1 u2 u3 f0 f1 f2 f3 e0 e1 e2 e3 hk hbl hbw hS hJ
    obtain ⟨_, _, _, _, f0, f1, f2, f3⟩ := mvC hk2
    obtain ⟨u0, u1, u2, u3, _, _, _, _⟩ := mvC hk2
    obtain ⟨e0, e1, e2, e3⟩ := (hr.below hb2w).cells hlt
    cases hle : decide (keyF l 3 (mv ms j) < keyF l 3 mk)
    case true =>
      have Hle := Lib.hid (of_decide_eq_true hle)
      have Hk3 := Lib.hid (set4 hk2 (.int .i64 (mv ms j).1) (.int .i64 (mv ms j).2.1) (.int .i64 (mv ms j).2.2.1) (.int .i64 (mv ms j).2.2.2))
      have Hb3 := Lib.hid (below_set4 hb2 (Nat.le_refl _) (.int .i64 (mv ms j).1) (.int .i64 (mv ms j).2.1) (.int .i64 (mv ms j).2.2.1) (.int .i64 (mv ms j).2.2.2))
      clear hle hk2 hb2 hb2w
      go_wp2_with fail
      go_roundw
      case rel => exact ⟨j + 1, by omega, by omega, by go_num, by rw [Hmin.out, Hmk.out]; unfold minS; rw [if_pos Hle.out]; exact Hk3.out, Hb3.out⟩
      case measure => simp [intOf]; omega
    case false =>
      have Hle := Lib.hid (of_decide_eq_false hle)
      have Hk3 := Lib.hid hk2; have Hb3 := Lib.hid hb2
      clear hle hk2 hb2 hb2w
      go_wp2_with fail
      go_roundw
      case rel => exact ⟨j + 1, by omega, by omega, by go_num, by rw [Hmin.out, Hmk.out]; unfold minS; rw [if_neg Hle.out]; exact Hk3.out, Hb3.out⟩
      case measure => simp [intOf]; omega
end Go.Proofs.YthkknlnfdckdfaaGreatDoor

/- Package participant: style, Choose. -/
namespace Go.Proofs.YthkknlnfdckdfaaGreatDoor
open Go.ChangeShapes Go.WideShapes Go.ChangeAt Go.RowKit

/-- what a style's function is, and what it reads -/
def StyC (s : Int) (C : Value) (l : List (Int × Int)) (w : World) : Prop :=
  (s = 1 ∧ C = .func (.func 92) #[] #[]) ∨ (s = 2 ∧ C = .func (.func 90) #[] #[]) ∨
  (s = 3 ∧ ∃ q d A c, C = .func (.func 91) #[] #[.pointer (some ⟨q, 0, none⟩)] ∧ w.cell? ⟨q, 0, none⟩ = some (.func (.func 89) #[] #[.pointer (some ⟨d, 0, none⟩)]) ∧ w.cell? ⟨d, 1, none⟩ = some (.slice A l.length c) ∧ RP w A l)
theorem minM_any (s : Int) (C : Value) (l : List (Int × Int)) (cc : Nat) (M : Option Addr) (ms : List Mv) (w : World) (h : StyC s C l w) (hll : l.length ≤ 100000) (hr : RM w M ms) (h0 : ms ≠ []) (hml : ms.length ≤ 1000000) :
    Calls Tryz.prog 72 #[.slice M ms.length cc, C] w (RetMv (minF l s ms) w) := by
  rcases h with ⟨rfl, rfl⟩ | ⟨rfl, rfl⟩ | ⟨rfl, q, d, A, c, rfl, hq, hc, hp⟩
  · exact minMF1_any l cc M ms w hr h0 hml
  · exact minMF2_any l cc M ms w hr h0 hml
  · exact minMF3_any A l c q d cc M ms w hq hc hp hll hr h0 hml
set_option maxRecDepth 100000 in
set_option maxHeartbeats 1000000 in
theorem style_any (n : Nat) (A : Option Addr) (l : List (Int × Int)) (c : Nat) (root l0 l1 : Int) (M : Option Addr) (km cm : Nat) (sty : Int) (w : World) (hp : RP w A l) (h1 : 1 ≤ sty) (h3 : sty ≤ 3) :
    Calls Tryz.prog 73 #[.agg #[.int .i64 (n : Int), .slice A l.length c, .int .i64 root, .int .i64 l0, .int .i64 l1, .slice M km cm], .int .i64 sty] w (fun e w' => ∃ C, e = .returned C ∧ StyC sty C l w' ∧ Below w.heap.size w w') := by
  have hmf : ∀ fn first cap w, (Instr.makeFunc fn first cap).run Tryz.prog w = .ok (.func fn first cap) w := fun _ _ _ _ => rfl
  go_enter Tryz.func73, Tryz.ntmps73
  go_upto_region 1 with fail
  obtain ⟨W0, hW, k0, hb0, hs0⟩ := boxedA w 55 #[.int .i64 (n : Int), .slice A l.length c, .int .i64 root, .int .i64 l0, .int .i64 l1, .slice M km cm]
  rw [hW]
  have z1 : W0.cell? ⟨w.heap.size, 1, none⟩ = some (.slice A l.length c) := k0.cell 1
  have hp0 := hp.below hb0
  clear hW k0 hp
  go_upto_region 2 with fail
  obtain ⟨W1, hW1, k1, hb1, hs1⟩ := boxedA W0 48 #[.func (.func 89) #[] #[.pointer (some ⟨w.heap.size, 0, none⟩)]]
  rw [hW1]
  rw [hs0] at k1
  have q0 : W1.cell? ⟨w.heap.size + 1, 0, none⟩ = some (.func (.func 89) #[] #[.pointer (some ⟨w.heap.size, 0, none⟩)]) := k1.cell 0
  have d1 := (hb1.cell (lt_of_cell z1)).trans z1
  have hp1 := hp0.below hb1
  have hbb := endB hb0 hb1
  clear hW1 k1 hb0 hb1 hp0 z1
  have h123 : sty = 1 ∨ sty = 2 ∨ sty = 3 := by omega
  rcases h123 with rfl | rfl | rfl
  · go_wp2_with fail
    go_ret
    exact ⟨_, rfl, .inl ⟨rfl, rfl⟩, hbb⟩
  · go_wp2_with fail
    go_ret
    exact ⟨_, rfl, .inr (.inl ⟨rfl, rfl⟩), hbb⟩
  · go_wp2_with fail
    go_ret
    exact ⟨_, rfl, .inr (.inr ⟨rfl, w.heap.size + 1, w.heap.size, A, c, rfl, q0, d1, hp1⟩), hbb⟩
theorem OwnM.some_ {w : World} {b c : Nat} {A : Option Addr} {l : List Mv} (h : OwnM w b (.slice A l.length c) l) (hl : l ≠ []) : ∃ g, A = some ⟨g, 0, none⟩ ∧ b ≤ g ∧ l.length ≤ c := by
  obtain ⟨h1, h2⟩ := h
  rcases h2 with ⟨e, hn⟩ | ⟨g, cap, cur, e, hg, hh, hn, _⟩
  · exact absurd (List.eq_nil_of_length_eq_zero hn) hl
  · injection e with e1 _ e3
    subst e1 e3
    exact ⟨g, rfl, hg, hn⟩
set_option maxRecDepth 100000 in
set_option maxHeartbeats 8000000 in
theorem pchoose_any (n : Nat) (A : Option Addr) (l : List (Int × Int)) (c : Nat) (root l0 l1 : Int) (M : Option Addr) (ms : List Mv) (cm : Nat) (P : Option Addr) (pool : List Int) (pc : Nat) (sty : Int) (w : World) (hp : RP w A l) (hr : RM w M ms) (hm : OkM ms) (hl : ms.length ≤ 250) (hll : l.length ≤ 1600) (ht : turnF l0 l1 l ms ≠ 0) (hpo : RI w P pool) (hpl : pool.length ≤ 100000) (ha : AscP n pool) (h1 : 1 ≤ sty) (h3 : sty ≤ 3) :
    Calls Tryz.prog 45 #[.agg #[.int .i64 (n : Int), .slice A l.length c, .int .i64 root, .int .i64 l0, .int .i64 l1, .slice M ms.length cm], .agg #[.slice P pool.length pc, .slice none 0 0, .slice none 0 0, .int .i64 sty]] w (RetB (.tuple #[.agg #[.int .i64 (chooseF l ms pool sty).1, .int .i64 (chooseF l ms pool sty).2.1, .int .i64 (chooseF l ms pool sty).2.2.1, .int .i64 (chooseF l ms pool sty).2.2.2], .int .i64 0]) w) := by
  obtain ⟨_, _, hne, _, htl⟩ := turn_run ht
  have hmf : ∀ fn first cap w, (Instr.makeFunc fn first cap).run Tryz.prog w = .ok (.func fn first cap) w := fun _ _ _ _ => rfl
  have HM := Lib.hid hm; have Ha := Lib.hid ha; have Hne := Lib.hid hne; have Ht := Lib.hid ht; have Htl := Lib.hid htl
  have hz : (turnF l0 l1 l ms == 0) = false := beq_eq_false_iff_ne.2 ht
  have Hlen := Lib.hid (Nat.le_trans (legR_len l ms ms.length) (Nat.mul_le_mul (show ms.length ≤ 300 by omega) hll) : (legL l ms).length ≤ 300 * 1600)
  have Hp := Lib.hid hp; have Hr := Lib.hid hr
  clear hm ha hne ht htl
  go_enter Tryz.func45, Tryz.ntmps45
  go_upto_region 1 with fail
  obtain ⟨W0, hW, k0, k1, k2, hb0, hs0⟩ := boxed3A w 55 60 89 #[.int .i64 (n : Int), .slice A l.length c, .int .i64 root, .int .i64 l0, .int .i64 l1, .slice M ms.length cm] #[.slice P pool.length pc, .slice none 0 0, .slice none 0 0, .int .i64 sty] #[.int .i64 0, .int .i64 0, .int .i64 0, .int .i64 0]
  rw [hW]
  obtain ⟨z0, z1, z2, z3, z4, z5⟩ := dgC k0
  obtain ⟨y0, y1, y2, y3, _, _, _, _⟩ := mvC k1
  have hp0 := hp.below hb0; have hr0 := hr.below hb0; have hpo0 := hpo.below hb0
  have hg2 : w.heap.size + 2 < W0.heap.size := by omega
  clear hW k0 k1 hp hr hpo
  go_wp2_with fail
  refine (turn_any n A l c root l0 l1 M ms cm W0 hp0 hr0 HM.out (by omega) hll).mono ?_
  rintro e w1 ⟨rfl, hb1⟩
  have hp1 := hp0.below hb1; have hr1 := hr0.below hb1; have hpo1 := hpo0.below hb1
  have z0 := (hb1.cell (lt_of_cell z0)).trans z0
  have z1 := (hb1.cell (lt_of_cell z1)).trans z1
  have z2 := (hb1.cell (lt_of_cell z2)).trans z2
  have z3 := (hb1.cell (lt_of_cell z3)).trans z3
  have z4 := (hb1.cell (lt_of_cell z4)).trans z4
  have z5 := (hb1.cell (lt_of_cell z5)).trans z5
  have y0 := (hb1.cell (lt_of_cell y0)).trans y0
  have y1 := (hb1.cell (lt_of_cell y1)).trans y1
  have y2 := (hb1.cell (lt_of_cell y2)).trans y2
  have y3 := (hb1.cell (lt_of_cell y3)).trans y3
  have k2 := k2.below hb1 (by omega)
  have hbb := hb0.trans (hb1.mono hb0.size)
  clear hp0 hr0 hpo0 hb0 hb1
  go_wp2_with fail
  clear hz
  refine (pvalid_any n A l.length c root l0 l1 M ms.length cm P pool pc sty w1 hpo1 hpl Ha.out h1 h3).mono ?_
  rintro e w2 ⟨rfl, hb2⟩
  have hp2 := hp1.below hb2; have hr2 := hr1.below hb2; have hpo2 := hpo1.below hb2
  have z0 := (hb2.cell (lt_of_cell z0)).trans z0
  have z1 := (hb2.cell (lt_of_cell z1)).trans z1
  have z2 := (hb2.cell (lt_of_cell z2)).trans z2
  have z3 := (hb2.cell (lt_of_cell z3)).trans z3
  have z4 := (hb2.cell (lt_of_cell z4)).trans z4
  have z5 := (hb2.cell (lt_of_cell z5)).trans z5
  have y0 := (hb2.cell (lt_of_cell y0)).trans y0
  have y1 := (hb2.cell (lt_of_cell y1)).trans y1
  have y2 := (hb2.cell (lt_of_cell y2)).trans y2
  have y3 := (hb2.cell (lt_of_cell y3)).trans y3
  have k2 := k2.below hb2 k2.lt
  have hbb := hbb.trans (hb2.mono hbb.size)
  clear hp1 hr1 hpo1 hb2
  go_wp2_with fail
  refine (Legal_any n A l c root l0 l1 M ms cm w2 hp2 hr2 HM.out (by omega) hll Ht.out).mono ?_
  rintro e w3 ⟨AL, cL, rfl, ho3, hb3⟩
  obtain ⟨gL, rfl, hgL, hcL⟩ := ho3.some_ Hne.out
  have hrow := MRow.of_own ho3
  have Hch := Lib.hid (show ∀ wr, Below w2.heap.size w3 wr → ChC (w.heap.size + 1) P pool pc wr from fun wr hb => by
    have hb' : Below w2.heap.size w2 wr := hb3.trans hb
    exact ⟨(hb'.cell (lt_of_cell y0)).trans y0, (hb'.cell (lt_of_cell y1)).trans y1, hpo2.below hb'⟩)
  have HR := Lib.hid hrow
  have hG2 := k2.lt
  have z0 := (hb3.cell (lt_of_cell z0)).trans z0
  have z1 := (hb3.cell (lt_of_cell z1)).trans z1
  have z2 := (hb3.cell (lt_of_cell z2)).trans z2
  have z3 := (hb3.cell (lt_of_cell z3)).trans z3
  have z4 := (hb3.cell (lt_of_cell z4)).trans z4
  have z5 := (hb3.cell (lt_of_cell z5)).trans z5
  have y0 := (hb3.cell (lt_of_cell y0)).trans y0
  have y1 := (hb3.cell (lt_of_cell y1)).trans y1
  have y2 := (hb3.cell (lt_of_cell y2)).trans y2
  have y3 := (hb3.cell (lt_of_cell y3)).trans y3
  have k2 := k2.below hb3 k2.lt
  have hbb := hbb.trans (hb3.mono hbb.size)
  have hs23 := hb3.size
  have Hg := Lib.hid hgL
  clear hp2 hr2 hpo2 hb3 ho3 hrow
  go_wp2_with fail
  refine (delMF_any (w.heap.size + 1) P pool pc gL 0 cL w2.heap.size (legL l ms) w3 Hg.out hs23 Hch.out hpl HR.out (by have := Hlen.out; omega) hcL).mono ?_
  rintro e w4 ⟨rfl, hrm4, hb4⟩
  have z0 := (hb4.cell (p := ⟨w.heap.size, 0, none⟩) (by show w.heap.size < _; omega)).trans z0
  have z1 := (hb4.cell (p := ⟨w.heap.size, 1, none⟩) (by show w.heap.size < _; omega)).trans z1
  have z2 := (hb4.cell (p := ⟨w.heap.size, 2, none⟩) (by show w.heap.size < _; omega)).trans z2
  have z3 := (hb4.cell (p := ⟨w.heap.size, 3, none⟩) (by show w.heap.size < _; omega)).trans z3
  have z4 := (hb4.cell (p := ⟨w.heap.size, 4, none⟩) (by show w.heap.size < _; omega)).trans z4
  have z5 := (hb4.cell (p := ⟨w.heap.size, 5, none⟩) (by show w.heap.size < _; omega)).trans z5
  have y0 := (hb4.cell (p := ⟨w.heap.size + 1, 0, none⟩) (by show w.heap.size + 1 < _; omega)).trans y0
  have y1 := (hb4.cell (p := ⟨w.heap.size + 1, 1, none⟩) (by show w.heap.size + 1 < _; omega)).trans y1
  have y2 := (hb4.cell (p := ⟨w.heap.size + 1, 2, none⟩) (by show w.heap.size + 1 < _; omega)).trans y2
  have y3 := (hb4.cell (p := ⟨w.heap.size + 1, 3, none⟩) (by show w.heap.size + 1 < _; omega)).trans y3
  have k2 := k2.below hb4 (by omega)
  have hbb := hbb.trans (hb4.mono (by omega))
  have hp4 := Hp.out.below hbb; have hr4 := Hr.out.below hbb
  have hFl : ((legL l ms).filter (poolB pool)).length ≤ (legL l ms).length := List.length_filter_le _ _
  have hcf : chooseF l ms pool sty = if ((legL l ms).filter (poolB pool)).length = 0 then (3 - leadr ms, 4, 0, 0) else minF l sty ((legL l ms).filter (poolB pool)) := rfl
  generalize (legL l ms).filter (poolB pool) = F at *
  have Hcf := Lib.hid hcf; have HFl := Lib.hid (Nat.le_trans hFl Hlen.out)
  clear hcf hFl hb4 Hch HR
  go_wp2_with fail
  refine (scripted_any n A l c root l0 l1 M ms cm P pool.length pc sty (some ⟨gL, 0, none⟩) F.length cL w4 hp4 hr4 HM.out (by omega) hll).mono ?_
  rintro e w5 ⟨rfl, hb5⟩
  have z0 := (hb5.cell (lt_of_cell z0)).trans z0
  have z1 := (hb5.cell (lt_of_cell z1)).trans z1
  have z2 := (hb5.cell (lt_of_cell z2)).trans z2
  have z3 := (hb5.cell (lt_of_cell z3)).trans z3
  have z4 := (hb5.cell (lt_of_cell z4)).trans z4
  have z5 := (hb5.cell (lt_of_cell z5)).trans z5
  have y0 := (hb5.cell (lt_of_cell y0)).trans y0
  have y1 := (hb5.cell (lt_of_cell y1)).trans y1
  have y2 := (hb5.cell (lt_of_cell y2)).trans y2
  have y3 := (hb5.cell (lt_of_cell y3)).trans y3
  have k2 := k2.below hb5 k2.lt
  have hbb := hbb.trans (hb5.mono hbb.size)
  have hp5 := hp4.below hb5
  have hrm5 := hrm4.below hb5
  clear hp4 hr4 hrm4 hb5
  go_upto_region 9 with fail
  obtain ⟨w6, hw6, k6, hb6, hs6⟩ := boxedA w5 89 #[.int .i64 0, .int .i64 0, .int .i64 0, .int .i64 0]
  rw [hw6]
  have z0 := (hb6.cell (lt_of_cell z0)).trans z0
  have z1 := (hb6.cell (lt_of_cell z1)).trans z1
  have z2 := (hb6.cell (lt_of_cell z2)).trans z2
  have z3 := (hb6.cell (lt_of_cell z3)).trans z3
  have z4 := (hb6.cell (lt_of_cell z4)).trans z4
  have z5 := (hb6.cell (lt_of_cell z5)).trans z5
  have y0 := (hb6.cell (lt_of_cell y0)).trans y0
  have y1 := (hb6.cell (lt_of_cell y1)).trans y1
  have y2 := (hb6.cell (lt_of_cell y2)).trans y2
  have y3 := (hb6.cell (lt_of_cell y3)).trans y3
  have k2 := k2.below hb6 k2.lt
  have hbb := hbb.trans (hb6.mono hbb.size)
  have hp6 := hp5.below hb6
  have hrm6 := hrm5.below hb6
  obtain ⟨q0, q1, q2, q3, f0, f1, f2, f3⟩ := mvC k2
  have K2 := Lib.hid k2; have Hbb := Lib.hid hbb
  clear k2 hbb hp5 hrm5 hb6 hw6 k6 hs6
  by_cases h0 : F.length = 0
  · have H0 := Lib.hid h0
    have hb0 : ((F.length : Int) == 0) = true := beq_iff_eq.2 (by omega)
    clear h0 hp6 hrm6
    go_wp2_with fail
    have hk4 := set4 (g := w.heap.size + 1 + 1) K2.out (.int .i64 (turnF l0 l1 l ms)) (.int .i64 4) (.int .i64 0) (.int .i64 0)
    obtain ⟨r0, r1, r2, r3, _, _, _, _⟩ := mvC hk4
    refine bodyPost_ret (v := .tuple #[.agg #[.int .i64 (turnF l0 l1 l ms), .int .i64 4, .int .i64 0, .int .i64 0], .int .i64 0]) (by simp [results, Tryz.results45, go_sem, r0, r1, r2, r3]) rfl ?_
    exact ⟨by rw [Hcf.out, if_pos H0.out, Htl.out], below_set4 Hbb.out (by omega) _ _ _ _⟩
  · have H0 := Lib.hid h0
    have hb0 : ((F.length : Int) == 0) = false := beq_eq_false_iff_ne.2 (by omega)
    have hnF : F ≠ [] := fun e => h0 (by rw [e]; rfl)
    clear h0
    go_wp2_with fail
    refine (style_any n A l c root l0 l1 M ms.length cm sty w6 hp6 h1 h3).mono ?_
    rintro e w7 ⟨C, rfl, hC, hb7⟩
    have k7 := K2.out.below hb7 K2.out.lt
    have hbb7 := Hbb.out.trans (hb7.mono Hbb.out.size)
    have hrm7 := hrm6.below hb7
    clear hp6 hrm6 hb7 K2 Hbb q0 q1 q2 q3 f0 f1 f2 f3
    go_wp2_with fail
    refine (minM_any sty C l cL (some ⟨gL, 0, none⟩) F w7 hC (by omega) hrm7 hnF (by have := HFl.out; omega)).mono ?_
    rintro e w8 ⟨rfl, hb8⟩
    have k8 := k7.below hb8 k7.lt
    obtain ⟨q0, q1, q2, q3, f0, f1, f2, f3⟩ := mvC k8
    have K8 := Lib.hid k8
    have Hb8 := Lib.hid (hbb7.trans (hb8.mono hbb7.size))
    clear k7 hbb7 hrm7 hb8 k8 hC
    go_wp2_with fail
    have hk4 := set4 (g := w.heap.size + 1 + 1) K8.out (.int .i64 (minF l sty F).1) (.int .i64 (minF l sty F).2.1) (.int .i64 (minF l sty F).2.2.1) (.int .i64 (minF l sty F).2.2.2)
    obtain ⟨r0, r1, r2, r3, _, _, _, _⟩ := mvC hk4
    refine bodyPost_ret (v := .tuple #[.agg #[.int .i64 (minF l sty F).1, .int .i64 (minF l sty F).2.1, .int .i64 (minF l sty F).2.2.1, .int .i64 (minF l sty F).2.2.2], .int .i64 0]) (by simp [results, Tryz.results45, go_sem, r0, r1, r2, r3]) rfl ?_
    exact ⟨by rw [Hcf.out, if_neg H0.out], below_set4 Hb8.out (by omega) _ _ _ _⟩
end Go.Proofs.YthkknlnfdckdfaaGreatDoor

/- Package participant: Full. -/
namespace Go.Proofs.YthkknlnfdckdfaaGreatDoor
open Go.ChangeShapes Go.WideShapes Go.ChangeAt Go.RowKit

theorem run_index_a (P1 P2 : Option Addr) (k1 c1 k2 c2 : Nat) (s1 s2 : Int) (w : World) : (Instr.index 91 (.agg #[.slice P1 k1 c1, .slice none 0 0, .slice none 0 0, .int .i64 s1, .slice P2 k2 c2, .slice none 0 0, .slice none 0 0, .int .i64 s2]) (.int .i64 0)).run Tryz.prog w = .ok (.agg #[.slice P1 k1 c1, .slice none 0 0, .slice none 0 0, .int .i64 s1]) w := by
  unfold Instr.index
  go_simp
theorem run_index_b (P1 P2 : Option Addr) (k1 c1 k2 c2 : Nat) (s1 s2 : Int) (w : World) : (Instr.index 91 (.agg #[.slice P1 k1 c1, .slice none 0 0, .slice none 0 0, .int .i64 s1, .slice P2 k2 c2, .slice none 0 0, .slice none 0 0, .int .i64 s2]) (.int .i64 1)).run Tryz.prog w = .ok (.agg #[.slice P2 k2 c2, .slice none 0 0, .slice none 0 0, .int .i64 s2]) w := by
  unfold Instr.index
  go_simp
/-- the nodes of a graph -/
def allI (n : Nat) : List Int := lst n fun i => (i : Int)
theorem allI_len (n : Nat) : (allI n).length = n := lst_length ..
theorem allI_asc (n : Nat) : AscP n (allI n) := fun i hi => by
  rw [allI_len] at hi
  have e : ∀ j, j < n → (allI n).getD j 0 = (j : Int) := fun j hj => lst_getD hj
  rw [e i hi]
  refine ⟨by omega, by omega, fun h0 => ?_⟩
  rw [e (i - 1) (by omega)]; omega
theorem allI_snoc (k : Nat) : allI (k + 1) = allI k ++ [(k : Int)] := by
  unfold allI lst
  rw [List.range_succ, List.map_append]; rfl
/-- the call returns the player that knows all nodes -/
def RetFu (n : Nat) (sty : Int) (w : World) : Ending → World → Prop := fun e w' => ∃ P pc, e = .returned (.agg #[.slice P (allI n).length pc, .slice none 0 0, .slice none 0 0, .int .i64 sty]) ∧ OwnI w' w.heap.size (.slice P (allI n).length pc) (allI n) ∧ Below w.heap.size w w'
set_option maxRecDepth 100000 in
set_option maxHeartbeats 2000000 in
theorem full_any (A : Option Addr) (n : Nat) (l : List (Int × Int)) (c : Nat) (sty : Int) (w : World) (hp : RP w A l) (hv : Vld n l) :
    Calls Tryz.prog 18 #[.agg #[.int .i64 (n : Int), .slice A l.length c], .int .i64 sty] w (RetFu n sty w) := by
  have hn := hv.1.1; have hll := hv.1.2.1
  have hvE := hv.valE
  go_enter Tryz.func18, Tryz.ntmps18
  go_upto_region 1 with fail
  obtain ⟨W0, hW, k0, k1, hb0, hs0⟩ := boxed2A w 27 60 #[.int .i64 (n : Int), .slice A l.length c] #[.slice none 0 0, .slice none 0 0, .slice none 0 0, .int .i64 0]
  rw [hW]
  obtain ⟨z0, z1, _, _⟩ := k0.two
  have hp0 := hp.below hb0
  clear hW hp
  go_wp2_with fail
  refine (gValidate_any A n l c W0 hp0 hll).mono ?_
  rintro e w1 ⟨rfl, hb1⟩
  rw [hvE]
  have z0 := (hb1.cell (lt_of_cell z0)).trans z0
  have k1 := k1.below hb1 (by omega)
  have hbb := hb0.trans (hb1.mono hb0.size)
  have hs1 := hb1.size
  clear hb0 hb1 k0 z1 hvE hp0
  go_upto_region 4 with fail
  obtain ⟨w2, hw2, k2, hb2, hs2⟩ := boxedA w1 60 #[.slice none 0 0, .slice none 0 0, .slice none 0 0, .int .i64 sty]
  rw [hw2]
  have z0 := (hb2.cell (lt_of_cell z0)).trans z0
  have K1 := Lib.hid k1
  have hg1 := k1.lt
  have Hbb := Lib.hid hbb
  have hg5 : w1.heap.size < w2.heap.size := by omega
  have hb20 : Below w1.heap.size w1 w2 := hb2
  have Hw := Lib.hid (show w.heap.size ≤ w1.heap.size by omega)
  clear hw2 hb2 k1 hbb hs0 hs1
  generalize hg : w1.heap.size = g5 at *
  have Hg := Lib.hid hg
  clear hg
  go_wp2_with fail
  go_loopw [15] (fun t wr => ∃ (k : Nat) (P : Option Addr) (pc : Nat), k ≤ n ∧ t = .int .i64 k ∧ Blk wr g5 60 #[.slice P k pc, .slice none 0 0, .slice none 0 0, .int .i64 sty] ∧ OwnI wr w2.heap.size (.slice P k pc) (allI k) ∧ w2.heap.size ≤ wr.heap.size ∧ Below g5 w1 wr) (fun t _ => n - (intOf t).toNat)
  case atStart => exact ⟨0, none, 0, Nat.zero_le _, rfl, k2, OwnI.nil _ _, Nat.le_refl _, hb20⟩
  case round =>
    clear k2 hb20
    obtain ⟨k, P, pc, hk, rfl, hblk, hown, hsz, hbl⟩ := hrel
    obtain ⟨y0, y1, y2, y3, f0, f1, f2, f3⟩ := mvC hblk
    by_cases hlt : k < n
    case neg =>
      obtain rfl : k = n := by omega
      have hkt := K1.out.below hbl hg1
      obtain ⟨q0, q1, q2, q3, e0, e1, e2, e3⟩ := mvC hkt
      have Hkt := Lib.hid hkt; have Hown := Lib.hid hown
      have Hbl := Lib.hid (Hbb.out.trans (hbl.mono Hw.out))
      have hws := Hw.out
      clear hkt hown hbl hblk
      go_wp2_with fail
      have hk4 := set4 Hkt.out (.slice P k pc) (.slice none 0 0) (.slice none 0 0) (.int .i64 sty)
      obtain ⟨r0, r1, r2, r3, _, _, _, _⟩ := mvC hk4
      refine bodyPost_ret (v := .agg #[.slice P k pc, .slice none 0 0, .slice none 0 0, .int .i64 sty]) (by simp [results, Tryz.results18, go_sem, r0, r1, r2, r3]) rfl ?_
      have hlt1 : w.heap.size + 1 < w2.heap.size := by omega
      have hlk := allI_len k
      exact ⟨P, pc, by rw [hlk], by rw [hlk]; exact ownsRow_mono (own_far (own_far (own_far (own_far Hown.out hlt1 0 _) hlt1 1 _) hlt1 2 _) hlt1 3 _) (by omega), below_set4 Hbl.out (by omega) _ _ _ _⟩
    case pos =>
    have hkn : (k : Int) < (n : Int) := by omega
    have hl : (allI k).length ≤ 1000000 := by rw [allI_len]; omega
    have Hln := Lib.hid (show (allI k ++ [(k : Int)]).length = k + 1 by rw [List.length_append, allI_len]; rfl)
    have Hown := Lib.hid hown
    have Hsn := Lib.hid (allI_snoc k)
    have Hbk := Lib.hid hblk
    have Hbl := Lib.hid hbl
    have Hl := Lib.hid hl
    clear hown hblk hbl hl
    go_wp2_with (at_builtin; refine wpList_appI (by rfl) _ _ (by rfl) wr w2.heap.size _ _ (k : Int) Hown.out (by rfl) (by rfl) Hl.out hsz ?_; intro v' w4 hown' hb4 hg4; (obtain ⟨A', c', e', _, _⟩ := OwnI.form hown'); rw [Hln.out] at e'; subst e'; have y0 := (hb4.cell (p := ⟨g5, 0, none⟩) hg5).trans y0; have f0 := (Hbk.out.below hb4 hg5).frozen 0; have Hb4 := Lib.hid hb4; have Hown' := Lib.hid hown'; clear hb4 hg4 hown')
    go_roundw
    case rel => exact ⟨k + 1, A', c', by omega, by go_num, (Hbk.out.below Hb4.out hg5).set_ 0 _, by rw [Hsn.out]; exact own_far Hown'.out hg5 0 _, by have := Hb4.out.size; simp; omega, Below.setCell (p := ⟨g5, 0, none⟩) (Hbl.out.trans (Hb4.out.mono (by omega))) (Nat.le_refl _) _⟩
    case measure => simp [intOf]; omega
end Go.Proofs.YthkknlnfdckdfaaGreatDoor

/- Package participant: Run. (The region of two orders is printed by gen_prun.py.) -/
namespace Go.Proofs.YthkknlnfdckdfaaGreatDoor
open Go.ChangeShapes Go.WideShapes Go.ChangeAt Go.RowKit

theorem RP.grownQ {w w' : World} {A : Option Addr} {l : List (Int × Int)} {p : Nat} (h : RP w A l) (hg : w.grownBy w' (some p)) (hp : ∀ b o, A = some ⟨b, o, none⟩ → 0 < l.length → b ≠ p) : RP w' A l := by
  intro k hk
  obtain ⟨b, o, hA, hc, hd⟩ := h k hk
  have hne := hp b o hA (by omega)
  have e := fun (i : Nat) (v : Value) (hc : w.cell? ⟨b, i, none⟩ = some v) => show w'.cell? ⟨b, i, none⟩ = some v by
    rw [← hc]; unfold World.cell?; rw [show w'.heap[b]? = w.heap[b]? from hg.block b (lt_of_cell hc) (fun e => by injection e with e; exact hne e)]
  exact ⟨b, o, hA, e _ _ hc, e _ _ hd⟩
theorem near_setp {p base : Nat} {a w : World} (h : Near p base a w) (i : Nat) (v : Value) : Near p base a (w.setCell ⟨p, i, none⟩ v) :=
  h.trans ⟨rfl, rfl, rfl, by simp, fun k _ hk => Below.heap_setCell w _ _ k hk⟩
theorem near_set6 {p base : Nat} {a w : World} (h : Near p base a w) (x0 x1 x2 x3 x4 x5 : Value) : Near p base a ((((((w.setCell ⟨p, 0, none⟩ x0).setCell ⟨p, 1, none⟩ x1).setCell ⟨p, 2, none⟩ x2).setCell ⟨p, 3, none⟩ x3).setCell ⟨p, 4, none⟩ x4).setCell ⟨p, 5, none⟩ x5) :=
  near_setp (near_setp (near_setp (near_setp (near_setp (near_setp h 0 x0) 1 x1) 2 x2) 3 x3) 4 x4) 5 x5
theorem boxed4A (w : World) (t u v x : TypeId) (cs ds es fs : Array Value) : ∃ W0, (((w.alloc (.cells cs t)).alloc (.cells ds u)).alloc (.cells es v)).alloc (.cells fs x) = W0 ∧ Blk W0 w.heap.size t cs ∧ Blk W0 (w.heap.size + 1) u ds ∧ Blk W0 (w.heap.size + 2) v es ∧ Blk W0 (w.heap.size + 3) x fs ∧ Below w.heap.size w W0 ∧ W0.heap.size = w.heap.size + 4 := by
  obtain ⟨W, hW, h1, h2, h3, hb, hs⟩ := boxed3A w t u v cs ds es
  rw [hW]
  refine ⟨_, rfl, h1.alloc _, h2.alloc _, h3.alloc _, ?_, hb.alloc hb.size _, by simp [hs]⟩
  have := Blk.new W x fs
  rwa [hs] at this
theorem plC {w : World} {g : Nat} {t : TypeId} {x0 x1 x2 x3 x4 x5 x6 x7 : Value} (h : Blk w g t #[x0, x1, x2, x3, x4, x5, x6, x7]) : w.cell? ⟨g, 0, none⟩ = some x0 ∧ w.cell? ⟨g, 1, none⟩ = some x1 ∧ w.cell? ⟨g, 2, none⟩ = some x2 ∧ w.cell? ⟨g, 3, none⟩ = some x3 ∧ w.cell? ⟨g, 4, none⟩ = some x4 ∧ w.cell? ⟨g, 5, none⟩ = some x5 ∧ w.cell? ⟨g, 6, none⟩ = some x6 ∧ w.cell? ⟨g, 7, none⟩ = some x7 :=
  ⟨by rw [h.cell]; rfl, by rw [h.cell]; rfl, by rw [h.cell]; rfl, by rw [h.cell]; rfl, by rw [h.cell]; rfl, by rw [h.cell]; rfl, by rw [h.cell]; rfl, by rw [h.cell]; rfl⟩
/-- the dialogue of a run, in its variable -/
structure RunS (G B : Nat) (W : World) (n : Nat) (l : List (Int × Int)) (root l0 l1 : Int) (ms : List Mv) (A1 : Option Addr) (c1 : Nat) (M1 : Option Addr) (cm1 : Nat) (w : World) : Prop where
  blk : Blk w G 55 #[.int .i64 (n : Int), .slice A1 l.length c1, .int .i64 root, .int .i64 l0, .int .i64 l1, .slice M1 ms.length cm1]
  op : OwnP w B (.slice A1 l.length c1) l
  om : OwnM w B (.slice M1 ms.length cm1) ms
  near : Near G B W w
theorem RunS.below {G B : Nat} {W : World} {n : Nat} {l : List (Int × Int)} {root l0 l1 : Int} {ms : List Mv} {A1 : Option Addr} {c1 : Nat} {M1 : Option Addr} {cm1 : Nat} {w w' : World} (h : RunS G B W n l root l0 l1 ms A1 c1 M1 cm1 w) (hB : B ≤ w.heap.size) (hb : Below w.heap.size w w') : RunS G B W n l root l0 l1 ms A1 c1 M1 cm1 w' :=
  ⟨h.blk.below hb h.blk.lt, ownsRow_below h.op hb, h.om.below hb, h.near.trans (Near.of_below (hb.mono hB))⟩
theorem RunS.rp {G B : Nat} {W : World} {n : Nat} {l : List (Int × Int)} {root l0 l1 : Int} {ms : List Mv} {A1 : Option Addr} {c1 : Nat} {M1 : Option Addr} {cm1 : Nat} {w : World} (h : RunS G B W n l root l0 l1 ms A1 c1 M1 cm1 w) : RP w A1 l := by
  obtain ⟨A', c', e', hr, _⟩ := OwnP.form2 h.op
  injection e' with e1 _ _
  rw [e1]; exact hr
theorem RunS.rm {G B : Nat} {W : World} {n : Nat} {l : List (Int × Int)} {root l0 l1 : Int} {ms : List Mv} {A1 : Option Addr} {c1 : Nat} {M1 : Option Addr} {cm1 : Nat} {w : World} (h : RunS G B W n l root l0 l1 ms A1 c1 M1 cm1 w) : RM w M1 ms := by
  obtain ⟨A', c', e', hr, _, _⟩ := h.om.form
  injection e' with e1 _ _
  rw [e1]; exact hr
theorem near_below {p B : Nat} {a w : World} (h : Near p B a w) (hp : p < B) : Below p a w := ⟨h.os, h.tape, h.output, h.size, fun k hk => h.block k (by omega) (by omega)⟩
/-- how many moves may still come, read from the dialogue's variable -/
def lenW (G : Nat) (w : World) : Nat := match w.cell? ⟨G, 5, none⟩ with
  | some (.slice _ k _) => 201 - k
  | _ => 0
theorem lenW_eq {G : Nat} {w : World} {A : Option Addr} {k c : Nat} (h : w.cell? ⟨G, 5, none⟩ = some (.slice A k c)) : lenW G w = 201 - k := by unfold lenW; rw [h]
/-- the call returns the dialogue at its end -/
def RetRun (n : Nat) (l : List (Int × Int)) (root l0 l1 : Int) (ms : List Mv) (w : World) : Ending → World → Prop := RetApl n l root l0 l1 ms w
theorem turn_012 (l0 l1 : Int) (l : List (Int × Int)) (ms : List Mv) : turnF l0 l1 l ms = 0 ∨ turnF l0 l1 l ms = 1 ∨ turnF l0 l1 l ms = 2 := by
  unfold turnF
  split
  · rcases leadr_12 ms with e | e <;> rw [e] <;> simp
  · exact .inl rfl
set_option maxRecDepth 100000 in
set_option maxHeartbeats 16000000 in
theorem run_any (n : Nat) (A : Option Addr) (l : List (Int × Int)) (c : Nat) (root l0 l1 : Int) (M : Option Addr) (ms0 : List Mv) (cm : Nat) (P1 : Option Addr) (pool1 : List Int) (pc1 : Nat) (sty1 : Int) (P2 : Option Addr) (pool2 : List Int) (pc2 : Nat) (sty2 : Int) (w : World)
    (hp : RP w A l) (hA : A = none → l = [] ∧ c = 0) (hv : InR n l) (hll : l.length ≤ 1600) (hr : RM w M ms0) (hm : OkM ms0) (hl : ms0.length ≤ 200) (hpo1 : RI w P1 pool1) (hpl1 : pool1.length ≤ 100000) (ha1 : AscP n pool1) (h1a : 1 ≤ sty1) (h1b : sty1 ≤ 3) (hpo2 : RI w P2 pool2) (hpl2 : pool2.length ≤ 100000) (ha2 : AscP n pool2) (h2a : 1 ≤ sty2) (h2b : sty2 ≤ 3) :
    Calls Tryz.prog 17 #[.agg #[.int .i64 (n : Int), .slice A l.length c, .int .i64 root, .int .i64 l0, .int .i64 l1, .slice M ms0.length cm], .agg #[.slice P1 pool1.length pc1, .slice none 0 0, .slice none 0 0, .int .i64 sty1], .agg #[.slice P2 pool2.length pc2, .slice none 0 0, .slice none 0 0, .int .i64 sty2]] w (RetRun n l root l0 l1 (runG l0 l1 l pool1 pool2 sty1 sty2 200 ms0) w) := by
  have hpos := hm.pos
  have hMn : M = none → ms0 = [] ∧ cm = 0 := fun e => by obtain ⟨b', o', e', _⟩ := hr 0 hpos; rw [e] at e'; cases e'
  have Hm := Lib.hid hm; have Hv := Lib.hid hv; have HA := Lib.hid hA; have HMn := Lib.hid hMn
  have Hp := Lib.hid hp; have Hr := Lib.hid hr; have Hp1 := Lib.hid hpo1; have Hp2 := Lib.hid hpo2; have Ha1 := Lib.hid ha1; have Ha2 := Lib.hid ha2
  have hidx1 := run_index_a P1 P2 pool1.length pc1 pool2.length pc2 sty1 sty2
  have hidx2 := run_index_b P1 P2 pool1.length pc1 pool2.length pc2 sty1 sty2
  clear hm hv hA hMn hp hr hpo1 hpo2 ha1 ha2
  go_enter Tryz.func17, Tryz.ntmps17
  go_upto_region 1 with fail
  obtain ⟨W0, hW, k0, k1, k2, k3, hb0, hs0⟩ := boxed4A w 55 60 60 55 #[.int .i64 (n : Int), .slice A l.length c, .int .i64 root, .int .i64 l0, .int .i64 l1, .slice M ms0.length cm] #[.slice P1 pool1.length pc1, .slice none 0 0, .slice none 0 0, .int .i64 sty1] #[.slice P2 pool2.length pc2, .slice none 0 0, .slice none 0 0, .int .i64 sty2] #[.int .i64 0, .slice none 0 0, .int .i64 0, .int .i64 0, .int .i64 0, .slice none 0 0]
  rw [hW]
  obtain ⟨z0, z1, z2, z3, z4, z5⟩ := dgC k0
  obtain ⟨x0, x1, x2, x3, _, _, _, _⟩ := mvC k1
  obtain ⟨y0, y1, y2, y3, _, _, _, _⟩ := mvC k2
  clear hW
  go_upto_region 2 with fail
  obtain ⟨W1, hW1, k8, hb1, hs1⟩ := boxedA W0 91 #[.slice P1 pool1.length pc1, .slice none 0 0, .slice none 0 0, .int .i64 sty1, .slice P2 pool2.length pc2, .slice none 0 0, .slice none 0 0, .int .i64 sty2]
  rw [hW1]
  rw [hs0] at k8
  have kd := k0.below hb1 (by omega)
  have Kt := Lib.hid (k3.below hb1 (by omega))
  obtain ⟨d0, d1, d2, d3, d4, d5⟩ := dgC kd
  obtain ⟨a0, a1, a2, a3, a4, a5, a6, a7⟩ := plC k8
  have Hbb := Lib.hid (endB hb0 hb1)
  have Kd := Lib.hid kd; have K8 := Lib.hid k8
  have hg1 : w.heap.size + 4 < W1.heap.size := by omega
  clear k0 k1 k2 k3 hb0 hb1 hW1 z0 z1 z2 z3 z4 z5 x0 x1 x2 x3 y0 y1 y2 y3 kd k8
  go_wp2_with fail
  -- both players are valid
  go_loopw [19] (fun t wr => ∃ k : Nat, k ≤ 2 ∧ t = .int .i64 k ∧ Below W1.heap.size W1 wr) (fun t _ => 2 - (intOf t).toNat)
  case atStart => exact ⟨0, by omega, rfl, Below.refl _ _⟩
  case round =>
    obtain ⟨k, hk, rfl, hbl⟩ := hrel
    have hbs := hbl.size
    have h012 : k = 0 ∨ k = 1 ∨ k = 2 := by omega
    rcases h012 with rfl | rfl | rfl
    · have d0 := (hbl.cell (lt_of_cell d0)).trans d0
      have d1 := (hbl.cell (lt_of_cell d1)).trans d1
      have d2 := (hbl.cell (lt_of_cell d2)).trans d2
      have d3 := (hbl.cell (lt_of_cell d3)).trans d3
      have d4 := (hbl.cell (lt_of_cell d4)).trans d4
      have d5 := (hbl.cell (lt_of_cell d5)).trans d5
      go_upto_region 5 with fail
      obtain ⟨wa, hwa, ka, hba, hsa⟩ := boxedA wr 60 #[.slice P1 pool1.length pc1, .slice none 0 0, .slice none 0 0, .int .i64 sty1]
      rw [hwa]
      obtain ⟨u0, u1, u2, u3, _, _, _, _⟩ := mvC ka
      have d0 := (hba.cell (lt_of_cell d0)).trans d0
      have d1 := (hba.cell (lt_of_cell d1)).trans d1
      have d2 := (hba.cell (lt_of_cell d2)).trans d2
      have d3 := (hba.cell (lt_of_cell d3)).trans d3
      have d4 := (hba.cell (lt_of_cell d4)).trans d4
      have d5 := (hba.cell (lt_of_cell d5)).trans d5
      have hbla := hbl.trans (hba.mono hbs)
      clear hwa ka hbl hba hsa
      go_wp2_with fail
      refine (pvalid_any n A l.length c root l0 l1 M ms0.length cm P1 pool1 pc1 sty1 wa (Hp1.out.below (Hbb.out.trans (hbla.mono Hbb.out.size))) hpl1 Ha1.out h1a h1b).mono ?_
      rintro e w3 ⟨rfl, hb3⟩
      have Hb3 := Lib.hid (hbla.trans (hb3.mono hbla.size))
      clear hb3 hbla
      go_wp2_with fail
      go_roundw
      case rel => exact ⟨1, by omega, by first | rfl | go_num, Hb3.out⟩
      case measure => simp [intOf]
    · have d0 := (hbl.cell (lt_of_cell d0)).trans d0
      have d1 := (hbl.cell (lt_of_cell d1)).trans d1
      have d2 := (hbl.cell (lt_of_cell d2)).trans d2
      have d3 := (hbl.cell (lt_of_cell d3)).trans d3
      have d4 := (hbl.cell (lt_of_cell d4)).trans d4
      have d5 := (hbl.cell (lt_of_cell d5)).trans d5
      go_upto_region 5 with fail
      obtain ⟨wa, hwa, ka, hba, hsa⟩ := boxedA wr 60 #[.slice P2 pool2.length pc2, .slice none 0 0, .slice none 0 0, .int .i64 sty2]
      rw [hwa]
      obtain ⟨u0, u1, u2, u3, _, _, _, _⟩ := mvC ka
      have d0 := (hba.cell (lt_of_cell d0)).trans d0
      have d1 := (hba.cell (lt_of_cell d1)).trans d1
      have d2 := (hba.cell (lt_of_cell d2)).trans d2
      have d3 := (hba.cell (lt_of_cell d3)).trans d3
      have d4 := (hba.cell (lt_of_cell d4)).trans d4
      have d5 := (hba.cell (lt_of_cell d5)).trans d5
      have hbla := hbl.trans (hba.mono hbs)
      clear hwa ka hbl hba hsa
      go_wp2_with fail
      refine (pvalid_any n A l.length c root l0 l1 M ms0.length cm P2 pool2 pc2 sty2 wa (Hp2.out.below (Hbb.out.trans (hbla.mono Hbb.out.size))) hpl2 Ha2.out h2a h2b).mono ?_
      rintro e w3 ⟨rfl, hb3⟩
      have Hb3 := Lib.hid (hbla.trans (hb3.mono hbla.size))
      clear hb3 hbla
      go_wp2_with fail
      go_roundw
      case rel => exact ⟨2, by omega, by first | rfl | go_num, Hb3.out⟩
      case measure => simp [intOf]
    · rw [show ((2 : Nat) : Int) = 2 from rfl]
      obtain ⟨wb, hwb⟩ : ∃ wb, wb = wr := ⟨_, rfl⟩
      subst hwb
      have hG : w.heap.size < wb.heap.size := by omega
      have kd := Kd.out.below hbl (by omega)
      have Kt2 := Lib.hid (Kt.out.below hbl (by omega)); have K82 := Lib.hid (K8.out.below hbl (by omega))
      have Hbw := Lib.hid (Hbb.out.trans (hbl.mono Hbb.out.size))
      have hAp : ∀ b o, A = some ⟨b, o, none⟩ → 0 < l.length → b ≠ w.heap.size := fun b o e h0 => by
        obtain ⟨b', o', e', h1, _⟩ := Hp.out 0 h0
        rw [e] at e'; injection e' with e'; injection e' with e1 _ _
        rw [e1]; exact Nat.ne_of_lt (lt_of_cell h1)
      have hMp : ∀ b o, M = some ⟨b, o, none⟩ → b ≠ w.heap.size := fun b o e => by
        obtain ⟨b', o', e', h1, _⟩ := Hr.out 0 hpos
        rw [e] at e'; injection e' with e'; injection e' with e1 _ _
        rw [e1]; exact Nat.ne_of_lt (lt_of_cell h1)
      have HAp := Lib.hid hAp; have HMp := Lib.hid hMp
      have hpb := Hp.out.below Hbw.out; have hrb := Hr.out.below Hbw.out
      clear hAp hMp Kd Kt K8 d0 d1 d2 d3 d4 d5 a0 a1 a2 a3 a4 a5 a6 a7 hidx1 hidx2 hbl
      go_upto_region 9 with fail
      refine wp_region_textZ [2, 3, 6, 9, 11] (fun w' => Near w.heap.size wb.heap.size wb w' ∧ w'.cell? ⟨w.heap.size, 5, none⟩ = some (.slice M ms0.length cm)) (fun w' => Blk w' w.heap.size 55 #[.int .i64 (n : Int), .slice A l.length c, .int .i64 root, .int .i64 l0, .int .i64 l1, .slice M ms0.length cm]) (by kernel_rfl) (by kernel_rfl) (by kernel_rfl) (by kernel_rfl) ⟨Near.of_below (Below.refl _ _).drew, (kd.below (Below.refl _ _).drew hG).cell 5⟩ (kd.below (Below.refl _ _).drew hG) ?_
      repeat (first
        | (refine TxtZL.skip (by rfl) ?_; simp only [Act.put, List.setIfInBounds_toArray, List.set_cons_zero, List.set_cons_succ])
        | (refine TxtZL.take (by rfl) (by rfl) ?_; apply Exists.intro; refine ⟨fun w1 hS1 => ?_, ?_⟩; (focus (skip; go_simp; with_reducible rfl)); simp only [Act.put, List.setIfInBounds_toArray, List.set_cons_zero, List.set_cons_succ])
        | (refine TxtZL.takeE' (by rfl) (by rfl) ?_; apply Exists.intro; refine ⟨fun w1 hS1 => ?_, ?_⟩; (focus (skip; go_simp; with_reducible rfl)); simp only [Act.put, List.setIfInBounds_toArray, List.set_cons_zero, List.set_cons_succ]))
      refine TxtZL.value (fun v => v = .slice A l.length c) (fun _ w' => Blk w' w.heap.size 55 #[.int .i64 (n : Int), .slice A l.length c, .int .i64 root, .int .i64 l0, .int .i64 l1, .slice M ms0.length cm]) (by rfl) (by rfl) ⟨_, rfl⟩ (fun w1 hS1 hJ1 => by
        have c1 : w1.cell? ⟨w.heap.size, 1, none⟩ = some (.slice A l.length c) := hJ1.cell 1
        exact ⟨_, w1, by go_simp, hS1, rfl, hJ1⟩) ?_
      rintro _ rfl
      simp only [Act.put, List.setIfInBounds_toArray, List.set_cons_zero, List.set_cons_succ]
      repeat (first
        | (refine TxtZL.skip (by rfl) ?_; simp only [Act.put, List.setIfInBounds_toArray, List.set_cons_zero, List.set_cons_succ])
        | (refine TxtZL.take (by rfl) (by rfl) ?_; apply Exists.intro; refine ⟨fun w1 hS1 => ?_, ?_⟩; (focus (skip; go_simp; with_reducible rfl)); simp only [Act.put, List.setIfInBounds_toArray, List.set_cons_zero, List.set_cons_succ])
        | (refine TxtZL.takeE' (by rfl) (by rfl) ?_; apply Exists.intro; refine ⟨fun w1 hS1 => ?_, ?_⟩; (focus (skip; go_simp; with_reducible rfl)); simp only [Act.put, List.setIfInBounds_toArray, List.set_cons_zero, List.set_cons_succ]))
      refine TxtZL.call (f := 41) (args := #[.slice A l.length c]) (fun u => ∃ A1 c1, u = Value.slice A1 l.length c1) (fun u w' => Blk w' w.heap.size 55 #[.int .i64 (n : Int), .slice A l.length c, .int .i64 root, .int .i64 l0, .int .i64 l1, .slice M ms0.length cm] ∧ OwnP w' wb.heap.size u l) (by rfl) (by rfl) ⟨_, none, 0, rfl⟩ (fun w1 hS1 hJ1 => by go_simp) (fun w1 hS1 hJ1 => ?_) ?_
      · refine (clonePs_any A l c w1 (hpb.grownQ hS1.1.grown HAp.out) HA.out (by omega)).mono ?_
        rintro e w' ⟨A1, c1, rfl, ho, hb⟩
        exact ⟨_, rfl, ⟨hS1.1.trans (Near.of_below (hb.mono hS1.1.size)), (hb.cell (lt_of_cell hS1.2)).trans hS1.2⟩, ⟨A1, c1, rfl⟩, hJ1.below hb hJ1.lt, ownsRow_mono ho hS1.1.size⟩
      rintro _ ⟨A1, c1, rfl⟩
      simp only [Act.put, List.setIfInBounds_toArray, List.set_cons_zero, List.set_cons_succ]
      repeat (first
        | (refine TxtZL.skip (by rfl) ?_; simp only [Act.put, List.setIfInBounds_toArray, List.set_cons_zero, List.set_cons_succ])
        | (refine TxtZL.take (by rfl) (by rfl) ?_; apply Exists.intro; refine ⟨fun w1 hS1 => ?_, ?_⟩; (focus ((have g5 := hS1.2); go_simp; with_reducible rfl)); simp only [Act.put, List.setIfInBounds_toArray, List.set_cons_zero, List.set_cons_succ])
        | (refine TxtZL.takeE' (by rfl) (by rfl) ?_; apply Exists.intro; refine ⟨fun w1 hS1 => ?_, ?_⟩; (focus ((have g5 := hS1.2); go_simp; with_reducible rfl)); simp only [Act.put, List.setIfInBounds_toArray, List.set_cons_zero, List.set_cons_succ]))
      refine TxtZL.call (f := 43) (args := #[.slice M ms0.length cm]) (fun u => ∃ M1 cm1, u = Value.slice M1 ms0.length cm1) (fun u w' => Blk w' w.heap.size 55 #[.int .i64 (n : Int), .slice A l.length c, .int .i64 root, .int .i64 l0, .int .i64 l1, .slice M ms0.length cm] ∧ OwnP w' wb.heap.size (.slice A1 l.length c1) l ∧ OwnM w' wb.heap.size u ms0) (by rfl) (by rfl) ⟨_, none, 0, rfl⟩ (fun w1 hS1 hJ1 => by go_simp) (fun w1 hS1 hJ1 => ?_) ?_
      · refine (cloneM_any M ms0 cm w1 (hrb.grown hS1.1.grown HMp.out) HMn.out (by omega)).mono ?_
        rintro e w' ⟨M1, cm1, rfl, ho, hb⟩
        exact ⟨_, rfl, ⟨hS1.1.trans (Near.of_below (hb.mono hS1.1.size)), (hb.cell (lt_of_cell hS1.2)).trans hS1.2⟩, ⟨M1, cm1, rfl⟩, hJ1.1.below hb hJ1.1.lt, ownsRow_below hJ1.2 hb, ho.mono hS1.1.size⟩
      rintro _ ⟨M1, cm1, rfl⟩
      simp only [Act.put, List.setIfInBounds_toArray, List.set_cons_zero, List.set_cons_succ]
      repeat (first
        | (refine TxtZL.skip (by rfl) ?_; simp only [Act.put, List.setIfInBounds_toArray, List.set_cons_zero, List.set_cons_succ])
        | (refine TxtZL.take (by rfl) (by rfl) ?_; apply Exists.intro; refine ⟨fun w1 hS1 => ?_, ?_⟩; (focus (skip; go_simp; with_reducible rfl)); simp only [Act.put, List.setIfInBounds_toArray, List.set_cons_zero, List.set_cons_succ])
        | (refine TxtZL.takeE' (by rfl) (by rfl) ?_; apply Exists.intro; refine ⟨fun w1 hS1 => ?_, ?_⟩; (focus (skip; go_simp; with_reducible rfl)); simp only [Act.put, List.setIfInBounds_toArray, List.set_cons_zero, List.set_cons_succ]))
      refine TxtZL.eff (fun v => v = undef) (fun _ w' => Blk w' w.heap.size 55 #[.int .i64 (n : Int), .slice A1 l.length c1, .int .i64 root, .int .i64 l0, .int .i64 l1, .slice M ms0.length cm] ∧ OwnP w' wb.heap.size (.slice A1 l.length c1) l ∧ OwnM w' wb.heap.size (.slice M1 ms0.length cm1) ms0) (by rfl) (by rfl) ⟨_, rfl⟩ (fun w1 hS1 hJ1 => ?_) ?_
      · have cc1 : w1.cell? ⟨w.heap.size, 1, none⟩ = some (.slice A l.length c) := hJ1.1.cell 1
        have f1 := hJ1.1.frozen 1
        exact Eff.skip (w' := w1.setCell ⟨w.heap.size, 1, none⟩ (.slice A1 l.length c1)) (by go_simp) ⟨⟨near_setp hS1.1 1 _, (cell_co (by decide)).trans hS1.2⟩, rfl, hJ1.1.set_ 1 _, own_far hJ1.2.1 hG 1 _, own_far hJ1.2.2 hG 1 _⟩
      rintro _ rfl
      simp only [Act.put]
      repeat (first
        | (refine TxtZL.skip (by rfl) ?_; simp only [Act.put, List.setIfInBounds_toArray, List.set_cons_zero, List.set_cons_succ])
        | (refine TxtZL.take (by rfl) (by rfl) ?_; apply Exists.intro; refine ⟨fun w1 hS1 => ?_, ?_⟩; (focus (skip; go_simp; with_reducible rfl)); simp only [Act.put, List.setIfInBounds_toArray, List.set_cons_zero, List.set_cons_succ])
        | (refine TxtZL.takeE' (by rfl) (by rfl) ?_; apply Exists.intro; refine ⟨fun w1 hS1 => ?_, ?_⟩; (focus (skip; go_simp; with_reducible rfl)); simp only [Act.put, List.setIfInBounds_toArray, List.set_cons_zero, List.set_cons_succ]))
      refine TxtZL.last (fun w' => RunS w.heap.size wb.heap.size wb n l root l0 l1 ms0 A1 c1 M1 cm1 w') (by rfl) (by rfl) (fun w1 hS1 hJ1 => ?_) ?_
      · have c5 := hS1.2
        have f5 := hJ1.1.frozen 5
        exact Eff.skip (w' := w1.setCell ⟨w.heap.size, 5, none⟩ (.slice M1 ms0.length cm1)) (by go_simp) ⟨hJ1.1.set_ 5 _, own_far hJ1.2.1 hG 5 _, own_far hJ1.2.2 hG 5 _, near_setp hS1.1 5 _⟩
      rintro _ w5 hS5
      simp only [Act.put]
      have hA1 : A1 = none → l = [] ∧ c1 = 0 := fun en => by
        obtain ⟨A', c', e', _, hn⟩ := OwnP.form2 hS5.op
        injection e' with e1 _ e2
        subst e1 e2
        exact hn en
      clear kd hpb hrb
      go_wp2_with fail
      go_loopw [12] (fun t wr => ∃ (tv : Value) (ms : List Mv) (f : Nat) (A1 : Option Addr) (c1 : Nat) (M1 : Option Addr) (cm1 : Nat), t = tv ∧ OkM ms ∧ runG l0 l1 l pool1 pool2 sty1 sty2 f ms = runG l0 l1 l pool1 pool2 sty1 sty2 200 ms0 ∧ 200 ≤ ms.length + f ∧ ms.length ≤ 200 ∧ (A1 = none → l = [] ∧ c1 = 0) ∧ RunS w.heap.size wb.heap.size wb n l root l0 l1 ms A1 c1 M1 cm1 wr) (fun _ wr => lenW w.heap.size wr)
      case atStart => exact ⟨_, ms0, 200, A1, c1, M1, cm1, rfl, Hm.out, rfl, by omega, hl, hA1, hS5⟩
      case round =>
        clear hS5 hA1
        obtain ⟨tv, ms, f, A1, c1, M1, cm1, rfl, hok, hrun, hf, hln, hA1, hS⟩ := hrel
        have hBw := hS.near.size
        obtain ⟨e0, e1, e2, e3, e4, e5⟩ := dgC hS.blk
        have HOk := Lib.hid hok; have Hrun := Lib.hid hrun; have HA1 := Lib.hid hA1
        have e5' := e5
        clear hok hrun hA1
        go_wp2_with fail
        refine (turn_any n A1 l c1 root l0 l1 M1 ms cm1 wr hS.rp hS.rm HOk.out (by omega) hll).mono ?_
        rintro e w2 ⟨rfl, hb2⟩
        have hS2 := hS.below hBw hb2
        have hB2 := Nat.le_trans hBw hb2.size
        clear e0 e1 e2 e3 e4 e5 hS hb2
        obtain ⟨e0, e1, e2, e3, e4, e5⟩ := dgC hS2.blk
        rcases turn_012 l0 l1 l ms with ht | ht | ht
        · rw [ht]
          have Hr' := Lib.hid (show runG l0 l1 l pool1 pool2 sty1 sty2 f ms = ms by cases f <;> simp [runG, ht])
          have hkt := Kt2.out.grown hS2.near.grown (fun e => by injection e with e; omega)
          obtain ⟨q0, q1, q2, q3, q4, q5⟩ := dgC hkt
          obtain ⟨f0, f1, f2, f3, f4, f5⟩ := dgF hkt
          have Hkt := Lib.hid hkt; have HS2 := Lib.hid hS2
          clear hkt hS2 ht e5'
          go_wp2_with fail
          have hk2 := set6 (g := w.heap.size + 1 + 1 + 1) Hkt.out (.int .i64 (n : Int)) (.slice A1 l.length c1) (.int .i64 root) (.int .i64 l0) (.int .i64 l1) (.slice M1 ms.length cm1)
          obtain ⟨r0, r1, r2, r3, r4, r5⟩ := dgC hk2
          refine bodyPost_ret (v := .tuple #[.agg #[.int .i64 (n : Int), .slice A1 l.length c1, .int .i64 root, .int .i64 l0, .int .i64 l1, .slice M1 ms.length cm1], .int .i64 0]) (by simp [results, Tryz.results17, go_sem, r0, r1, r2, r3, r4, r5]) rfl ?_
          rw [← Hrun.out, Hr'.out]
          exact ⟨A1, c1, M1, cm1, rfl, ownsRow_mono (own_set6 HS2.out.op (by omega) ..) (by omega), OwnM.mono (own_set6 HS2.out.om (by omega) ..) (by omega), below_set6 (Hbw.out.trans (near_below HS2.out.near hG)) (by omega) ..⟩
        · rw [ht]
          have Htn := Lib.hid (show turnF l0 l1 l ms ≠ 0 by rw [ht]; decide)
          have hlt := (turn_run Htn.out).2.1
          obtain ⟨f', rfl⟩ : ∃ f', f = f' + 1 := ⟨f - 1, by omega⟩
          have Hstep := Lib.hid (show runG l0 l1 l pool1 pool2 sty1 sty2 (f' + 1) ms = runG l0 l1 l pool1 pool2 sty1 sty2 f' (ms ++ [(chooseF l ms pool1 sty1)]) by rw [runG, if_neg Htn.out, ht]; rw [if_pos rfl, if_pos rfl])
          have Hmay := Lib.hid (choose_may l ms pool1 sty1)
          have Hok' := Lib.hid (HOk.out.snoc (turn_run Htn.out).1 Hmay.out)
          obtain ⟨a0, a1, a2, a3, a4, a5, a6, a7⟩ := plC (K82.out.grown hS2.near.grown (fun e => by injection e with e; omega))
          have Hrp := Lib.hid hS2.rp; have Hrm := Lib.hid hS2.rm
          have Hnb := Lib.hid (show ∀ w1, Below w2.heap.size w2 w1 → Below w.heap.size w w1 from fun w1 hb => Hbw.out.trans ((near_below hS2.near hG).trans (hb.mono (by omega))))
          have HS2 := Lib.hid hS2
          clear hS2 ht
          go_upto_region 13 with fail
          go_cut [13, 14] (fun s13 s14 wx => ∃ q, s13 = Value.pointer (some ⟨q, 0, none⟩) ∧ s14 = Value.int .i64 0 ∧ w2.heap.size ≤ q ∧ Blk wx q 89 #[.int .i64 (chooseF l ms pool1 sty1).1, .int .i64 (chooseF l ms pool1 sty1).2.1, .int .i64 (chooseF l ms pool1 sty1).2.2.1, .int .i64 (chooseF l ms pool1 sty1).2.2.2] ∧ Below w2.heap.size w2 wx)
          case first =>
            refine wp_region_tree [5, 9, 10] (fun w' => Below w2.heap.size w2 w') (fun w' => BxM none w2.heap.size w') 12 [0, 1, 2, 3, 4, 5, 6, 7, 8, 9, 10, 11] (by rfl) (by decide) (by kernel_rfl) (by kernel_rfl) (Below.refl _ _).drew BxM.no ?_
            refine TxtT.pure 0 (by rfl) (by rw [List.getElem?_toArray]; rfl) (by rfl) (by as_aux_lemma => kernel_rfl) (by rfl) ?_; apply Exists.intro; refine ⟨fun w1 hS1 => ?_, ?_⟩; (focus ((have g0 := (hS1.cell (lt_of_cell e0)).trans e0); (have g1 := (hS1.cell (lt_of_cell e1)).trans e1); (have g2 := (hS1.cell (lt_of_cell e2)).trans e2); (have g3 := (hS1.cell (lt_of_cell e3)).trans e3); (have g4 := (hS1.cell (lt_of_cell e4)).trans e4); (have g5 := (hS1.cell (lt_of_cell e5)).trans e5); go_simp; with_reducible rfl))
            rw [show List.erase [0, 1, 2, 3, 4, 5, 6, 7, 8, 9, 10, 11] 0 = [1, 2, 3, 4, 5, 6, 7, 8, 9, 10, 11] from rfl]; simp only [Act.put, List.setIfInBounds_toArray, List.set_cons_zero, List.set_cons_succ]
            refine TxtT.pure 1 (by rfl) (by rw [List.getElem?_toArray]; rfl) (by rfl) (by as_aux_lemma => kernel_rfl) (by rfl) ?_; apply Exists.intro; refine ⟨fun w1 hS1 => ?_, ?_⟩; (focus (skip; go_simp; with_reducible rfl))
            rw [show List.erase [1, 2, 3, 4, 5, 6, 7, 8, 9, 10, 11] 1 = [2, 3, 4, 5, 6, 7, 8, 9, 10, 11] from rfl]; simp only [Act.put, List.setIfInBounds_toArray, List.set_cons_zero, List.set_cons_succ]
            refine TxtT.pure 2 (by rfl) (by rw [List.getElem?_toArray]; rfl) (by rfl) (by as_aux_lemma => kernel_rfl) (by rfl) ?_; apply Exists.intro; refine ⟨fun w1 hS1 => ?_, ?_⟩; (focus (skip; go_simp; with_reducible rfl))
            rw [show List.erase [2, 3, 4, 5, 6, 7, 8, 9, 10, 11] 2 = [3, 4, 5, 6, 7, 8, 9, 10, 11] from rfl]; simp only [Act.put, List.setIfInBounds_toArray, List.set_cons_zero, List.set_cons_succ]
            refine TxtT.pure 3 (by rfl) (by rw [List.getElem?_toArray]; rfl) (by rfl) (by as_aux_lemma => kernel_rfl) (by rfl) ?_; apply Exists.intro; refine ⟨fun w1 hS1 => ?_, ?_⟩; (focus ((have hw : IntKind.i64.wrap (0 : Int) = 0 := by rw [IntKind.wrap_i64]; omega); go_simp; with_reducible rfl))
            rw [show List.erase [3, 4, 5, 6, 7, 8, 9, 10, 11] 3 = [4, 5, 6, 7, 8, 9, 10, 11] from rfl]; simp only [Act.put, List.setIfInBounds_toArray, List.set_cons_zero, List.set_cons_succ]
            refine TxtT.pure 4 (by rfl) (by rw [List.getElem?_toArray]; rfl) (by rfl) (by as_aux_lemma => kernel_rfl) (by rfl) ?_; apply Exists.intro; refine ⟨fun w1 hS1 => ?_, ?_⟩; (focus ((have g0 := (hS1.cell (lt_of_cell a0)).trans a0); (have g1 := (hS1.cell (lt_of_cell a1)).trans a1); (have g2 := (hS1.cell (lt_of_cell a2)).trans a2); (have g3 := (hS1.cell (lt_of_cell a3)).trans a3); (have g4 := (hS1.cell (lt_of_cell a4)).trans a4); (have g5 := (hS1.cell (lt_of_cell a5)).trans a5); (have g6 := (hS1.cell (lt_of_cell a6)).trans a6); (have g7 := (hS1.cell (lt_of_cell a7)).trans a7); go_simp; with_reducible rfl))
            rw [show List.erase [4, 5, 6, 7, 8, 9, 10, 11] 4 = [5, 6, 7, 8, 9, 10, 11] from rfl]; simp only [Act.put, List.setIfInBounds_toArray, List.set_cons_zero, List.set_cons_succ]
            refine TxtT.two 5 9 (by as_aux_lemma => kernel_rfl) (by rw [List.getElem?_toArray]; rfl) (by rw [List.getElem?_toArray]; rfl) (by rfl) (by rfl) (by rfl) (by rfl) (fun v => v = Value.tuple #[.agg #[.int .i64 (chooseF l ms pool1 sty1).1, .int .i64 (chooseF l ms pool1 sty1).2.1, .int .i64 (chooseF l ms pool1 sty1).2.2.1, .int .i64 (chooseF l ms pool1 sty1).2.2.2], .int .i64 0]) (fun _ w' => BxM none w2.heap.size w') (fun v => ∃ q, v = Value.pointer (some ⟨q, 0, none⟩)) (fun v w' => ∃ q, v = Value.pointer (some ⟨q, 0, none⟩) ∧ BxM (some q) w2.heap.size w') (fun w1 hS1 hJ1 => ?_) (fun w1 hS1 hJ1 => ?_) ?_ ?_
            · refine Eff.call (f := 45) (args := #[.agg #[.int .i64 (n : Int), .slice A1 l.length c1, .int .i64 root, .int .i64 l0, .int .i64 l1, .slice M1 ms.length cm1], .agg #[.slice P1 pool1.length pc1, .slice none 0 0, .slice none 0 0, .int .i64 sty1]]) (by go_simp) ((pchoose_any n A1 l c1 root l0 l1 M1 ms cm1 P1 pool1 pc1 sty1 w1 (Hrp.out.below hS1) (Hrm.out.below hS1) HOk.out (by omega) hll Htn.out (Hp1.out.below (Hnb.out w1 hS1)) hpl1 Ha1.out h1a h1b).mono ?_)
              rintro e w' ⟨rfl, hb⟩
              exact ⟨_, rfl, hS1.trans (hb.mono hS1.size), rfl, BxM.below hJ1 hb⟩
            · exact Eff.value (w' := w1.alloc (.cells #[.int .i64 0, .int .i64 0, .int .i64 0, .int .i64 0] 89)) (v := .pointer (some ⟨w1.heap.size, 0, none⟩)) (by go_simp) ⟨hS1.trans ((newB _ _).mono hS1.size), ⟨_, rfl⟩, _, rfl, BxM.new hS1.size⟩
            ·
              rintro _ rfl
              rw [show List.erase [5, 6, 7, 8, 9, 10, 11] 5 = [6, 7, 8, 9, 10, 11] from rfl]; simp only [Act.put, List.setIfInBounds_toArray, List.set_cons_zero, List.set_cons_succ]
              refine TxtT.pure 6 (by rfl) (by rw [List.getElem?_toArray]; rfl) (by rfl) (by as_aux_lemma => kernel_rfl) (by rfl) ?_; apply Exists.intro; refine ⟨fun w1 hS1 => ?_, ?_⟩; (focus (skip; go_simp; with_reducible rfl))
              rw [show List.erase [6, 7, 8, 9, 10, 11] 6 = [7, 8, 9, 10, 11] from rfl]; simp only [Act.put, List.setIfInBounds_toArray, List.set_cons_zero, List.set_cons_succ]
              refine TxtT.pure 7 (by rfl) (by rw [List.getElem?_toArray]; rfl) (by rfl) (by as_aux_lemma => kernel_rfl) (by rfl) ?_; apply Exists.intro; refine ⟨fun w1 hS1 => ?_, ?_⟩; (focus (skip; go_simp; with_reducible rfl))
              rw [show List.erase [7, 8, 9, 10, 11] 7 = [8, 9, 10, 11] from rfl]; simp only [Act.put, List.setIfInBounds_toArray, List.set_cons_zero, List.set_cons_succ]
              refine TxtT.pure 8 (by rfl) (by rw [List.getElem?_toArray]; rfl) (by rfl) (by as_aux_lemma => kernel_rfl) (by rfl) ?_; apply Exists.intro; refine ⟨fun w1 hS1 => ?_, ?_⟩; (focus (skip; go_simp; with_reducible rfl))
              rw [show List.erase [8, 9, 10, 11] 8 = [9, 10, 11] from rfl]; simp only [Act.put, List.setIfInBounds_toArray, List.set_cons_zero, List.set_cons_succ]
              refine TxtT.one 9 (by as_aux_lemma => kernel_rfl) (by rw [List.getElem?_toArray]; rfl) (by rfl) (by rfl) (fun v => ∃ q, v = Value.pointer (some ⟨q, 0, none⟩)) (fun v w' => ∃ q, v = Value.pointer (some ⟨q, 0, none⟩) ∧ BxM (some q) w2.heap.size w') (fun w1 hS1 hJ1 => ?_) ?_
              · exact Eff.value (w' := w1.alloc (.cells #[.int .i64 0, .int .i64 0, .int .i64 0, .int .i64 0] 89)) (v := .pointer (some ⟨w1.heap.size, 0, none⟩)) (by go_simp) ⟨hS1.trans ((newB _ _).mono hS1.size), ⟨_, rfl⟩, _, rfl, BxM.new hS1.size⟩
              rintro _ ⟨q, rfl⟩
              rw [show List.erase [9, 10, 11] 9 = [10, 11] from rfl]; simp only [Act.put, List.setIfInBounds_toArray, List.set_cons_zero, List.set_cons_succ]
              refine TxtT.weakJ (J2 := (fun w' => BxM (some q) w2.heap.size w')) (fun w1 h => by obtain ⟨q', hq, h⟩ := h; injection hq with hq; injection hq with hq; injection hq with hq _ _; subst hq; exact h) ?_
              refine TxtT.one 10 (by as_aux_lemma => kernel_rfl) (by rw [List.getElem?_toArray]; rfl) (by rfl) (by rfl) (fun v => v = undef) (fun _ w' => w2.heap.size ≤ q ∧ Blk w' q 89 #[.int .i64 (chooseF l ms pool1 sty1).1, .int .i64 (chooseF l ms pool1 sty1).2.1, .int .i64 (chooseF l ms pool1 sty1).2.2.1, .int .i64 (chooseF l ms pool1 sty1).2.2.2]) (fun w1 hS1 hJ1 => ?_) ?_
              · obtain ⟨hq, hk⟩ := hJ1 q rfl
                obtain ⟨g0, g1, g2, g3, f0, f1, f2, f3⟩ := mvC hk
                exact Eff.skip (w' := (((w1.setCell ⟨q, 0, none⟩ (.int .i64 (chooseF l ms pool1 sty1).1)).setCell ⟨q, 1, none⟩ (.int .i64 (chooseF l ms pool1 sty1).2.1)).setCell ⟨q, 2, none⟩ (.int .i64 (chooseF l ms pool1 sty1).2.2.1)).setCell ⟨q, 3, none⟩ (.int .i64 (chooseF l ms pool1 sty1).2.2.2)) (by go_simp) ⟨below_set4 hS1 hq _ _ _ _, rfl, hq, set4 hk _ _ _ _⟩
              rintro _ rfl
              rw [show List.erase [10, 11] 10 = [11] from rfl]; simp only [Act.put]
              refine TxtT.pure 11 (by rfl) (by rw [List.getElem?_toArray]; rfl) (by rfl) (by as_aux_lemma => kernel_rfl) (by rfl) ?_; apply Exists.intro; refine ⟨fun w1 hS1 => ?_, ?_⟩; (focus (skip; go_simp; with_reducible rfl))
              rw [show List.erase [11] 11 = [] from rfl]; simp only [Act.put, List.setIfInBounds_toArray, List.set_cons_zero, List.set_cons_succ]
              refine ⟨rfl, fun w1 hS1 hJ1 => ?_⟩
              go_wp2_with fail
              go_meet
              exact ⟨q, rfl, rfl, hJ1.1, hJ1.2, hS1⟩
            ·
              rintro _ ⟨q, rfl⟩
              rw [show List.erase [5, 6, 7, 8, 9, 10, 11] 9 = [5, 6, 7, 8, 10, 11] from rfl]; simp only [Act.put, List.setIfInBounds_toArray, List.set_cons_zero, List.set_cons_succ]
              refine TxtT.weakJ (J2 := (fun w' => BxM (some q) w2.heap.size w')) (fun w1 h => by obtain ⟨q', hq, h⟩ := h; injection hq with hq; injection hq with hq; injection hq with hq _ _; subst hq; exact h) ?_
              refine TxtT.one 5 (by as_aux_lemma => kernel_rfl) (by rw [List.getElem?_toArray]; rfl) (by rfl) (by rfl) (fun v => v = Value.tuple #[.agg #[.int .i64 (chooseF l ms pool1 sty1).1, .int .i64 (chooseF l ms pool1 sty1).2.1, .int .i64 (chooseF l ms pool1 sty1).2.2.1, .int .i64 (chooseF l ms pool1 sty1).2.2.2], .int .i64 0]) (fun _ w' => BxM (some q) w2.heap.size w') (fun w1 hS1 hJ1 => ?_) ?_
              · refine Eff.call (f := 45) (args := #[.agg #[.int .i64 (n : Int), .slice A1 l.length c1, .int .i64 root, .int .i64 l0, .int .i64 l1, .slice M1 ms.length cm1], .agg #[.slice P1 pool1.length pc1, .slice none 0 0, .slice none 0 0, .int .i64 sty1]]) (by go_simp) ((pchoose_any n A1 l c1 root l0 l1 M1 ms cm1 P1 pool1 pc1 sty1 w1 (Hrp.out.below hS1) (Hrm.out.below hS1) HOk.out (by omega) hll Htn.out (Hp1.out.below (Hnb.out w1 hS1)) hpl1 Ha1.out h1a h1b).mono ?_)
                rintro e w' ⟨rfl, hb⟩
                exact ⟨_, rfl, hS1.trans (hb.mono hS1.size), rfl, BxM.below hJ1 hb⟩
              rintro _ rfl
              rw [show List.erase [5, 6, 7, 8, 10, 11] 5 = [6, 7, 8, 10, 11] from rfl]; simp only [Act.put, List.setIfInBounds_toArray, List.set_cons_zero, List.set_cons_succ]
              refine TxtT.pure 6 (by rfl) (by rw [List.getElem?_toArray]; rfl) (by rfl) (by as_aux_lemma => kernel_rfl) (by rfl) ?_; apply Exists.intro; refine ⟨fun w1 hS1 => ?_, ?_⟩; (focus (skip; go_simp; with_reducible rfl))
              rw [show List.erase [6, 7, 8, 10, 11] 6 = [7, 8, 10, 11] from rfl]; simp only [Act.put, List.setIfInBounds_toArray, List.set_cons_zero, List.set_cons_succ]
              refine TxtT.pure 7 (by rfl) (by rw [List.getElem?_toArray]; rfl) (by rfl) (by as_aux_lemma => kernel_rfl) (by rfl) ?_; apply Exists.intro; refine ⟨fun w1 hS1 => ?_, ?_⟩; (focus (skip; go_simp; with_reducible rfl))
              rw [show List.erase [7, 8, 10, 11] 7 = [8, 10, 11] from rfl]; simp only [Act.put, List.setIfInBounds_toArray, List.set_cons_zero, List.set_cons_succ]
              refine TxtT.pure 8 (by rfl) (by rw [List.getElem?_toArray]; rfl) (by rfl) (by as_aux_lemma => kernel_rfl) (by rfl) ?_; apply Exists.intro; refine ⟨fun w1 hS1 => ?_, ?_⟩; (focus (skip; go_simp; with_reducible rfl))
              rw [show List.erase [8, 10, 11] 8 = [10, 11] from rfl]; simp only [Act.put, List.setIfInBounds_toArray, List.set_cons_zero, List.set_cons_succ]
              refine TxtT.one 10 (by as_aux_lemma => kernel_rfl) (by rw [List.getElem?_toArray]; rfl) (by rfl) (by rfl) (fun v => v = undef) (fun _ w' => w2.heap.size ≤ q ∧ Blk w' q 89 #[.int .i64 (chooseF l ms pool1 sty1).1, .int .i64 (chooseF l ms pool1 sty1).2.1, .int .i64 (chooseF l ms pool1 sty1).2.2.1, .int .i64 (chooseF l ms pool1 sty1).2.2.2]) (fun w1 hS1 hJ1 => ?_) ?_
              · obtain ⟨hq, hk⟩ := hJ1 q rfl
                obtain ⟨g0, g1, g2, g3, f0, f1, f2, f3⟩ := mvC hk
                exact Eff.skip (w' := (((w1.setCell ⟨q, 0, none⟩ (.int .i64 (chooseF l ms pool1 sty1).1)).setCell ⟨q, 1, none⟩ (.int .i64 (chooseF l ms pool1 sty1).2.1)).setCell ⟨q, 2, none⟩ (.int .i64 (chooseF l ms pool1 sty1).2.2.1)).setCell ⟨q, 3, none⟩ (.int .i64 (chooseF l ms pool1 sty1).2.2.2)) (by go_simp) ⟨below_set4 hS1 hq _ _ _ _, rfl, hq, set4 hk _ _ _ _⟩
              rintro _ rfl
              rw [show List.erase [10, 11] 10 = [11] from rfl]; simp only [Act.put]
              refine TxtT.pure 11 (by rfl) (by rw [List.getElem?_toArray]; rfl) (by rfl) (by as_aux_lemma => kernel_rfl) (by rfl) ?_; apply Exists.intro; refine ⟨fun w1 hS1 => ?_, ?_⟩; (focus (skip; go_simp; with_reducible rfl))
              rw [show List.erase [11] 11 = [] from rfl]; simp only [Act.put, List.setIfInBounds_toArray, List.set_cons_zero, List.set_cons_succ]
              refine ⟨rfl, fun w1 hS1 hJ1 => ?_⟩
              go_wp2_with fail
              go_meet
              exact ⟨q, rfl, rfl, hJ1.1, hJ1.2, hS1⟩
          obtain ⟨q, rfl, rfl, hq, hkq, hb3⟩ := hcut
          clear a0 a1 a2 a3 a4 a5 a6 a7 e0 e1 e2 e3 e4 e5
          have hS3 := HS2.out.below hB2 hb3
          have hB3 := Nat.le_trans hB2 hb3.size
          obtain ⟨e0, e1, e2, e3, e4, e5⟩ := dgC hS3.blk
          obtain ⟨u0, u1, u2, u3, _, _, _, _⟩ := mvC hkq
          clear HS2 hb3 hkq Hrp Hrm
          go_wp2_with fail
          refine (apply_any n A1 l c1 root l0 l1 M1 ms cm1 (chooseF l ms pool1 sty1) wc hS3.rp HA1.out Hv.out hS3.rm HOk.out (by omega) hll Htn.out Hmay.out).mono ?_
          rintro e w4 ⟨A4, c4, M4, cm4, rfl, ho4, hm4, hb4⟩
          have hS4 := hS3.below hB3 hb4
          clear e0 e1 e2 e3 e4 e5 u0 u1 u2 u3
          obtain ⟨e0, e1, e2, e3, e4, e5⟩ := dgC hS4.blk
          obtain ⟨f0, f1, f2, f3, f4, f5⟩ := dgF hS4.blk
          have hl1 : (ms ++ [(chooseF l ms pool1 sty1)]).length = ms.length + 1 := by simp
          have hA4 : A4 = none → l = [] ∧ c4 = 0 := fun en => by
            obtain ⟨A', c', e', _, hn⟩ := OwnP.form2 ho4
            injection e' with e1 _ e2
            subst e1 e2
            exact hn en
          have hb6 := set6 hS4.blk (.int .i64 (n : Int)) (.slice A4 l.length c4) (.int .i64 root) (.int .i64 l0) (.int .i64 l1) (.slice M4 (ms.length + 1) cm4)
          have Hlw := Lib.hid (lenW_eq (dgC hb6).2.2.2.2.2)
          have Hlo := Lib.hid (lenW_eq e5')
          have HNew := Lib.hid (show RunS w.heap.size wb.heap.size wb n l root l0 l1 (ms ++ [(chooseF l ms pool1 sty1)]) A4 c4 M4 cm4 ((((((w4.setCell ⟨w.heap.size, 0, none⟩ (.int .i64 (n : Int))).setCell ⟨w.heap.size, 1, none⟩ (.slice A4 l.length c4)).setCell ⟨w.heap.size, 2, none⟩ (.int .i64 root)).setCell ⟨w.heap.size, 3, none⟩ (.int .i64 l0)).setCell ⟨w.heap.size, 4, none⟩ (.int .i64 l1)).setCell ⟨w.heap.size, 5, none⟩ (.slice M4 (ms.length + 1) cm4)) from
            ⟨by rw [hl1]; exact hb6, own_set6 (ownsRow_mono ho4 hB3) (by omega) .., own_set6 (OwnM.mono hm4 hB3) (by omega) .., near_set6 hS4.near ..⟩)
          have HA4 := Lib.hid hA4
          clear hS3 hS4 ho4 hm4 hb4 hb6 hA4 hl1 e5'
          go_wp2_with fail
          go_roundw
          case rel => exact ⟨_, _, f', A4, c4, M4, cm4, rfl, Hok'.out, by rw [← Hstep.out]; exact Hrun.out, by simp; omega, by simp; omega, HA4.out, HNew.out⟩
          case measure =>
            rw [Hlw.out, Hlo.out]; omega
        · rw [ht]
          have Htn := Lib.hid (show turnF l0 l1 l ms ≠ 0 by rw [ht]; decide)
          have hlt := (turn_run Htn.out).2.1
          obtain ⟨f', rfl⟩ : ∃ f', f = f' + 1 := ⟨f - 1, by omega⟩
          have Hstep := Lib.hid (show runG l0 l1 l pool1 pool2 sty1 sty2 (f' + 1) ms = runG l0 l1 l pool1 pool2 sty1 sty2 f' (ms ++ [(chooseF l ms pool2 sty2)]) by rw [runG, if_neg Htn.out, ht]; rw [if_neg (by decide), if_neg (by decide)])
          have Hmay := Lib.hid (choose_may l ms pool2 sty2)
          have Hok' := Lib.hid (HOk.out.snoc (turn_run Htn.out).1 Hmay.out)
          obtain ⟨a0, a1, a2, a3, a4, a5, a6, a7⟩ := plC (K82.out.grown hS2.near.grown (fun e => by injection e with e; omega))
          have Hrp := Lib.hid hS2.rp; have Hrm := Lib.hid hS2.rm
          have Hnb := Lib.hid (show ∀ w1, Below w2.heap.size w2 w1 → Below w.heap.size w w1 from fun w1 hb => Hbw.out.trans ((near_below hS2.near hG).trans (hb.mono (by omega))))
          have HS2 := Lib.hid hS2
          clear hS2 ht
          go_upto_region 13 with fail
          go_cut [13, 14] (fun s13 s14 wx => ∃ q, s13 = Value.pointer (some ⟨q, 0, none⟩) ∧ s14 = Value.int .i64 0 ∧ w2.heap.size ≤ q ∧ Blk wx q 89 #[.int .i64 (chooseF l ms pool2 sty2).1, .int .i64 (chooseF l ms pool2 sty2).2.1, .int .i64 (chooseF l ms pool2 sty2).2.2.1, .int .i64 (chooseF l ms pool2 sty2).2.2.2] ∧ Below w2.heap.size w2 wx)
          case first =>
            refine wp_region_tree [5, 9, 10] (fun w' => Below w2.heap.size w2 w') (fun w' => BxM none w2.heap.size w') 12 [0, 1, 2, 3, 4, 5, 6, 7, 8, 9, 10, 11] (by rfl) (by decide) (by kernel_rfl) (by kernel_rfl) (Below.refl _ _).drew BxM.no ?_
            refine TxtT.pure 0 (by rfl) (by rw [List.getElem?_toArray]; rfl) (by rfl) (by as_aux_lemma => kernel_rfl) (by rfl) ?_; apply Exists.intro; refine ⟨fun w1 hS1 => ?_, ?_⟩; (focus ((have g0 := (hS1.cell (lt_of_cell e0)).trans e0); (have g1 := (hS1.cell (lt_of_cell e1)).trans e1); (have g2 := (hS1.cell (lt_of_cell e2)).trans e2); (have g3 := (hS1.cell (lt_of_cell e3)).trans e3); (have g4 := (hS1.cell (lt_of_cell e4)).trans e4); (have g5 := (hS1.cell (lt_of_cell e5)).trans e5); go_simp; with_reducible rfl))
            rw [show List.erase [0, 1, 2, 3, 4, 5, 6, 7, 8, 9, 10, 11] 0 = [1, 2, 3, 4, 5, 6, 7, 8, 9, 10, 11] from rfl]; simp only [Act.put, List.setIfInBounds_toArray, List.set_cons_zero, List.set_cons_succ]
            refine TxtT.pure 1 (by rfl) (by rw [List.getElem?_toArray]; rfl) (by rfl) (by as_aux_lemma => kernel_rfl) (by rfl) ?_; apply Exists.intro; refine ⟨fun w1 hS1 => ?_, ?_⟩; (focus (skip; go_simp; with_reducible rfl))
            rw [show List.erase [1, 2, 3, 4, 5, 6, 7, 8, 9, 10, 11] 1 = [2, 3, 4, 5, 6, 7, 8, 9, 10, 11] from rfl]; simp only [Act.put, List.setIfInBounds_toArray, List.set_cons_zero, List.set_cons_succ]
            refine TxtT.pure 2 (by rfl) (by rw [List.getElem?_toArray]; rfl) (by rfl) (by as_aux_lemma => kernel_rfl) (by rfl) ?_; apply Exists.intro; refine ⟨fun w1 hS1 => ?_, ?_⟩; (focus (skip; go_simp; with_reducible rfl))
            rw [show List.erase [2, 3, 4, 5, 6, 7, 8, 9, 10, 11] 2 = [3, 4, 5, 6, 7, 8, 9, 10, 11] from rfl]; simp only [Act.put, List.setIfInBounds_toArray, List.set_cons_zero, List.set_cons_succ]
            refine TxtT.pure 3 (by rfl) (by rw [List.getElem?_toArray]; rfl) (by rfl) (by as_aux_lemma => kernel_rfl) (by rfl) ?_; apply Exists.intro; refine ⟨fun w1 hS1 => ?_, ?_⟩; (focus ((have hw : IntKind.i64.wrap (1 : Int) = 1 := by rw [IntKind.wrap_i64]; omega); go_simp; with_reducible rfl))
            rw [show List.erase [3, 4, 5, 6, 7, 8, 9, 10, 11] 3 = [4, 5, 6, 7, 8, 9, 10, 11] from rfl]; simp only [Act.put, List.setIfInBounds_toArray, List.set_cons_zero, List.set_cons_succ]
            refine TxtT.pure 4 (by rfl) (by rw [List.getElem?_toArray]; rfl) (by rfl) (by as_aux_lemma => kernel_rfl) (by rfl) ?_; apply Exists.intro; refine ⟨fun w1 hS1 => ?_, ?_⟩; (focus ((have g0 := (hS1.cell (lt_of_cell a0)).trans a0); (have g1 := (hS1.cell (lt_of_cell a1)).trans a1); (have g2 := (hS1.cell (lt_of_cell a2)).trans a2); (have g3 := (hS1.cell (lt_of_cell a3)).trans a3); (have g4 := (hS1.cell (lt_of_cell a4)).trans a4); (have g5 := (hS1.cell (lt_of_cell a5)).trans a5); (have g6 := (hS1.cell (lt_of_cell a6)).trans a6); (have g7 := (hS1.cell (lt_of_cell a7)).trans a7); go_simp; with_reducible rfl))
            rw [show List.erase [4, 5, 6, 7, 8, 9, 10, 11] 4 = [5, 6, 7, 8, 9, 10, 11] from rfl]; simp only [Act.put, List.setIfInBounds_toArray, List.set_cons_zero, List.set_cons_succ]
            refine TxtT.two 5 9 (by as_aux_lemma => kernel_rfl) (by rw [List.getElem?_toArray]; rfl) (by rw [List.getElem?_toArray]; rfl) (by rfl) (by rfl) (by rfl) (by rfl) (fun v => v = Value.tuple #[.agg #[.int .i64 (chooseF l ms pool2 sty2).1, .int .i64 (chooseF l ms pool2 sty2).2.1, .int .i64 (chooseF l ms pool2 sty2).2.2.1, .int .i64 (chooseF l ms pool2 sty2).2.2.2], .int .i64 0]) (fun _ w' => BxM none w2.heap.size w') (fun v => ∃ q, v = Value.pointer (some ⟨q, 0, none⟩)) (fun v w' => ∃ q, v = Value.pointer (some ⟨q, 0, none⟩) ∧ BxM (some q) w2.heap.size w') (fun w1 hS1 hJ1 => ?_) (fun w1 hS1 hJ1 => ?_) ?_ ?_
            · refine Eff.call (f := 45) (args := #[.agg #[.int .i64 (n : Int), .slice A1 l.length c1, .int .i64 root, .int .i64 l0, .int .i64 l1, .slice M1 ms.length cm1], .agg #[.slice P2 pool2.length pc2, .slice none 0 0, .slice none 0 0, .int .i64 sty2]]) (by go_simp) ((pchoose_any n A1 l c1 root l0 l1 M1 ms cm1 P2 pool2 pc2 sty2 w1 (Hrp.out.below hS1) (Hrm.out.below hS1) HOk.out (by omega) hll Htn.out (Hp2.out.below (Hnb.out w1 hS1)) hpl2 Ha2.out h2a h2b).mono ?_)
              rintro e w' ⟨rfl, hb⟩
              exact ⟨_, rfl, hS1.trans (hb.mono hS1.size), rfl, BxM.below hJ1 hb⟩
            · exact Eff.value (w' := w1.alloc (.cells #[.int .i64 0, .int .i64 0, .int .i64 0, .int .i64 0] 89)) (v := .pointer (some ⟨w1.heap.size, 0, none⟩)) (by go_simp) ⟨hS1.trans ((newB _ _).mono hS1.size), ⟨_, rfl⟩, _, rfl, BxM.new hS1.size⟩
            ·
              rintro _ rfl
              rw [show List.erase [5, 6, 7, 8, 9, 10, 11] 5 = [6, 7, 8, 9, 10, 11] from rfl]; simp only [Act.put, List.setIfInBounds_toArray, List.set_cons_zero, List.set_cons_succ]
              refine TxtT.pure 6 (by rfl) (by rw [List.getElem?_toArray]; rfl) (by rfl) (by as_aux_lemma => kernel_rfl) (by rfl) ?_; apply Exists.intro; refine ⟨fun w1 hS1 => ?_, ?_⟩; (focus (skip; go_simp; with_reducible rfl))
              rw [show List.erase [6, 7, 8, 9, 10, 11] 6 = [7, 8, 9, 10, 11] from rfl]; simp only [Act.put, List.setIfInBounds_toArray, List.set_cons_zero, List.set_cons_succ]
              refine TxtT.pure 7 (by rfl) (by rw [List.getElem?_toArray]; rfl) (by rfl) (by as_aux_lemma => kernel_rfl) (by rfl) ?_; apply Exists.intro; refine ⟨fun w1 hS1 => ?_, ?_⟩; (focus (skip; go_simp; with_reducible rfl))
              rw [show List.erase [7, 8, 9, 10, 11] 7 = [8, 9, 10, 11] from rfl]; simp only [Act.put, List.setIfInBounds_toArray, List.set_cons_zero, List.set_cons_succ]
              refine TxtT.pure 8 (by rfl) (by rw [List.getElem?_toArray]; rfl) (by rfl) (by as_aux_lemma => kernel_rfl) (by rfl) ?_; apply Exists.intro; refine ⟨fun w1 hS1 => ?_, ?_⟩; (focus (skip; go_simp; with_reducible rfl))
              rw [show List.erase [8, 9, 10, 11] 8 = [9, 10, 11] from rfl]; simp only [Act.put, List.setIfInBounds_toArray, List.set_cons_zero, List.set_cons_succ]
              refine TxtT.one 9 (by as_aux_lemma => kernel_rfl) (by rw [List.getElem?_toArray]; rfl) (by rfl) (by rfl) (fun v => ∃ q, v = Value.pointer (some ⟨q, 0, none⟩)) (fun v w' => ∃ q, v = Value.pointer (some ⟨q, 0, none⟩) ∧ BxM (some q) w2.heap.size w') (fun w1 hS1 hJ1 => ?_) ?_
              · exact Eff.value (w' := w1.alloc (.cells #[.int .i64 0, .int .i64 0, .int .i64 0, .int .i64 0] 89)) (v := .pointer (some ⟨w1.heap.size, 0, none⟩)) (by go_simp) ⟨hS1.trans ((newB _ _).mono hS1.size), ⟨_, rfl⟩, _, rfl, BxM.new hS1.size⟩
              rintro _ ⟨q, rfl⟩
              rw [show List.erase [9, 10, 11] 9 = [10, 11] from rfl]; simp only [Act.put, List.setIfInBounds_toArray, List.set_cons_zero, List.set_cons_succ]
              refine TxtT.weakJ (J2 := (fun w' => BxM (some q) w2.heap.size w')) (fun w1 h => by obtain ⟨q', hq, h⟩ := h; injection hq with hq; injection hq with hq; injection hq with hq _ _; subst hq; exact h) ?_
              refine TxtT.one 10 (by as_aux_lemma => kernel_rfl) (by rw [List.getElem?_toArray]; rfl) (by rfl) (by rfl) (fun v => v = undef) (fun _ w' => w2.heap.size ≤ q ∧ Blk w' q 89 #[.int .i64 (chooseF l ms pool2 sty2).1, .int .i64 (chooseF l ms pool2 sty2).2.1, .int .i64 (chooseF l ms pool2 sty2).2.2.1, .int .i64 (chooseF l ms pool2 sty2).2.2.2]) (fun w1 hS1 hJ1 => ?_) ?_
              · obtain ⟨hq, hk⟩ := hJ1 q rfl
                obtain ⟨g0, g1, g2, g3, f0, f1, f2, f3⟩ := mvC hk
                exact Eff.skip (w' := (((w1.setCell ⟨q, 0, none⟩ (.int .i64 (chooseF l ms pool2 sty2).1)).setCell ⟨q, 1, none⟩ (.int .i64 (chooseF l ms pool2 sty2).2.1)).setCell ⟨q, 2, none⟩ (.int .i64 (chooseF l ms pool2 sty2).2.2.1)).setCell ⟨q, 3, none⟩ (.int .i64 (chooseF l ms pool2 sty2).2.2.2)) (by go_simp) ⟨below_set4 hS1 hq _ _ _ _, rfl, hq, set4 hk _ _ _ _⟩
              rintro _ rfl
              rw [show List.erase [10, 11] 10 = [11] from rfl]; simp only [Act.put]
              refine TxtT.pure 11 (by rfl) (by rw [List.getElem?_toArray]; rfl) (by rfl) (by as_aux_lemma => kernel_rfl) (by rfl) ?_; apply Exists.intro; refine ⟨fun w1 hS1 => ?_, ?_⟩; (focus (skip; go_simp; with_reducible rfl))
              rw [show List.erase [11] 11 = [] from rfl]; simp only [Act.put, List.setIfInBounds_toArray, List.set_cons_zero, List.set_cons_succ]
              refine ⟨rfl, fun w1 hS1 hJ1 => ?_⟩
              go_wp2_with fail
              go_meet
              exact ⟨q, rfl, rfl, hJ1.1, hJ1.2, hS1⟩
            ·
              rintro _ ⟨q, rfl⟩
              rw [show List.erase [5, 6, 7, 8, 9, 10, 11] 9 = [5, 6, 7, 8, 10, 11] from rfl]; simp only [Act.put, List.setIfInBounds_toArray, List.set_cons_zero, List.set_cons_succ]
              refine TxtT.weakJ (J2 := (fun w' => BxM (some q) w2.heap.size w')) (fun w1 h => by obtain ⟨q', hq, h⟩ := h; injection hq with hq; injection hq with hq; injection hq with hq _ _; subst hq; exact h) ?_
              refine TxtT.one 5 (by as_aux_lemma => kernel_rfl) (by rw [List.getElem?_toArray]; rfl) (by rfl) (by rfl) (fun v => v = Value.tuple #[.agg #[.int .i64 (chooseF l ms pool2 sty2).1, .int .i64 (chooseF l ms pool2 sty2).2.1, .int .i64 (chooseF l ms pool2 sty2).2.2.1, .int .i64 (chooseF l ms pool2 sty2).2.2.2], .int .i64 0]) (fun _ w' => BxM (some q) w2.heap.size w') (fun w1 hS1 hJ1 => ?_) ?_
              · refine Eff.call (f := 45) (args := #[.agg #[.int .i64 (n : Int), .slice A1 l.length c1, .int .i64 root, .int .i64 l0, .int .i64 l1, .slice M1 ms.length cm1], .agg #[.slice P2 pool2.length pc2, .slice none 0 0, .slice none 0 0, .int .i64 sty2]]) (by go_simp) ((pchoose_any n A1 l c1 root l0 l1 M1 ms cm1 P2 pool2 pc2 sty2 w1 (Hrp.out.below hS1) (Hrm.out.below hS1) HOk.out (by omega) hll Htn.out (Hp2.out.below (Hnb.out w1 hS1)) hpl2 Ha2.out h2a h2b).mono ?_)
                rintro e w' ⟨rfl, hb⟩
                exact ⟨_, rfl, hS1.trans (hb.mono hS1.size), rfl, BxM.below hJ1 hb⟩
              rintro _ rfl
              rw [show List.erase [5, 6, 7, 8, 10, 11] 5 = [6, 7, 8, 10, 11] from rfl]; simp only [Act.put, List.setIfInBounds_toArray, List.set_cons_zero, List.set_cons_succ]
              refine TxtT.pure 6 (by rfl) (by rw [List.getElem?_toArray]; rfl) (by rfl) (by as_aux_lemma => kernel_rfl) (by rfl) ?_; apply Exists.intro; refine ⟨fun w1 hS1 => ?_, ?_⟩; (focus (skip; go_simp; with_reducible rfl))
              rw [show List.erase [6, 7, 8, 10, 11] 6 = [7, 8, 10, 11] from rfl]; simp only [Act.put, List.setIfInBounds_toArray, List.set_cons_zero, List.set_cons_succ]
              refine TxtT.pure 7 (by rfl) (by rw [List.getElem?_toArray]; rfl) (by rfl) (by as_aux_lemma => kernel_rfl) (by rfl) ?_; apply Exists.intro; refine ⟨fun w1 hS1 => ?_, ?_⟩; (focus (skip; go_simp; with_reducible rfl))
              rw [show List.erase [7, 8, 10, 11] 7 = [8, 10, 11] from rfl]; simp only [Act.put, List.setIfInBounds_toArray, List.set_cons_zero, List.set_cons_succ]
              refine TxtT.pure 8 (by rfl) (by rw [List.getElem?_toArray]; rfl) (by rfl) (by as_aux_lemma => kernel_rfl) (by rfl) ?_; apply Exists.intro; refine ⟨fun w1 hS1 => ?_, ?_⟩; (focus (skip; go_simp; with_reducible rfl))
              rw [show List.erase [8, 10, 11] 8 = [10, 11] from rfl]; simp only [Act.put, List.setIfInBounds_toArray, List.set_cons_zero, List.set_cons_succ]
              refine TxtT.one 10 (by as_aux_lemma => kernel_rfl) (by rw [List.getElem?_toArray]; rfl) (by rfl) (by rfl) (fun v => v = undef) (fun _ w' => w2.heap.size ≤ q ∧ Blk w' q 89 #[.int .i64 (chooseF l ms pool2 sty2).1, .int .i64 (chooseF l ms pool2 sty2).2.1, .int .i64 (chooseF l ms pool2 sty2).2.2.1, .int .i64 (chooseF l ms pool2 sty2).2.2.2]) (fun w1 hS1 hJ1 => ?_) ?_
              · obtain ⟨hq, hk⟩ := hJ1 q rfl
                obtain ⟨g0, g1, g2, g3, f0, f1, f2, f3⟩ := mvC hk
                exact Eff.skip (w' := (((w1.setCell ⟨q, 0, none⟩ (.int .i64 (chooseF l ms pool2 sty2).1)).setCell ⟨q, 1, none⟩ (.int .i64 (chooseF l ms pool2 sty2).2.1)).setCell ⟨q, 2, none⟩ (.int .i64 (chooseF l ms pool2 sty2).2.2.1)).setCell ⟨q, 3, none⟩ (.int .i64 (chooseF l ms pool2 sty2).2.2.2)) (by go_simp) ⟨below_set4 hS1 hq _ _ _ _, rfl, hq, set4 hk _ _ _ _⟩
              rintro _ rfl
              rw [show List.erase [10, 11] 10 = [11] from rfl]; simp only [Act.put]
              refine TxtT.pure 11 (by rfl) (by rw [List.getElem?_toArray]; rfl) (by rfl) (by as_aux_lemma => kernel_rfl) (by rfl) ?_; apply Exists.intro; refine ⟨fun w1 hS1 => ?_, ?_⟩; (focus (skip; go_simp; with_reducible rfl))
              rw [show List.erase [11] 11 = [] from rfl]; simp only [Act.put, List.setIfInBounds_toArray, List.set_cons_zero, List.set_cons_succ]
              refine ⟨rfl, fun w1 hS1 hJ1 => ?_⟩
              go_wp2_with fail
              go_meet
              exact ⟨q, rfl, rfl, hJ1.1, hJ1.2, hS1⟩
          obtain ⟨q, rfl, rfl, hq, hkq, hb3⟩ := hcut
          clear a0 a1 a2 a3 a4 a5 a6 a7 e0 e1 e2 e3 e4 e5
          have hS3 := HS2.out.below hB2 hb3
          have hB3 := Nat.le_trans hB2 hb3.size
          obtain ⟨e0, e1, e2, e3, e4, e5⟩ := dgC hS3.blk
          obtain ⟨u0, u1, u2, u3, _, _, _, _⟩ := mvC hkq
          clear HS2 hb3 hkq Hrp Hrm
          go_wp2_with fail
          refine (apply_any n A1 l c1 root l0 l1 M1 ms cm1 (chooseF l ms pool2 sty2) wc hS3.rp HA1.out Hv.out hS3.rm HOk.out (by omega) hll Htn.out Hmay.out).mono ?_
          rintro e w4 ⟨A4, c4, M4, cm4, rfl, ho4, hm4, hb4⟩
          have hS4 := hS3.below hB3 hb4
          clear e0 e1 e2 e3 e4 e5 u0 u1 u2 u3
          obtain ⟨e0, e1, e2, e3, e4, e5⟩ := dgC hS4.blk
          obtain ⟨f0, f1, f2, f3, f4, f5⟩ := dgF hS4.blk
          have hl1 : (ms ++ [(chooseF l ms pool2 sty2)]).length = ms.length + 1 := by simp
          have hA4 : A4 = none → l = [] ∧ c4 = 0 := fun en => by
            obtain ⟨A', c', e', _, hn⟩ := OwnP.form2 ho4
            injection e' with e1 _ e2
            subst e1 e2
            exact hn en
          have hb6 := set6 hS4.blk (.int .i64 (n : Int)) (.slice A4 l.length c4) (.int .i64 root) (.int .i64 l0) (.int .i64 l1) (.slice M4 (ms.length + 1) cm4)
          have Hlw := Lib.hid (lenW_eq (dgC hb6).2.2.2.2.2)
          have Hlo := Lib.hid (lenW_eq e5')
          have HNew := Lib.hid (show RunS w.heap.size wb.heap.size wb n l root l0 l1 (ms ++ [(chooseF l ms pool2 sty2)]) A4 c4 M4 cm4 ((((((w4.setCell ⟨w.heap.size, 0, none⟩ (.int .i64 (n : Int))).setCell ⟨w.heap.size, 1, none⟩ (.slice A4 l.length c4)).setCell ⟨w.heap.size, 2, none⟩ (.int .i64 root)).setCell ⟨w.heap.size, 3, none⟩ (.int .i64 l0)).setCell ⟨w.heap.size, 4, none⟩ (.int .i64 l1)).setCell ⟨w.heap.size, 5, none⟩ (.slice M4 (ms.length + 1) cm4)) from
            ⟨by rw [hl1]; exact hb6, own_set6 (ownsRow_mono ho4 hB3) (by omega) .., own_set6 (OwnM.mono hm4 hB3) (by omega) .., near_set6 hS4.near ..⟩)
          have HA4 := Lib.hid hA4
          clear hS3 hS4 ho4 hm4 hb4 hb6 hA4 hl1 e5'
          go_wp2_with fail
          go_roundw
          case rel => exact ⟨_, _, f', A4, c4, M4, cm4, rfl, Hok'.out, by rw [← Hstep.out]; exact Hrun.out, by simp; omega, by simp; omega, HA4.out, HNew.out⟩
          case measure =>
            rw [Hlw.out, Hlo.out]; omega
end Go.Proofs.YthkknlnfdckdfaaGreatDoor
