/- slices.IndexFunc, DeleteFunc, MinFunc at moves, with the closures of package participant. -/
import Derived.Test.YthkknlnfdckdfaaPn1
import Derived.Lib.SliceRun
import Derived.Laws.IdiomCopy
namespace Go.Proofs.Ythkknlnfdckdfaa
open Go.ChangeShapes Go.WideShapes Go.ChangeAt Go.RowKit

/-- a row of moves that can be written -/
structure MRow (w : World) (g o n : Nat) (f : Nat → Mv) : Prop where
  c : ∀ k, k < n → w.cell? ⟨g, o + k * 4, none⟩ = some (.int .i64 (f k).1) ∧ w.cell? ⟨g, o + k * 4 + 1, none⟩ = some (.int .i64 (f k).2.1) ∧ w.cell? ⟨g, o + k * 4 + 2, none⟩ = some (.int .i64 (f k).2.2.1) ∧ w.cell? ⟨g, o + k * 4 + 3, none⟩ = some (.int .i64 (f k).2.2.2)
  fz : ∀ i, w.frozen? ⟨g, i, none⟩ = false
  lt : g < w.heap.size
theorem frozen_below {w w' : World} {B g i : Nat} (hb : Below B w w') (hg : g < B) (h : w.frozen? ⟨g, i, none⟩ = false) : w'.frozen? ⟨g, i, none⟩ = false := by
  unfold World.frozen? at h ⊢
  rw [show w'.heap[g]? = w.heap[g]? from hb.block g hg]; exact h
theorem MRow.below {w w' : World} {g o n : Nat} {f : Nat → Mv} (h : MRow w g o n f) (hb : Below w.heap.size w w') : MRow w' g o n f :=
  ⟨fun k hk => by
    obtain ⟨h0, h1, h2, h3⟩ := h.c k hk
    exact ⟨(hb.cell (lt_of_cell h0)).trans h0, (hb.cell (lt_of_cell h1)).trans h1, (hb.cell (lt_of_cell h2)).trans h2, (hb.cell (lt_of_cell h3)).trans h3⟩,
   fun i => frozen_below hb h.lt (h.fz i), Nat.lt_of_lt_of_le h.lt hb.size⟩
theorem cell_co {w : World} {g y z : Nat} {v : Value} (h : y ≠ z) : (w.setCell ⟨g, z, none⟩ v).cell? ⟨g, y, none⟩ = w.cell? ⟨g, y, none⟩ := World.cell?_setCell_other _ _ _ _ (fun e => by injection e with _ e _; exact h e.symm)
theorem MRow.set {w : World} {g o n : Nat} {f : Nat → Mv} (h : MRow w g o n f) {i : Nat} (hi : i < n) (m : Mv) :
    MRow ((((w.setCell ⟨g, o + i * 4, none⟩ (.int .i64 m.1)).setCell ⟨g, o + i * 4 + 1, none⟩ (.int .i64 m.2.1)).setCell ⟨g, o + i * 4 + 2, none⟩ (.int .i64 m.2.2.1)).setCell ⟨g, o + i * 4 + 3, none⟩ (.int .i64 m.2.2.2)) g o n (fun k => if k = i then m else f k) := by
  obtain ⟨i0, i1, i2, i3⟩ := h.c i hi
  refine ⟨fun k hk => ?_, fun j => by simp [h.fz j], by simpa using h.lt⟩
  obtain ⟨h0, h1, h2, h3⟩ := h.c k hk
  by_cases e : k = i
  · subst e
    simp only [if_true]
    refine ⟨?_, ?_, ?_, ?_⟩
    · rw [cell_co (by omega), cell_co (by omega), cell_co (by omega)]; exact World.cell?_setCell_same _ _ _ h0
    · rw [cell_co (by omega), cell_co (by omega)]; exact World.cell?_setCell_same _ _ _ (by rw [cell_co (by omega)]; exact h1)
    · rw [cell_co (by omega)]; exact World.cell?_setCell_same _ _ _ (by rw [cell_co (by omega), cell_co (by omega)]; exact h2)
    · exact World.cell?_setCell_same _ _ _ (by rw [cell_co (by omega), cell_co (by omega), cell_co (by omega)]; exact h3)
  · simp only [if_neg e]
    refine ⟨?_, ?_, ?_, ?_⟩
    · rw [cell_co (by omega), cell_co (by omega), cell_co (by omega), cell_co (by omega)]; exact h0
    · rw [cell_co (by omega), cell_co (by omega), cell_co (by omega), cell_co (by omega)]; exact h1
    · rw [cell_co (by omega), cell_co (by omega), cell_co (by omega), cell_co (by omega)]; exact h2
    · rw [cell_co (by omega), cell_co (by omega), cell_co (by omega), cell_co (by omega)]; exact h3
theorem MRow.of_own {w : World} {b g c : Nat} {ms : List Mv} (h : OwnM w b (.slice (some ⟨g, 0, none⟩) ms.length c) ms) : MRow w g 0 ms.length (mv ms) := by
  obtain ⟨A, c', e, hr, _, _⟩ := h.form
  injection e with e _ _
  subst e
  refine ⟨fun k hk => hr.cells hk, fun i => ?_, (World.ownsRow.lt h g rfl).2⟩
  obtain ⟨_, h2⟩ := h
  rcases h2 with ⟨e, _⟩ | ⟨g', cap, cur, e, hg, hh, _⟩
  · cases e
  · injection e with e _ _
    injection e with e
    injection e with e
    subst e
    simp [World.frozen?, hh]
theorem run_clear_mv (w : World) (ty : TypeId) (b o n c : Nat) (hn : 0 < n) (hc : ∀ j, j < n * 4 → (w.cell? ⟨b, o + j, none⟩).isSome = true) (hf : ∀ j, w.frozen? ⟨b, j, none⟩ = false) :
    (Builtin.clear_ #[32] ty #[.slice (some ⟨b, o, none⟩) n c]).run Try.prog w = .ok (.tuple #[]) (w.setCells b o (List.replicate (n * 4) (.int .i64 0))) := by
  have hzc : (Builtin.zeroCells (Value.agg #[.int .i64 0, .int .i64 0, .int .i64 0, .int .i64 0]).cells n).toList = List.replicate (n * 4) (.int .i64 0) := by
    simp only [Value.cells, Builtin.zeroCells]
    apply List.ext_getElem
    · simp
    · intro i h1 h2
      have : i % 4 = 0 ∨ i % 4 = 1 ∨ i % 4 = 2 ∨ i % 4 = 3 := by omega
      rcases this with e | e | e | e <;> simp [e]
  have hst := run_storeCells_cells (P := Try.prog) b o (List.replicate (n * 4) (.int .i64 0)) 0 w (by simpa using hc) (fun j _ => hf _) (by intro v hv'; rw [List.eq_of_mem_replicate hv']; rfl)
  simp only [Nat.add_zero] at hst
  obtain ⟨m, rfl⟩ : ∃ m, n = m + 1 := ⟨n - 1, by omega⟩
  have hu : Try.prog.underlying 32 = some (.slice 46) := Try.underlying32
  simp [Builtin.clear_, run_underlying hu, hzc, hst]
/-- what the closure of Choose reads -/
structure ChC (p : Nat) (P : Option Addr) (pool : List Int) (pc : Nat) (w : World) : Prop where
  c0 : w.cell? ⟨p, 0, none⟩ = some (.slice P pool.length pc)
  c1 : w.cell? ⟨p, 1, none⟩ = some (.slice none 0 0)
  ri : RI w P pool
theorem ChC.below {p : Nat} {P : Option Addr} {pool : List Int} {pc : Nat} {w w' : World} (h : ChC p P pool pc w) (hb : Below w.heap.size w w') : ChC p P pool pc w' :=
  ⟨(hb.cell (lt_of_cell h.c0)).trans h.c0, (hb.cell (lt_of_cell h.c1)).trans h.c1, h.ri.below hb⟩
set_option maxRecDepth 100000 in
theorem choose1_any (p : Nat) (P : Option Addr) (pool : List Int) (pc : Nat) (m : Mv) (w : World) (h : ChC p P pool pc w) (hl : pool.length ≤ 100000) :
    Calls Try.prog 47 #[.agg #[.int .i64 m.1, .int .i64 m.2.1, .int .i64 m.2.2.1, .int .i64 m.2.2.2], .pointer (some ⟨p, 0, none⟩)] w (RetB (.bool (!poolB pool m)) w) := by
  go_enter Try.func47, Try.ntmps47
  go_upto_region 1 with fail
  obtain ⟨W0, hW, k0, hb0, hs0⟩ := boxedA w 46 #[.int .i64 m.1, .int .i64 m.2.1, .int .i64 m.2.2.1, .int .i64 m.2.2.2]
  rw [hW]
  obtain ⟨y0, y1, y2, y3, _, _, _, _⟩ := mvC k0
  obtain ⟨c0, c1, hri⟩ := h.below hb0
  have Hb0 := Lib.hid hb0
  clear hW k0 hb0 hs0 h
  go_wp2_with fail
  refine (containsI_any P pool pc m.2.2.1 W0 hri hl).mono ?_
  rintro e w1 ⟨rfl, rfl⟩
  cases hin : inB pool m.2.2.1
  · have Hin := Lib.hid (show poolB pool m = false from hin)
    clear hin
    go_wp2_with fail
    go_ret
    exact ⟨rb (by rw [Hin.out]; rfl), Hb0.out⟩
  · have Hin := Lib.hid (show poolB pool m = true from hin)
    clear hin
    go_wp2_with fail
    refine (containsI_any none [] 0 m.2.2.1 W0 (RI.nil _ _) (by simp)).mono ?_
    rintro e w1 ⟨rfl, rfl⟩
    go_wp2_with fail
    go_ret
    exact ⟨rb (by rw [Hin.out]; rfl), Hb0.out⟩
/-- the place of the first move that is not in the pool -/
def IxS (pool : List Int) (ms : List Mv) (r : Int) : Prop := (r = -1 ∧ ∀ j, j < ms.length → poolB pool (mv ms j) = true) ∨ ∃ k : Nat, k < ms.length ∧ r = (k : Int) ∧ poolB pool (mv ms k) = false ∧ ∀ j, j < k → poolB pool (mv ms j) = true
set_option maxRecDepth 100000 in
set_option maxHeartbeats 1000000 in
theorem idxMF_any (p : Nat) (P : Option Addr) (pool : List Int) (pc g o c : Nat) (ms : List Mv) (w : World) (h : ChC p P pool pc w) (hl : pool.length ≤ 100000) (hr : MRow w g o ms.length (mv ms)) (hml : ms.length ≤ 1000000) :
    Calls Try.prog 60 #[.slice (some ⟨g, o, none⟩) ms.length c, .func (.func 47) #[] #[.pointer (some ⟨p, 0, none⟩)]] w (fun e w' => ∃ r : Int, e = .returned (.int .i64 r) ∧ IxS pool ms r ∧ Below w.heap.size w w') := by
  go_enter Try.func60, Try.ntmps60
  go_wp2_with fail
  go_loopw [8] (fun t wr => ∃ k : Nat, k ≤ ms.length ∧ t = .int .i64 k ∧ (∀ j, j < k → poolB pool (mv ms j) = true) ∧ Below w.heap.size w wr) (fun t _ => ms.length - (intOf t).toNat)
  case atStart => exact ⟨0, Nat.zero_le _, rfl, fun j hj => absurd hj (by omega), Below.refl _ _⟩
  case round =>
    obtain ⟨k, hk, rfl, hno, hbl⟩ := hrel
    have Hno := Lib.hid hno; clear hno
    by_cases hlt : k < ms.length
    case neg =>
      obtain rfl : k = ms.length := by omega
      go_wp2_with fail
      go_ret
      exact ⟨_, rfl, .inl ⟨rfl, Hno.out⟩, hbl⟩
    case pos =>
    obtain ⟨e0, e1, e2, e3⟩ := (hr.below hbl).c k hlt
    have hk0 : (0 : Int) ≤ (k : Int) := by omega
    have hk1 : (k : Int) < (ms.length : Int) := by omega
    have H := Lib.hid (choose1_any p P pool pc (mv ms k) wr (h.below hbl) hl)
    go_wp2_with fail
    refine H.out.mono ?_
    rintro e w1 ⟨rfl, hb1⟩
    have Hb1 := Lib.hid (endB hbl hb1)
    clear hb1 hbl
    cases hb : poolB pool (mv ms k)
    · have Hb := Lib.hid hb; clear hb
      go_wp2_with fail
      go_ret
      exact ⟨_, rfl, .inr ⟨k, hlt, rfl, Hb.out, Hno.out⟩, Hb1.out⟩
    · have Hb := Lib.hid hb; clear hb
      go_wp2_with fail
      go_roundw
      case rel => exact ⟨k + 1, by omega, by go_num, (fun j hj => by
        by_cases e : j = k
        · rw [e]; exact Hb.out
        · exact Hno.out j (by omega)), Hb1.out⟩
      case measure => simp [intOf]; omega
theorem filt_snoc (pool : List Int) (ms : List Mv) {j : Nat} (h : j < ms.length) : (ms.take (j + 1)).filter (poolB pool) = (ms.take j).filter (poolB pool) ++ (if poolB pool (mv ms j) = true then [mv ms j] else []) := by
  rw [List.take_succ_eq_append_getElem h, List.filter_append, mv_at h]
  by_cases e : poolB pool ms[j] = true
  · rw [if_pos e]; simp [e]
  · rw [if_neg e]; simp [e]
/-- the row while moves are taken out of it: i are kept of the first j -/
structure DelI (pool : List Int) (ms : List Mv) (i j : Nat) (f : Nat → Mv) : Prop where
  len : i = ((ms.take j).filter (poolB pool)).length
  lt : i < j
  le : j ≤ ms.length
  low : ∀ k, k < i → f k = mv ((ms.take j).filter (poolB pool)) k
  high : ∀ k, j ≤ k → k < ms.length → f k = mv ms k
theorem DelI.skip {pool : List Int} {ms : List Mv} {i j : Nat} {f : Nat → Mv} (h : DelI pool ms i j f) (hj : j < ms.length) (hb : poolB pool (mv ms j) = false) : DelI pool ms i (j + 1) f := by
  have e := filt_snoc pool ms hj
  rw [hb] at e
  simp only [Bool.false_eq_true, if_false, List.append_nil] at e
  exact ⟨by rw [e]; exact h.len, by have := h.lt; omega, hj, fun k hk => by rw [e]; exact h.low k hk, fun k hk1 hk2 => h.high k (by omega) hk2⟩
theorem DelI.keep {pool : List Int} {ms : List Mv} {i j : Nat} {f : Nat → Mv} (h : DelI pool ms i j f) (hj : j < ms.length) (hb : poolB pool (mv ms j) = true) : DelI pool ms (i + 1) (j + 1) (fun k => if k = i then mv ms j else f k) := by
  have e := filt_snoc pool ms hj
  rw [if_pos hb] at e
  have hl := h.len; have hlt := h.lt
  refine ⟨by rw [e, List.length_append, List.length_singleton, ← hl], by omega, hj, fun k hk => ?_, fun k hk1 hk2 => ?_⟩
  · rw [e]
    by_cases e2 : k = i
    · rw [if_pos e2, e2, hl, mv_last]
    · rw [if_neg e2, mv_app _ (by omega)]; exact h.low k (by omega)
  · rw [if_neg (by omega)]; exact h.high k (by omega) hk2
theorem DelI.start {pool : List Int} {ms : List Mv} {k : Nat} (hk : k < ms.length) (hb : poolB pool (mv ms k) = false) (hall : ∀ j, j < k → poolB pool (mv ms j) = true) : DelI pool ms k (k + 1) (mv ms) := by
  have e0 : ∀ q, q ≤ k → (ms.take q).filter (poolB pool) = ms.take q := fun q hq => List.filter_eq_self.2 fun x hx => by
    obtain ⟨j, hj, rfl⟩ := List.mem_iff_getElem.1 hx
    rw [List.length_take] at hj
    rw [List.getElem_take, ← mv_at (by omega)]
    exact hall j (by omega)
  have e := filt_snoc pool ms hk
  rw [hb] at e
  simp only [Bool.false_eq_true, if_false, List.append_nil] at e
  rw [e0 k (Nat.le_refl _)] at e
  refine ⟨by rw [e, List.length_take]; omega, by omega, hk, fun j hj => ?_, fun j _ _ => rfl⟩
  rw [e, mv_at (by omega), mv_at (by rw [List.length_take]; omega), List.getElem_take]
theorem below_sets {B b : Nat} {a : World} (hb : B ≤ b) : ∀ (vs : List Value) (o : Nat) (w : World), Below B a w → Below B a (w.setCells b o vs)
  | [], _, _, h => h
  | v :: vs, o, _, h => below_sets hb vs (o + 1) _ (h.setCell (p := ⟨b, o, none⟩) hb v)
set_option maxRecDepth 100000 in
set_option maxHeartbeats 2000000 in
theorem delMF_any (p : Nat) (P : Option Addr) (pool : List Int) (pc g o c B : Nat) (ms : List Mv) (w : World) (hB : B ≤ g) (hBw : B ≤ w.heap.size) (h : ∀ wr, Below B w wr → ChC p P pool pc wr) (hl : pool.length ≤ 100000) (hr : MRow w g o ms.length (mv ms)) (hml : ms.length ≤ 1000000) (hcap : ms.length ≤ c) :
    Calls Try.prog 45 #[.slice (some ⟨g, o, none⟩) ms.length c, .func (.func 47) #[] #[.pointer (some ⟨p, 0, none⟩)]] w (fun e w' => e = .returned (.slice (some ⟨g, o, none⟩) (ms.filter (poolB pool)).length c) ∧ RM w' (some ⟨g, o, none⟩) (ms.filter (poolB pool)) ∧ Below B w w') := by
  have Hh := Lib.hid h
  have Hix := Lib.hid (idxMF_any p P pool pc g o c ms w (h w (Below.refl _ _)) hl hr hml)
  have hcap' : (ms.length : Int) ≤ (c : Int) := by omega
  clear h
  go_enter Try.func45, Try.ntmps45
  go_wp2_with fail
  refine Hix.out.mono ?_
  rintro e w1 ⟨r, rfl, hs, hb1⟩
  have hr1 := hr.below hb1
  have hbB := hb1.mono hBw
  rcases hs with ⟨rfl, hall⟩ | ⟨k, hk, rfl, hbk, hall⟩
  · have hf : ms.filter (poolB pool) = ms := List.filter_eq_self.2 fun x hx => by
      obtain ⟨j, hj, rfl⟩ := List.mem_iff_getElem.1 hx
      rw [← mv_at hj]; exact hall j hj
    have Hf := Lib.hid hf
    clear hf hall
    go_wp2_with fail
    go_ret
    refine ⟨by rw [Hf.out]; rfl, ?_, hbB⟩
    rw [Hf.out]
    exact fun k hk => ⟨g, o, rfl, hr1.c k hk⟩
  · have hne : ((k : Int) == -1) = false := beq_eq_false_iff_ne.2 (by omega)
    have HI := Lib.hid (DelI.start hk hbk hall)
    clear hall hbk
    go_wp2_with fail
    go_loopw [5, 6] (fun s t wr => ∃ (i j : Nat) (f : Nat → Mv), s = .int .i64 i ∧ t = .int .i64 j ∧ DelI pool ms i j f ∧ MRow wr g o ms.length f ∧ Below B w wr) (fun _ t _ => ms.length - (intOf t).toNat)
    case atStart => exact ⟨k, k + 1, mv ms, rfl, by go_num, HI.out, hr1, hbB⟩
    case round =>
      clear hne HI hr1 hbB hb1 hr
      obtain ⟨i, j, f, rfl, rfl, hI, hrow, hbl⟩ := hrel
      have hij := hI.lt; have hjn := hI.le
      have HI := Lib.hid hI
      by_cases hlt : j < ms.length
      case neg =>
        obtain rfl : j = ms.length := by omega
        have hi1 : (i : Int) ≤ (ms.length : Int) := by omega
        have hi2 : (i : Int) ≤ (c : Int) := by omega
        have hi0 : (0 : Int) ≤ (i : Int) := by omega
        have hclr : ∀ ty, (Builtin.clear_ #[32] ty #[.slice (some ⟨g, o + i * 4, none⟩) (ms.length - i) (c - i)]).run Try.prog wr = .ok (.tuple #[]) (wr.setCells g (o + i * 4) (List.replicate ((ms.length - i) * 4) (.int .i64 0))) := fun ty =>
          run_clear_mv wr ty g (o + i * 4) (ms.length - i) (c - i) (by omega) (fun q hq => by
            have hk : i + q / 4 < ms.length := by omega
            obtain ⟨h0, h1, h2, h3⟩ := hrow.c _ hk
            have hm : q % 4 = 0 ∨ q % 4 = 1 ∨ q % 4 = 2 ∨ q % 4 = 3 := by omega
            rcases hm with hm | hm | hm | hm
            · rw [show o + i * 4 + q = o + (i + q / 4) * 4 by omega, h0]; rfl
            · rw [show o + i * 4 + q = o + (i + q / 4) * 4 + 1 by omega, h1]; rfl
            · rw [show o + i * 4 + q = o + (i + q / 4) * 4 + 2 by omega, h2]; rfl
            · rw [show o + i * 4 + q = o + (i + q / 4) * 4 + 3 by omega, h3]; rfl) hrow.fz
        have hfin : ∀ q, q < i → (wr.setCells g (o + i * 4) (List.replicate ((ms.length - i) * 4) (.int .i64 0))).cell? ⟨g, o + q * 4, none⟩ = some (.int .i64 (f q).1) ∧ (wr.setCells g (o + i * 4) (List.replicate ((ms.length - i) * 4) (.int .i64 0))).cell? ⟨g, o + q * 4 + 1, none⟩ = some (.int .i64 (f q).2.1) ∧ (wr.setCells g (o + i * 4) (List.replicate ((ms.length - i) * 4) (.int .i64 0))).cell? ⟨g, o + q * 4 + 2, none⟩ = some (.int .i64 (f q).2.2.1) ∧ (wr.setCells g (o + i * 4) (List.replicate ((ms.length - i) * 4) (.int .i64 0))).cell? ⟨g, o + q * 4 + 3, none⟩ = some (.int .i64 (f q).2.2.2) := fun q hq => by
          obtain ⟨h0, h1, h2, h3⟩ := hrow.c q (by omega)
          refine ⟨?_, ?_, ?_, ?_⟩ <;> (rw [World.cell?_setCells_out _ _ _ _ _ (fun _ _ => .inl (by dsimp only; omega))]; assumption)
        have Hfin := Lib.hid hfin
        have Hbs := Lib.hid (below_sets hB (List.replicate ((ms.length - i) * 4) (.int .i64 0)) (o + i * 4) wr hbl)
        have hlen := HI.out.len
        have hlow := HI.out.low
        rw [List.take_length] at hlen hlow
        have Hlen := Lib.hid hlen; have Hlow := Lib.hid hlow
        clear hfin hrow hI hlen hlow
        go_wp2_with fail
        go_ret
        rw [← Hlen.out]
        refine ⟨rfl, fun q hq => ⟨g, o, rfl, ?_⟩, Hbs.out⟩
        rw [← Hlen.out] at hq
        rw [← Hlow.out q hq]
        exact Hfin.out q hq
      case pos =>
      obtain ⟨e0, e1, e2, e3⟩ := hrow.c j hlt
      have hfj := hI.high j (Nat.le_refl _) hlt
      rw [hfj] at e0 e1 e2 e3
      have hj0 : (0 : Int) ≤ (j : Int) := by omega
      have hj1 : (j : Int) < (ms.length : Int) := by omega
      have hi0 : (0 : Int) ≤ (i : Int) := by omega
      have hi1 : (i : Int) < (ms.length : Int) := by omega
      go_upto_region 8 with fail
      obtain ⟨wa, hwa, ka, hba, hsa⟩ := boxedA wr 46 #[.int .i64 (mv ms j).1, .int .i64 (mv ms j).2.1, .int .i64 (mv ms j).2.2.1, .int .i64 (mv ms j).2.2.2]
      rw [hwa]
      obtain ⟨a0, a1, a2, a3, _, _, _, _⟩ := mvC ka
      have hbla : Below B w wa := hbl.trans (hba.mono (Nat.le_trans hBw hbl.size))
      have H := Lib.hid (choose1_any p P pool pc (mv ms j) wa (Hh.out wa hbla) hl)
      have hrowa := hrow.below hba
      clear hwa e0 e1 e2 e3 hrow hba hbl ka hI hfj
      generalize wr.heap.size = ga at *
      go_wp2_with fail
      refine H.out.mono ?_
      rintro e w2 ⟨rfl, hb2⟩
      have hrow2 := hrowa.below hb2
      have hbl2 : Below B w w2 := hbla.trans (hb2.mono (Nat.le_trans hBw hbla.size))
      have b0 := (hb2.cell (lt_of_cell a0)).trans a0
      have b1 := (hb2.cell (lt_of_cell a1)).trans a1
      have b2 := (hb2.cell (lt_of_cell a2)).trans a2
      have b3 := (hb2.cell (lt_of_cell a3)).trans a3
      clear a0 a1 a2 a3 hrowa hb2 hbla H
      cases hb : poolB pool (mv ms j)
      · have HI2 := Lib.hid (HI.out.skip hlt hb)
        have Hr2 := Lib.hid hrow2; have Hb2 := Lib.hid hbl2
        clear hrow2 hbl2 HI
        go_wp2_with fail
        go_roundw
        case rel => exact ⟨i, j + 1, f, rfl, by go_num, HI2.out, Hr2.out, Hb2.out⟩
        case measure => simp [intOf]; omega
      · have HI2 := Lib.hid (HI.out.keep hlt hb)
        obtain ⟨c0, c1, c2, c3⟩ := hrow2.c i (by omega)
        have f0 := hrow2.fz (o + i * 4)
        have f1 := hrow2.fz (o + i * 4 + 1)
        have f2 := hrow2.fz (o + i * 4 + 2)
        have f3 := hrow2.fz (o + i * 4 + 3)
        have Hr2 := Lib.hid (hrow2.set (i := i) (by omega) (mv ms j))
        have Hb2 := Lib.hid ((((hbl2.setCell (p := ⟨g, o + i * 4, none⟩) hB (.int .i64 (mv ms j).1)).setCell (p := ⟨g, o + i * 4 + 1, none⟩) hB (.int .i64 (mv ms j).2.1)).setCell (p := ⟨g, o + i * 4 + 2, none⟩) hB (.int .i64 (mv ms j).2.2.1)).setCell (p := ⟨g, o + i * 4 + 3, none⟩) hB (.int .i64 (mv ms j).2.2.2))
        clear hrow2 hbl2 HI
        go_wp2_with fail
        go_roundw
        case rel => exact ⟨i + 1, j + 1, _, by go_num, by go_num, HI2.out, Hr2.out, Hb2.out⟩
        case measure => simp [intOf]; omega
end Go.Proofs.Ythkknlnfdckdfaa
