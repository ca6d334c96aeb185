/- slices.Repeat of one number. -/
import Derived.Test.YtiljbfeipfdmdaaDoorRowA
import Derived.Laws.CopyOwn
import Derived.Deep.RegionLaw
import Derived.Laws.OwnMore
namespace Go.Proofs.YtiljbfeipfdmdaaDoor
open Go.ChangeShapes Go.WideShapes Go.ChangeAt Go.RowKit

set_option maxHeartbeats 1000000 in
theorem mul1_any (n : Nat) (hn : n ≤ 1000000) (w : World) : Calls Tryd.prog 107 #[.int .u64 1, .int .u64 (n : Int)] w (Ret (.tuple #[.int .u64 0, .int .u64 (n : Int)]) w) := by
  have e1 : bits .and .u64 (n : Int) 4294967295 = n := by
    have h := u64_and_nat n 4294967295 (by omega) (by omega)
    have h2 : n &&& 4294967295 = n := by
      rw [show 4294967295 = 2 ^ 32 - 1 by rfl, Nat.and_two_pow_sub_one_eq_mod]; omega
    rw [h2] at h; exact h
  have e2 : bits .and .u64 (1 : Int) 4294967295 = 1 := by kernel_rfl
  have e3 : (n : Int) / 4294967296 = 0 := by omega
  have e4 : bits .and .u64 (0 : Int) 4294967295 = 0 := by kernel_rfl
  go_enter Tryd.func107, Tryd.ntmps107
  go_wp2
  go_ret2
  exact ⟨rfl, rfl⟩

/-- v, m times, then zeros -/
def repC (v : Int) (m n : Nat) : List Value := List.replicate m (.int .i64 v) ++ List.replicate (n - m) (.int .i64 0)
theorem repC_length (v : Int) {m n : Nat} (h : m ≤ n) : (repC v m n).length = n := by simp [repC]; omega
theorem repC_splice (v : Int) {m k n : Nat} (h : m + k ≤ n) : splice (repC v m n) m (List.replicate k (.int .i64 v)) = repC v (m + k) n := by
  unfold splice repC
  rw [List.take_left' (by simp), List.drop_append]
  simp only [List.length_replicate, List.drop_replicate]
  have e1 : m - (m + k) = 0 := by omega
  rw [e1, List.replicate_zero, List.nil_append, ← List.append_assoc, List.replicate_append_replicate]
  congr 2
  omega
theorem repC_at {v : Int} {m n j : Nat} (h : j < m) : (repC v m n)[j]? = some (.int .i64 v) := by
  unfold repC
  rw [List.getElem?_append_left (by simpa using h)]
  simp [h]
theorem made_repC (v : Int) (n : Nat) : madeCells #[.int .i64 0] n = (repC v 0 n).toArray := by
  apply Array.toList_inj.1
  rw [toList_madeCells_one]
  simp [repC]

/-- the call returns a new slice of n numbers -/
def RetF (n : Nat) (f : Nat → Int) (w : World) : Ending → World → Prop := fun e w' => ∃ g, e = .returned (.slice (some ⟨g, 0, none⟩) n n) ∧ w.heap.size ≤ g ∧ Row w' g n f ∧ Below w.heap.size w w'
theorem Row.of_repC {w : World} {g n : Nat} {v : Int} {m : Nat} (h : w.heap[g]? = some (.cells (repC v m n).toArray 3 (0, 0))) (hm : n ≤ m) (hmn : m ≤ n) : Row w g n (fun _ => v) :=
  ⟨_, h, by simp [repC_length v hmn], fun i hi => by rw [List.getElem?_toArray]; exact repC_at (by omega)⟩
theorem one_int : (Tryd.prog.info? 3).map (·.size) = some 1 := by kernel_rfl

set_option maxRecDepth 100000 in
set_option maxHeartbeats 2000000 in
theorem repeat_any (A : Option Addr) (v : Int) (c n : Nat) (w : World) (hr : RI w A [v]) (hn : n ≤ 100000) :
    Calls Tryd.prog 64 #[.slice A 1 c, .int .i64 (n : Int)] w (RetF n (fun _ => v) w) := by
  obtain ⟨b, o, rfl, hc0⟩ := hr.at_ (k := 0) (by simp)
  have hd0 : w.cell? ⟨b, o, none⟩ = some (.int .i64 v) := hc0
  have hbw := lt_of_cell hd0
  have hmk := run_make_row' (P := Tryd.prog) 22 3 (.int .i64 0) 8 Tryd.underlying22 info_int rfl .i64 .i64 n (by omega) (by omega)
  clear hr hc0
  go_enter Tryd.func64, Tryd.ntmps64
  have hm1 : Nat.min 1 n ≤ 1 := Nat.min_le_left _ _
  have hm2 : Nat.min 1 n ≤ n := Nat.min_le_right _ _
  have Hw := Lib.hid hbw
  have hg0 : (w.alloc (.cells (madeCells #[.int .i64 0] n) 3)).heap[w.heap.size]? = some (.cells (repC v 0 n).toArray 3 (0, 0)) := by rw [made_repC v n]; exact heap_alloc_new w _
  have hb0 : Below w.heap.size w (w.alloc (.cells (madeCells #[.int .i64 0] n) 3)) := (Below.refl _ _).alloc (Nat.le_refl _) _
  have hd1 : (w.alloc (.cells (madeCells #[.int .i64 0] n) 3)).cell? ⟨b, o, none⟩ = some (.int .i64 v) := (hb0.cell (p := ⟨b, o, none⟩) hbw).trans hd0
  have Hg0 := Lib.hid hg0; have Hb0 := Lib.hid hb0; have Hd1 := Lib.hid hd1
  clear hg0 hb0 hd1 hbw
  go_wp2_with (first | (go_at_call 107; refine (mul1_any n (by omega) _).mono ?_; rintro e w' ⟨rfl, rfl⟩) | go_in | (refine wpList_copy_splice rfl (.tmp 31) (.tmp 32) 22 22 rfl 3 Tryd.underlying22 one_int (some ⟨w.heap.size, 0, none⟩) (some ⟨b, o, none⟩) n n 1 c (by rfl) (by rfl) w.heap.size 0 (repC v 0 n) 3 Hg0.out (List.replicate (Nat.min 1 n) (.int .i64 v)) (by simp) (fun _ => ⟨rfl, _, rfl, fun j u hu => ?c1⟩) ?c2 ?c3 w.heap.size w Hb0.out (Nat.le_refl _) ?c4; rotate_left 3; intro w2 HG2 hB2))
  case c1 =>
    have hj := (List.getElem?_eq_some_iff.1 hu).1
    rw [List.length_replicate] at hj
    have : j = 0 := by omega
    subst this
    rw [List.getElem?_replicate, if_pos (by omega)] at hu
    injection hu with hu
    subst hu
    simpa [Addr.add] using Hd1.out
  case c2 => rw [repC_length v (Nat.zero_le _), List.length_replicate]; omega
  case c3 => intro u hu; rw [(List.mem_replicate.1 hu).2]; rfl
  have h2 := HG2.out
  rw [repC_splice v (by omega), Nat.zero_add] at h2
  have H2 := Lib.hid h2
  have hb2w := hB2.size
  have h0n : 0 < n → 0 < Nat.min 1 n := fun h => by rw [Nat.lt_min]; omega
  have H0n := Lib.hid h0n
  clear HG2 h2 Hg0 Hb0 Hd1 hmk hd0 h0n
  go_loopw [8] (fun m wr => ∃ k : Nat, k ≤ n ∧ (0 < n → 0 < k) ∧ m = .int .i64 k ∧ wr.heap[w.heap.size]? = some (.cells (repC v k n).toArray 3 (0, 0)) ∧ Below w.heap.size w wr) (fun m _ => n - (intOf m).toNat)
  case atStart => exact ⟨Nat.min 1 n, hm2, H0n.out, rfl, H2.out, hB2⟩
  case round =>
    clear H2 hB2 hb2w H0n hm1 hm2
    obtain ⟨k, hk, hk0, rfl, hg, hb⟩ := hrel
    have Hg := Lib.hid hg; clear hg
    by_cases hlt : k < n
    case neg =>
      go_wp2_with fail
      go_ret
      have hkn : k = n := by omega
      subst hkn
      exact ⟨w.heap.size, rfl, Nat.le_refl _, Row.of_repC Hg.out (Nat.le_refl _) (Nat.le_refl _), hb⟩
    case pos =>
    have hpos := hk0 (by omega)
    have hmin1 : Nat.min k (n - k) ≤ k := Nat.min_le_left _ _
    have hmin2 : Nat.min k (n - k) ≤ n - k := Nat.min_le_right _ _
    have hmin3 : 0 < Nat.min k (n - k) := by rw [Nat.lt_min]; omega
    obtain ⟨q, hq⟩ : ∃ q, Nat.min k (n - k) = q := ⟨_, rfl⟩
    rw [hq] at hmin1 hmin2 hmin3
    have Hq := Lib.hid hq
    clear hk0 hq
    have hsrc : ∀ j u, (List.replicate q (Value.int .i64 v))[j]? = some u → wr.drew.cell? ((⟨w.heap.size, 0, none⟩ : Addr).add j) = some u := fun j u hu => by
      have hj := (List.getElem?_eq_some_iff.1 hu).1
      rw [List.length_replicate] at hj
      rw [List.getElem?_replicate, if_pos hj] at hu
      injection hu with hu
      subst hu
      rw [show (⟨w.heap.size, 0, none⟩ : Addr).add j = ⟨w.heap.size, j, none⟩ by unfold Addr.add; split <;> simp_all]
      show wr.cell? _ = _
      rw [cell_of_row wr w.heap.size j _ _ _ Hg.out, List.getElem?_toArray]
      exact repC_at (by omega)
    have hfit : k + (List.replicate q (Value.int .i64 v)).length ≤ (repC v k n).length := by rw [repC_length v hk, List.length_replicate]; omega
    have hone : ∀ u ∈ List.replicate q (Value.int .i64 v), u.oneCell' = true := fun u hu => by rw [(List.mem_replicate.1 hu).2]; rfl
    have hne : ¬ n = k := by omega
    have Hne := Lib.hid hne; have Hsrc := Lib.hid hsrc; have Hfit := Lib.hid hfit; have Hone := Lib.hid hone
    clear hne hsrc hfit hone
    go_wp2_with fail
    go_region_law (refine step_copy_splice rfl (.tmp 41) (.tmp 44) 22 22 rfl 3 Tryd.underlying22 one_int (some ⟨w.heap.size, k, none⟩) (some ⟨w.heap.size, 0, none⟩) (n - k) (n - k) k n (by simp [Act.eval, Act.put, Hne.out]) (by simp [Act.eval, Act.put]) w.heap.size k (repC v k n) 3 Hg.out (List.replicate q (.int .i64 v)) (by rw [List.length_replicate, Hq.out]) (fun _ => ⟨rfl, _, rfl, Hsrc.out⟩) Hfit.out Hone.out w.heap.size w (below_drewN hb 1) (Nat.le_refl _) ?_; intro w4 hg4 hb4)
    have hwr : IntKind.i64.wrap ((k : Int) + (q : Int)) = ((k + q : Nat) : Int) := by rw [IntKind.wrap_i64]; omega
    rw [hwr]
    clear hwr
    have h4 := hg4.out
    rw [repC_splice v (show k + q ≤ n by omega)] at h4
    have H4 := Lib.hid h4
    clear hg4 h4
    go_wp2_with fail
    go_roundw
    case rel => exact ⟨k + q, by omega, fun _ => by omega, by omega, H4.out⟩
    case measure => simp [intOf]; omega
end Go.Proofs.YtiljbfeipfdmdaaDoor
