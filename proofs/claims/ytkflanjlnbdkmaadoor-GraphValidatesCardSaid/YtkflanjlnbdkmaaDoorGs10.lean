/- graph.Same, keep.Cut. -/
import Derived.Test.YtkflanjlnbdkmaaDoorG10
namespace Go.Proofs.YtkflanjlnbdkmaaDoor
open Go.ChangeShapes Go.WideShapes Go.ChangeAt Go.RowKit

def eqP (l m : List (Int × Int)) : Bool := l == m
theorem eqP_iff {l m : List (Int × Int)} : eqP l m = true ↔ l = m := by simp [eqP]
set_option maxRecDepth 100000 in
set_option maxHeartbeats 2000000 in
theorem equalPr_any (A B : Option Addr) (l m : List (Int × Int)) (c d : Nat) (w : World) (hl : RP w A l) (hm : RP w B m) (hll : l.length ≤ 100000) (hml : m.length ≤ 100000) :
    Calls Tryd.prog 69 #[.slice A l.length c, .slice B m.length d] w (RetB (.bool (eqP l m)) w) := by
  by_cases h2 : l.length = m.length
  case neg =>
    have hf : eqP l m = false := by
      cases h : eqP l m
      · rfl
      · exact absurd (congrArg List.length (eqP_iff.1 h)) h2
    have Hf := Lib.hid hf
    have hd : ((l.length : Int) != (m.length : Int)) = true := by rw [bne_iff_ne]; omega
    clear hf h2
    go_enter Tryd.func69, Tryd.ntmps69
    go_wp2_with fail
    go_ret
    exact ⟨rb Hf.out.symm, Below.refl _ _⟩
  case pos =>
  have hd : ((l.length : Int) != (m.length : Int)) = false := by rw [bne_eq_false_iff_eq]; omega
  have H2 := Lib.hid h2
  clear h2
  go_enter Tryd.func69, Tryd.ntmps69
  go_wp2_with fail
  clear hd
  go_loopw [13] (fun t wr => ∃ (k : Nat), k ≤ l.length ∧ t = .int .i64 k ∧ l.take k = m.take k ∧ Below w.heap.size w wr) (fun t _ => l.length - (intOf t).toNat)
  case atStart => exact ⟨0, Nat.zero_le _, rfl, rfl, Below.refl _ _⟩
  case round =>
    obtain ⟨k, hk, rfl, ht, hbl⟩ := hrel
    have Ht := Lib.hid ht; clear ht
    by_cases hlt : k < l.length
    case neg =>
      have hall : eqP l m = true := eqP_iff.2 (by have := Ht.out; rwa [List.take_of_length_le (by omega), List.take_of_length_le (by rw [← H2.out]; omega)] at this)
      have Hall := Lib.hid hall
      clear hall
      go_wp2_with fail
      go_ret
      exact ⟨rb Hall.out.symm, hbl⟩
    case pos =>
    have hltm : k < m.length := by have := H2.out; omega
    obtain ⟨b, o, rfl, hc0, hc1⟩ := (hl.below hbl).at_ hlt
    obtain ⟨b', o', rfl, hc0', hc1'⟩ := (hm.below hbl).at_ hltm
    have hgd := run_gdP
    have hnx : l[k] = m[k] → l.take (k + 1) = m.take (k + 1) := fun h => by
      rw [List.take_succ_eq_append_getElem hlt, List.take_succ_eq_append_getElem hltm, Ht.out, h]
    have hno : l[k] ≠ m[k] → eqP l m = false := fun h => by
      cases h2 : eqP l m
      · rfl
      · have e := eqP_iff.1 h2; exact absurd (by subst e; rfl) h
    have Hnx := Lib.hid hnx; have Hno := Lib.hid hno
    have hlt' : (k : Int) < (l.length : Int) := by omega
    have hltm' : (k : Int) < (m.length : Int) := by omega
    clear hnx hno
    generalize l[k] = p1 at *
    generalize m[k] = p2 at *
    obtain ⟨x, y⟩ := p1
    obtain ⟨z, v⟩ := p2
    have heq := run_neqP x y z v
    by_cases he : x = z ∧ y = v
    · obtain ⟨rfl, rfl⟩ := he
      have Hx := Lib.hid (Hnx.out rfl)
      have hd : (!(x == x && y == y)) = false := by simp
      rw [hd] at heq
      clear hd
      go_wp2_with fail
      go_quiet (fail)
      clear heq hgd
      go_wp2_with fail
      go_roundw
      case rel => exact ⟨k + 1, by omega, by go_num, Hx.out, below_drewN hbl nq⟩
      case measure => simp [intOf]; omega
    · have Hx := Lib.hid (Hno.out (fun e => he (by injection e with a b; exact ⟨a, b⟩)))
      have hd : (!(x == z && y == v)) = true := by
        rw [Bool.not_eq_true', Bool.and_eq_false_iff, beq_eq_false_iff_ne, beq_eq_false_iff_ne]
        by_cases h : x = z
        · exact .inr (fun e => he ⟨h, e⟩)
        · exact .inl h
      rw [hd] at heq
      clear hd he
      go_wp2_with fail
      go_quiet (fail)
      clear heq hgd
      go_wp2_with fail
      go_ret
      exact ⟨rb Hx.out.symm, below_drewN hbl nq⟩
set_option maxRecDepth 100000 in
set_option maxHeartbeats 1000000 in
theorem gSame_any (A B : Option Addr) (N M : Int) (l m : List (Int × Int)) (c d : Nat) (w : World) (hl : RP w A l) (hm : RP w B m) (hll : l.length ≤ 100000) (hml : m.length ≤ 100000) :
    Calls Tryd.prog 38 #[.agg #[.int .i64 N, .slice A l.length c], .agg #[.int .i64 M, .slice B m.length d]] w (RetB (.bool (sameB N l M m)) w) := by
  by_cases h1 : N = M
  case neg =>
    have hf : sameB N l M m = false := by simp [sameB, h1]
    have Hf := Lib.hid hf
    have hd : (N == M) = false := by rw [beq_eq_false_iff_ne]; exact h1
    clear hf h1
    go_enter Tryd.func38, Tryd.ntmps38
    go_wp2_with fail
    go_ret
    exact ⟨rb Hf.out.symm, ((Below.refl _ _).alloc (Nat.le_refl _) _).alloc (by simp) _⟩
  case pos =>
  subst h1
  have hs : sameB N l N m = eqP l m := by simp [sameB, eqP]
  have Hs := Lib.hid hs
  have hd0 : (N == N) = true := by simp
  clear hs
  go_enter Tryd.func38, Tryd.ntmps38
  go_wp2_with fail
  obtain ⟨W0, hW, k0, k1, hb0, hlt0⟩ := boxed2 w 24 24 (.int .i64 N) (.slice A l.length c) (.int .i64 N) (.slice B m.length d)
  rw [hW]
  have h := equalPr_any A B l m c d W0 (hl.below hb0) (hm.below hb0) hll hml
  have H := Lib.hid h
  clear h hW hl hm k0 k1
  generalize eqP l m = q at *
  refine H.out.mono ?_
  rintro e w1 ⟨rfl, hb1⟩
  go_wp2_with fail
  go_ret
  exact ⟨rb Hs.out.symm, endB hb0 hb1⟩
/-- the call returns a graph by value whose pairs lie where they lay -/
def RetCut (A : Option Addr) (N : Int) (l : List (Int × Int)) (w : World) : Ending → World → Prop := fun e w' => ∃ c, e = .returned (.agg #[.int .i64 N, .slice A l.length c]) ∧ l.length ≤ c ∧ (A = none → l = [] ∧ c = 0) ∧ Below w.heap.size w w'
set_option maxRecDepth 100000 in
set_option maxHeartbeats 2000000 in
theorem cut_any (A : Option Addr) (N : Int) (l : List (Int × Int)) (c : Nat) (n : Nat) (w : World) (hlen : l.length ≤ 100000) (hlc : l.length ≤ c) (hc : c ≤ 9223372036854775807) (hn : A = none → l = [] ∧ c = 0) :
    Calls Tryd.prog 31 #[.agg #[.int .i64 N, .slice A l.length c], .int .i64 (n : Nat)] w (RetCut A (min N n) (l.take 60) w) := by
  obtain ⟨m, hm⟩ : ∃ m, min l.length 60 = m := ⟨_, rfl⟩
  have hm2 : (min (l.length : Int) 60) = (m : Int) := by omega
  have htl : (l.take 60).length = m := by rw [List.length_take]; omega
  have hml : m ≤ l.length := by omega
  have Htl := Lib.hid htl; have Hn := Lib.hid hn
  have hmc : m ≤ c := by omega
  clear htl hm hn
  have hbb : ∀ (x y : Value), Below w.heap.size w ((w.alloc (.cells #[x, y] 24)).alloc (.cells #[x, y] 24)) := fun x y => ((Below.refl _ _).alloc (Nat.le_refl _) _).alloc (by simp) _
  have Hbb := Lib.hid hbb
  clear hbb
  obtain ⟨M, hM⟩ : ∃ M, min N (n : Int) = M := ⟨_, rfl⟩
  have HM := Lib.hid hM
  obtain ⟨a, hA⟩ | hA : (∃ a, A = some a) ∨ A = none := by cases A <;> simp
  · subst hA
    by_cases hN : (n : Int) < N
    · obtain rfl : (n : Int) = M := by omega
      clear hM
      go_enter Tryd.func31, Tryd.ntmps31
      go_wp2_with fail
      refine bodyPost_ret (v := .agg #[.int .i64 (n : Int), .slice (some a) m c]) (by simp [results, Tryd.results31, go_sem]) rfl ?_
      rw [HM.out]
      exact ⟨c, by rw [Htl.out], by rw [Htl.out]; exact hmc, (fun e => by cases e), Hbb.out _ _⟩
    · obtain rfl : N = M := by omega
      clear hM
      go_enter Tryd.func31, Tryd.ntmps31
      go_wp2_with fail
      refine bodyPost_ret (v := .agg #[.int .i64 N, .slice (some a) m c]) (by simp [results, Tryd.results31, go_sem]) rfl ?_
      rw [HM.out]
      exact ⟨c, by rw [Htl.out], by rw [Htl.out]; exact hmc, (fun e => by cases e), Hbb.out _ _⟩
  · obtain ⟨hl0, hc0⟩ := Hn.out hA
    subst hA hl0 hc0
    have hm0 : m = 0 := by simpa using hml
    subst hm0
    have hm2 : min (0 : Int) 60 = 0 := by omega
    have hm3 : (min 0 60 : Int) ≤ 0 := by omega
    by_cases hN : (n : Int) < N
    · obtain rfl : (n : Int) = M := by omega
      clear hM
      go_enter Tryd.func31, Tryd.ntmps31
      go_wp2_with fail
      refine bodyPost_ret (v := .agg #[.int .i64 (n : Int), .slice none 0 0]) (by simp [results, Tryd.results31, go_sem]) rfl ?_
      rw [HM.out]
      exact ⟨0, rfl, Nat.le_refl _, (fun _ => ⟨rfl, rfl⟩), Hbb.out _ _⟩
    · obtain rfl : N = M := by omega
      clear hM
      go_enter Tryd.func31, Tryd.ntmps31
      go_wp2_with fail
      refine bodyPost_ret (v := .agg #[.int .i64 N, .slice none 0 0]) (by simp [results, Tryd.results31, go_sem]) rfl ?_
      rw [HM.out]
      exact ⟨0, rfl, Nat.le_refl _, (fun _ => ⟨rfl, rfl⟩), Hbb.out _ _⟩
end Go.Proofs.YtkflanjlnbdkmaaDoor
