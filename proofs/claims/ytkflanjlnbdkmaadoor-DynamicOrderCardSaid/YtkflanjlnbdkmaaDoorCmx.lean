/- graph.Components: the search for the next component. -/
import Derived.Test.YtkflanjlnbdkmaaDoorCmw
namespace Go.Proofs.YtkflanjlnbdkmaaDoor
open Go.ChangeShapes Go.WideShapes Go.ChangeAt Go.RowKit Go.Sort

/-- the variables that the search captures: the masks of the attackers, and what is left -/
structure Cap2 (w : World) (gI p1 p2 n : Nat) (m : Nat → Nat) (rest : Nat) : Prop where
  c1 : w.cell? ⟨p1, 0, none⟩ = some (.slice (some ⟨gI, 0, none⟩) n n)
  c2 : w.cell? ⟨p2, 0, none⟩ = some (.int .u64 (rest : Nat))
  row : w.rowIs gI 70 n (fun i => .int .u64 (m i : Nat))
theorem Cap2.below {w w' : World} {gI p1 p2 n : Nat} {m : Nat → Nat} {rest : Nat} (h : Cap2 w gI p1 p2 n m rest) (hb : Below w.heap.size w w') : Cap2 w' gI p1 p2 n m rest :=
  ⟨(hb.cell (p := ⟨p1, 0, none⟩) (lt_of_cell h.c1)).trans h.c1, (hb.cell (p := ⟨p2, 0, none⟩) (lt_of_cell h.c2)).trans h.c2, rowIs_new h.row hb⟩
/-- an attacker outside, in what is left -/
def outB (m : Nat → Nat) (rest set : Nat) (i : Int) : Bool := minusN (m i.toNat &&& rest) set != 0

set_option maxHeartbeats 1000000 in
theorem comps3_any {gI p1 p2 p3 n i rest set : Nat} {m : Nat → Nat} {w : World} (hi : i < n) (hC : Cap2 w gI p1 p2 n m rest) (c3 : w.cell? ⟨p3, 0, none⟩ = some (.int .u64 (set : Nat)))
    (hm : m i < 18446744073709551616) (hr : rest < 18446744073709551616) (hs : set < 18446744073709551616) :
    Calls Tryd.prog 58 #[.int .i64 (i : Int), .pointer (some ⟨p1, 0, none⟩), .pointer (some ⟨p2, 0, none⟩), .pointer (some ⟨p3, 0, none⟩)] w (RetQ (.bool (outB m rest set i)) w) := by
  obtain ⟨c1, c2, row⟩ := hC
  have ci := World.rowIs.cell row hi
  have ha : m i &&& rest < 18446744073709551616 := Nat.lt_of_le_of_lt Nat.and_le_left hm
  have h1 := u64_and_nat (m i) rest hm hr
  have h2 := u64_minus (m i &&& rest) set ha hs
  have hv : outB m rest set (i : Int) = (((minusN (m i &&& rest) set : Nat) : Int) != 0) := by
    unfold outB
    rw [Int.toNat_natCast, Bool.eq_iff_iff, bne_iff_ne, bne_iff_ne]
    omega
  have Hv := Lib.hid hv
  have hi0 : (0 : Int) ≤ (i : Int) := by omega
  have hi1 : (i : Int) < (n : Int) := by omega
  clear hv hm ha row
  generalize minusN (m i &&& rest) set = y at *
  generalize m i &&& rest = x at *
  generalize m i = z at *
  go_enter Tryd.func58, Tryd.ntmps58
  go_wp2_with fail
  go_quiet (fail)
  go_wp2_with fail
  go_ret
  exact ⟨rb Hv.out.symm, nq, rfl⟩

def RetIy (b : Bool) (w : World) : Ending → World → Prop := fun e w' => ∃ i : Int, e = .returned (.int .i64 i) ∧ decide (0 ≤ i) = b ∧ Below w.heap.size w w'
theorem any_stepY {α : Type} (p : α → Bool) (L : List α) {k : Nat} (h : k < L.length) : (L.take (k + 1)).any p = ((L.take k).any p || p L[k]) := by
  rw [List.take_succ_eq_append_getElem h, List.any_append]; simp

set_option maxHeartbeats 1000000 in
theorem idxC_any {gI p1 p2 p3 n rest set : Nat} {m : Nat → Nat} {w : World} (A : Option Addr) (L : List Int) (c : Nat) (hL : RI w A L) (hn : ∀ x ∈ L, ∃ i : Nat, x = i ∧ i < n) (hl : L.length ≤ 100000) (hC : Cap2 w gI p1 p2 n m rest) (c3 : w.cell? ⟨p3, 0, none⟩ = some (.int .u64 (set : Nat)))
    (hm : ∀ i, m i < 18446744073709551616) (hr : rest < 18446744073709551616) (hs : set < 18446744073709551616) :
    Calls Tryd.prog 79 #[.slice A L.length c, .func (.func 58) #[] #[.pointer (some ⟨p1, 0, none⟩), .pointer (some ⟨p2, 0, none⟩), .pointer (some ⟨p3, 0, none⟩)]] w (RetIy (L.any (outB m rest set)) w) := by
  have Hn := Lib.hid hn; have Hm := Lib.hid hm; have HC := Lib.hid hC; have HL := Lib.hid hL; have C3 := Lib.hid c3
  clear hn hm hC hL c3
  go_enter Tryd.func79, Tryd.ntmps79
  go_wp2_with fail
  go_loopw [8] (fun i wr => ∃ k : Nat, k ≤ L.length ∧ i = .int .i64 k ∧ (L.take k).any (outB m rest set) = false ∧ Below w.heap.size w wr) (fun i _ => L.length - (intOf i).toNat)
  case atStart => exact ⟨0, Nat.zero_le _, rfl, by simp, Below.refl _ _⟩
  case round =>
    obtain ⟨k, hk, rfl, hi, hbl⟩ := hrel
    have Hi := Lib.hid hi; clear hi
    by_cases hlt : k < L.length
    case neg =>
      have hall : L.any (outB m rest set) = false := by have := Hi.out; rwa [List.take_of_length_le (by omega)] at this
      have Hall := Lib.hid hall
      clear hall
      go_wp2_with fail
      go_ret
      exact ⟨_, rfl, by rw [Hall.out]; rfl, hbl⟩
    case pos =>
    obtain ⟨b, o, rfl, hce⟩ := (HL.out.below hbl).at_ hlt
    obtain ⟨j, hj, hjn⟩ := Hn.out _ (List.getElem_mem hlt)
    have hstp := any_stepY (outB m rest set) L hlt
    rw [Hi.out, Bool.false_or] at hstp
    have hany : outB m rest set L[k] = true → L.any (outB m rest set) = true := fun h => List.any_eq_true.2 ⟨_, List.getElem_mem hlt, h⟩
    rw [hj] at hce hstp hany
    have hb := comps3_any hjn (HC.out.below hbl) ((hbl.cell (p := ⟨p3, 0, none⟩) (lt_of_cell C3.out)).trans C3.out) (Hm.out j) hr hs
    have Hb := Lib.hid hb; have Hstp := Lib.hid hstp; have Hany := Lib.hid hany
    clear hb hstp hany hj
    go_wp2_with fail
    refine Hb.out.mono ?_
    rintro e w1 ⟨rfl, nq, rfl⟩
    have hb1 := below_drewN hbl nq
    cases hp : outB m rest set (j : Int)
    · have Hp := Lib.hid hp; clear hp
      go_wp2_with fail
      go_roundw
      case rel => exact ⟨k + 1, by omega, by go_num, by rw [Hstp.out]; exact Hp.out, hb1⟩
      case measure => simp [intOf]; omega
    · have Hp := Lib.hid (Hany.out hp); clear hp
      go_wp2_with fail
      go_ret
      exact ⟨_, rfl, by rw [Hp.out]; simp, hb1⟩
set_option maxHeartbeats 1000000 in
theorem conC_any {gI p1 p2 p3 n rest set : Nat} {m : Nat → Nat} {w : World} (A : Option Addr) (L : List Int) (c : Nat) (hL : RI w A L) (hn : ∀ x ∈ L, ∃ i : Nat, x = i ∧ i < n) (hl : L.length ≤ 100000) (hC : Cap2 w gI p1 p2 n m rest) (c3 : w.cell? ⟨p3, 0, none⟩ = some (.int .u64 (set : Nat)))
    (hm : ∀ i, m i < 18446744073709551616) (hr : rest < 18446744073709551616) (hs : set < 18446744073709551616) :
    Calls Tryd.prog 56 #[.slice A L.length c, .func (.func 58) #[] #[.pointer (some ⟨p1, 0, none⟩), .pointer (some ⟨p2, 0, none⟩), .pointer (some ⟨p3, 0, none⟩)]] w (RetB (.bool (L.any (outB m rest set))) w) := by
  have H := Lib.hid (idxC_any A L c hL hn hl hC c3 hm hr hs)
  clear hL hn hC c3 hm
  go_enter Tryd.func56, Tryd.ntmps56
  go_wp2_with fail
  refine H.out.mono ?_
  rintro e w1 ⟨i, rfl, hi, hb⟩
  have Hi := Lib.hid hi
  clear hi
  obtain ⟨r, hr⟩ : ∃ r, decide (0 ≤ i) = r := ⟨_, rfl⟩
  cases r
  all_goals
    have Hr := Lib.hid hr
    go_wp2_with fail
    go_ret
    exact ⟨rb (by rw [← Hi.out, Hr.out]), hb⟩

set_option maxHeartbeats 1000000 in
theorem comps2_any {gI p1 p2 n rest set : Nat} {m : Nat → Nat} {w : World} (hn40 : n ≤ 40) (hset : set < 2 ^ n) (hC : Cap2 w gI p1 p2 n m rest) (hm : ∀ i, m i < 18446744073709551616) (hr : rest < 18446744073709551616) (hT : Tab w) :
    Calls Tryd.prog 55 #[.int .u64 (set : Nat), .pointer (some ⟨p1, 0, none⟩), .pointer (some ⟨p2, 0, none⟩)] w (RetB (.bool (!(nodesB 64 set.testBit).any (outB m rest set))) w) := by
  have hs := u64_of hn40 hset
  have hmf : ∀ fn first cap w, (Instr.makeFunc fn first cap).run Tryd.prog w = .ok (.func fn first cap) w := fun _ _ _ _ => rfl
  have Hm := Lib.hid hm; clear hm
  go_enter Tryd.func55, Tryd.ntmps55
  go_wp2_with fail
  have k0 := Blk.new w 70 #[.int .u64 (set : Nat)]
  have hb0 := newB w (.cells #[.int .u64 (set : Nat)] 70)
  have hC0 := hC.below hb0
  have hT0 := hT.below hb0
  generalize w.alloc (.cells #[.int .u64 (set : Nat)] 70) = W0 at *
  have c0 : W0.cell? ⟨w.heap.size, 0, none⟩ = some (.int .u64 (set : Nat)) := by rw [k0.cell]; rfl
  refine (glist_any set hs W0 hT0).mono ?_
  rintro e w1 ⟨A, c, rfl, ho, hri, _, hb1⟩
  have hC1 := hC0.below hb1
  have c1 := (hb1.cell (p := ⟨w.heap.size, 0, none⟩) (lt_of_cell c0)).trans c0
  have hn : ∀ x ∈ nodesB 64 set.testBit, ∃ i : Nat, x = i ∧ i < n := fun x hx => by
    obtain ⟨a, _, ha, rfl⟩ := mem_nodesB.1 hx
    exact ⟨a, rfl, has_lt hset ha⟩
  have hl := nodesB_length 64 set.testBit
  have H := Lib.hid (conC_any A (nodesB 64 set.testBit) c hri hn (by omega) hC1 c1 Hm.out hr hs)
  have hbb := endB hb0 hb1
  clear hC hC0 hC1 hn hl hri ho hb0 hb1 hT hT0 k0
  generalize nodesB 64 set.testBit = L at *
  go_wp2_with fail
  refine H.out.mono ?_
  rintro e w2 ⟨rfl, hb2⟩
  go_wp2_with fail
  go_ret
  exact ⟨rfl, endB hbb hb2⟩

set_option maxHeartbeats 1000000 in
theorem idxK_any {gI p1 p2 n rest g c k : Nat} {m : Nat → Nat} {F : List Nat} {w : World} (hn40 : n ≤ 40) (hF : ∀ f ∈ F, f < 2 ^ n) (hl : F.length ≤ 1000) (hH : HU w g F) (hgw : g < w.heap.size) (hC : Cap2 w gI p1 p2 n m rest) (hm : ∀ i, m i < 18446744073709551616) (hr : rest < 18446744073709551616) (hT : Tab w)
    (hk : k < F.length) (hok : (!(nodesB 64 F[k].testBit).any (outB m rest F[k])) = true) (hno : ∀ j (hj : j < k), (!(nodesB 64 F[j].testBit).any (outB m rest F[j])) = false) :
    Calls Tryd.prog 54 #[.slice (some ⟨g, 0, none⟩) F.length c, .func (.func 55) #[] #[.pointer (some ⟨p1, 0, none⟩), .pointer (some ⟨p2, 0, none⟩)]] w (RetB (.int .i64 (k : Nat)) w) := by
  have HF := Lib.hid hF; have Hm := Lib.hid hm; have HC := Lib.hid hC; have HH := Lib.hid hH; have Hok := Lib.hid hok; have Hno := Lib.hid hno
  clear hF hm hC hH hok hno
  go_enter Tryd.func54, Tryd.ntmps54
  go_wp2_with fail
  go_loopw [8] (fun i wr => ∃ j : Nat, j ≤ k ∧ i = .int .i64 j ∧ Below w.heap.size w wr) (fun i _ => F.length - (intOf i).toNat)
  case atStart => exact ⟨0, Nat.zero_le _, rfl, Below.refl _ _⟩
  case round =>
    obtain ⟨j, hj, rfl, hbl⟩ := hrel
    have hlt : j < F.length := by omega
    have hH := HH.out.block (hbl.block g hgw)
    have hce := hH.cell hlt
    have hb := comps2_any hn40 (HF.out _ (List.getElem_mem hlt)) (HC.out.below hbl) Hm.out hr (hT.below hbl)
    have Hb := Lib.hid hb
    clear hb hH
    by_cases hjk : j = k
    case pos =>
      subst hjk
      have Hv := Lib.hid (Hok.out)
      go_wp2_with fail
      refine Hb.out.mono ?_
      rintro e w1 ⟨rfl, hb1⟩
      rw [Hv.out]
      have hbb := endB hbl hb1
      clear hce Hb Hv Hok Hno
      go_wp2_with fail
      go_ret
      exact ⟨rfl, hbb⟩
    case neg =>
      have hjk' : j < k := by omega
      have Hv := Lib.hid (Hno.out j hjk')
      clear hjk
      go_wp2_with fail
      refine Hb.out.mono ?_
      rintro e w1 ⟨rfl, hb1⟩
      rw [Hv.out]
      have hbb := endB hbl hb1
      clear hce Hb Hv Hok Hno
      go_wp2_with fail
      go_roundw
      case rel => exact ⟨j + 1, by omega, by go_num, hbb⟩
      case measure => simp [intOf]; omega
end Go.Proofs.YtkflanjlnbdkmaaDoor
