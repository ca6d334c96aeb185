/- Layer 11's Sets: all sets of n nodes; slices of slices that the call has made. -/
import Derived.Test.YtiljbfeipfdmdaaDoorRef13c
namespace Go.Proofs.YtiljbfeipfdmdaaDoor
open Go.ChangeShapes Go.WideShapes Go.ChangeAt Go.RowKit

theorem i64_and1 (n : Int) : bits .and .i64 n 1 = n % 2 := by
  have h1 : (BitVec.ofInt 64 1).toNat = 2 ^ 1 - 1 := by decide
  have key : (BitVec.ofInt 64 n &&& BitVec.ofInt 64 1).toNat = (n % ((2 ^ 64 : Nat) : Int)).toNat % 2 ^ 1 := by
    rw [BitVec.toNat_and, BitVec.toNat_ofInt, h1, Nat.and_two_pow_sub_one_eq_mod]
  show IntKind.i64.wrap ((BitVec.ofInt 64 n &&& BitVec.ofInt 64 1).toNat : Nat) = n % 2
  rw [key, IntKind.wrap_i64]
  omega
theorem bit_of_shr (m i : Nat) : (bits .and .i64 ((m : Int) / 2 ^ i) 1 == 1) = m.testBit i := by
  rw [i64_and1, Nat.testBit_eq_decide_div_mod_eq]
  have e : ((m : Int) / 2 ^ i) % 2 = ((m / 2 ^ i % 2 : Nat) : Int) := by simp
  rw [e, Bool.eq_iff_iff]; simp; omega

/-- the values are slices of the call's own that hold the lists -/
def OwnL (w : World) (base : Nat) (xs : List Value) (ls : List (List Int)) : Prop :=
  xs.length = ls.length ∧ ∀ k, k < ls.length → ∃ A c, xs[k]? = some (.slice A (ls.getD k []).length c) ∧ OwnI w base (.slice A (ls.getD k []).length c) (ls.getD k [])
theorem OwnL.nil (w : World) (base : Nat) : OwnL w base [] [] := ⟨rfl, fun k hk => absurd hk (by simp)⟩
theorem OwnL.below {w w' : World} {base : Nat} {xs : List Value} {ls : List (List Int)} (h : OwnL w base xs ls) (hb : Below w.heap.size w w') : OwnL w' base xs ls :=
  ⟨h.1, fun k hk => by obtain ⟨A, c, h1, h2⟩ := h.2 k hk; exact ⟨A, c, h1, h2.below hb⟩⟩
theorem OwnL.snoc {w : World} {base : Nat} {xs : List Value} {ls : List (List Int)} {A : Option Addr} {l : List Int} {c : Nat} (h : OwnL w base xs ls) (hr : OwnI w base (.slice A l.length c) l) :
    OwnL w base (xs ++ [.slice A l.length c]) (ls ++ [l]) := by
  refine ⟨by simp [h.1], fun k hk => ?_⟩
  by_cases hk' : k < ls.length
  · obtain ⟨A', c', h1, h2⟩ := h.2 k hk'
    have e : (ls ++ [l]).getD k [] = ls.getD k [] := by simp only [List.getD]; rw [List.getElem?_append_left hk']
    rw [e]
    exact ⟨A', c', by rw [List.getElem?_append_left (by rw [h.1]; exact hk')]; exact h1, h2⟩
  · have hk2 : k = ls.length := by simp at hk; omega
    subst hk2
    have e : (ls ++ [l]).getD ls.length [] = l := by simp [List.getD]
    rw [e]
    exact ⟨A, c, by rw [← h.1]; simp, hr⟩
/-- a slice of numbers and a slice of slices never lie in one block -/
theorem OwnI.apart {w : World} {b b' : Nat} {v v' : Value} {l : List Int} {xs : List Value} (h : OwnI w b v l) (k : OwnS w b' v' xs) : v.ownBlock = none ∨ v.ownBlock ≠ v'.ownBlock := by
  obtain ⟨_, h2⟩ := h
  obtain ⟨_, k2⟩ := k
  rcases h2 with ⟨rfl, _⟩ | ⟨g, cap, cur, rfl, _, hg, _⟩
  · exact .inl rfl
  · rcases k2 with ⟨rfl, _⟩ | ⟨g', cap', cur', rfl, _, hg', _⟩
    · exact .inr (by simp [Value.ownBlock])
    · refine .inr fun e => ?_
      simp only [Value.ownBlock, Option.some.injEq] at e
      subst e
      rw [hg] at hg'
      simp only [Option.some.injEq, Obj.cells.injEq] at hg'
      exact absurd hg'.2.1 (by decide)
theorem OwnL.append {w w' : World} {base b' : Nat} {v : Value} {ys xs : List Value} {ls : List (List Int)} (h : OwnL w base xs ls) (hs : OwnS w b' v ys) (hg : w.grownBy w' v.ownBlock) : OwnL w' base xs ls :=
  ⟨h.1, fun k hk => by obtain ⟨A, c, h1, h2⟩ := h.2 k hk; exact ⟨A, c, h1, World.ownsRow.kept h2 hg (h2.apart hs)⟩⟩
/-- the slices that can be read from an address -/
def RSo (w : World) (A : Option Addr) (ls : List (List Int)) : Prop :=
  ∀ k (hk : k < ls.length), ∃ b o A' c', A = some ⟨b, o, none⟩ ∧ w.cell? ⟨b, o + k, none⟩ = some (.slice A' ls[k].length c') ∧ OwnI w 0 (.slice A' ls[k].length c') ls[k] ∧ RI w A' ls[k]
theorem RSo.below {w w' : World} {A : Option Addr} {ls : List (List Int)} (h : RSo w A ls) (hb : Below w.heap.size w w') : RSo w' A ls := by
  intro k hk
  obtain ⟨b, o, A', c', hA, hc, ho, hr⟩ := h k hk
  exact ⟨b, o, A', c', hA, (hb.cell (p := ⟨b, o + k, none⟩) (lt_of_cell hc)).trans hc, ho.below hb, hr.below hb⟩
theorem OwnI.ri {w : World} {b : Nat} {A : Option Addr} {l : List Int} {c : Nat} (h : OwnI w b (.slice A l.length c) l) : RI w A l := by
  obtain ⟨A', c', e, hr, _⟩ := h.form
  injection e with e1; subst e1; exact hr
theorem OwnS.forms {w : World} {b b' : Nat} {v : Value} {xs : List Value} {ls : List (List Int)} (h : OwnS w b v xs) (hl : OwnL w b' xs ls) : ∃ A c, v = .slice A ls.length c ∧ RSo w A ls := by
  have h' := h
  obtain ⟨h1, h2⟩ := h
  rcases h2 with ⟨rfl, hn⟩ | ⟨g, cap, cur, rfl, hg, r⟩
  · have : ls = [] := List.eq_nil_of_length_eq_zero (by rw [← hl.1]; exact hn)
    subst this
    exact ⟨none, 0, rfl, fun k hk => absurd hk (by simp)⟩
  · refine ⟨some ⟨g, 0, none⟩, cap, by rw [hl.1], fun k hk => ?_⟩
    obtain ⟨A', c', hx, hr⟩ := hl.2 k hk
    have e : ls.getD k [] = ls[k] := by simp [List.getD, hk]
    rw [e] at hx hr
    have c0 := h'.cells (g := g) rfl _ _ hx
    rw [show (⟨g, 0, none⟩ : Addr).add k = ⟨g, 0 + k, none⟩ by unfold Addr.add; split <;> simp_all] at c0
    exact ⟨g, 0, A', c', rfl, c0, hr.mono (Nat.zero_le _), hr.ri⟩

/-- the call returns a new slice of new slices that hold the lists -/
def RetS (ls : List (List Int)) (w : World) : Ending → World → Prop := fun e w' => ∃ A c, e = .returned (.slice A ls.length c) ∧ RSo w' A ls ∧ Below w.heap.size w w'

/-- all sets of n nodes -/
def setsL (n : Nat) : List (List Int) := (List.range (2 ^ n)).map fun m => nodesB n m.testBit

set_option maxHeartbeats 4000000 in
theorem sets_any (n : Nat) (w : World) (hn : n ≤ 10) :
    Calls Tryd.prog 52 #[.int .i64 (n : Int)] w (RetS (setsL n) w) := by
  have hp : 2 ^ n ≤ 1024 := Nat.pow_le_pow_right (n := 2) (by omega) hn
  have e0 : IntKind.u64.wrap (n : Int) = n := by rw [IntKind.wrap_u64]; omega
  obtain ⟨E, hE⟩ : ∃ E : Nat, E = 2 ^ n := ⟨_, rfl⟩
  have e1 : wrap64 (2 ^ n) = (E : Int) := by
    rw [hE, show ((2 : Int) ^ n) = ((2 ^ n : Nat) : Int) by simp]; unfold wrap64; omega
  rw [← hE] at hp
  have HE := Lib.hid hE; clear hE
  go_enter Tryd.func52, Tryd.ntmps52
  go_wp2_with fail
  go_loopw [3, 4] (fun v i wr => ∃ (m : Nat) (xs : List Value), m ≤ E ∧ i = .int .i64 m ∧ OwnS wr w.heap.size v xs ∧ OwnL wr w.heap.size xs ((List.range m).map fun m => nodesB n m.testBit) ∧ Below w.heap.size w wr) (fun _ i _ => E - (intOf i).toNat)
  case atStart => exact ⟨0, [], Nat.zero_le _, rfl, OwnS.nil _ _, OwnL.nil _ _, Below.refl _ _⟩
  case round =>
    obtain ⟨m, xs, hm, rfl, hown, hol, hbl⟩ := hrel
    by_cases hlt : m < E
    case neg =>
      obtain rfl : m = E := by omega
      go_wp2_with fail
      go_ret
      obtain ⟨A, c, rfl, hrs⟩ := hown.forms hol
      have e : (List.range m).map (fun m => nodesB n m.testBit) = setsL n := by unfold setsL; rw [HE.out]
      rw [e] at hrs ⊢
      exact ⟨A, c, rfl, hrs, hbl⟩
    case pos =>
    have hlt' : decide ((m : Int) < (E : Int)) = true := by simp only [decide_eq_true_eq]; omega
    have Hown := Lib.hid hown; have Hol := Lib.hid hol; clear hown hol
    obtain ⟨wo, hwo⟩ : ∃ wo, wo = wr := ⟨_, rfl⟩
    subst hwo
    go_wp2_with fail
    have He1 := Lib.hid e1; clear e1
    go_loopw [5, 6] (fun v i wr => ∃ k : Nat, k ≤ n ∧ i = .int .i64 k ∧ OwnI wr wo.heap.size v (nodesB k m.testBit) ∧ Below wo.heap.size wo wr) (fun _ i _ => n - (intOf i).toNat)
    case atStart => exact ⟨0, Nat.zero_le _, rfl, OwnI.nil _ _, Below.refl _ _⟩
    case round =>
      obtain ⟨k, hk, rfl, hin, hbi⟩ := hrel
      have Hin := Lib.hid hin; clear hin
      by_cases hkn : k < n
      case neg =>
        obtain rfl : k = n := by omega
        obtain ⟨A, c, rfl, hri, _⟩ := Hin.out.form
        have hownr : OwnS wr w.heap.size _ xs := ownsRow_below Hown.out hbi
        have hxl : xs.length ≤ 1000000 := by have := Hol.out.1; rw [List.length_map, List.length_range] at this; omega
        have hbb : Below w.heap.size w wr := hbl.trans (hbi.mono hbl.size)
        have Hownr := Lib.hid hownr; have Hri := Lib.hid hri; clear hownr hri
        have Hxl := Lib.hid hxl; clear hxl
        go_wp2_with (at_builtin; refine wpList_appS (by rfl) _ _ (by rfl) wr w.heap.size _ xs A (nodesB k m.testBit).length c Hownr.out (by rfl) (by rfl) Hxl.out hbb.size ?_; intro v' w3 hown' hb3 hg3)
        go_roundw
        case rel =>
          refine ⟨m + 1, xs ++ [.slice A (nodesB k m.testBit).length c], by omega, by go_num, hown', ?_, hbb.trans hb3⟩
          rw [List.range_succ, List.map_append]
          exact ((Hol.out.below hbi).append Hownr.out hg3).snoc (OwnI.mono (World.ownsRow.kept Hin.out hg3 (Hin.out.apart Hownr.out)) hbl.size)
        case measure => simp [intOf]; omega
      case pos =>
      have hkn' : (k : Int) < (n : Int) := by omega
      have e2 : IntKind.u64.wrap (k : Int) = k := by rw [IntKind.wrap_u64]; omega
      have e3 := bit_of_shr m k
      have hlen : (nodesB k m.testBit).length ≤ 1000000 := by have := nodesB_length k m.testBit; omega
      cases hb : m.testBit k
      · have Hb := Lib.hid hb; rw [hb] at e3; clear hb
        go_wp2_with fail
        go_roundw
        case rel => exact ⟨k + 1, by omega, by go_num, by rw [nodesB_succ, if_neg (by rw [Hb.out]; simp), List.append_nil]; exact Hin.out, hbi⟩
        case measure => simp [intOf]; omega
      · have Hb := Lib.hid hb; rw [hb] at e3; clear hb
        go_wp2_with (at_builtin; refine wpList_appI (by rfl) _ _ (by rfl) wr wo.heap.size _ _ (k : Int) Hin.out (by rfl) (by rfl) (by omega) hbi.size ?_; intro v' w3 hown' hb3 _)
        go_roundw
        case rel => exact ⟨k + 1, by omega, by go_num, by rw [nodesB_succ, if_pos Hb.out]; exact hown', hbi.trans hb3⟩
        case measure => simp [intOf]; omega
end Go.Proofs.YtiljbfeipfdmdaaDoor
