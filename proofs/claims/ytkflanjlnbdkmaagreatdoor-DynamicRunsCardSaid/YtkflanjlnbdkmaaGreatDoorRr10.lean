/- ref10.reached. -/
import Derived.Test.YtkflanjlnbdkmaaGreatDoorRwB
import Derived.Test.YtkflanjlnbdkmaaGreatDoorCmp
namespace Go.Proofs.YtkflanjlnbdkmaaGreatDoor
open Go.ChangeShapes Go.WideShapes Go.ChangeAt Go.RowKit

/-- how many are not there yet -/
def cntB (n : Nat) (f : Nat → Bool) : Nat := (List.range n).countP fun k => !f k
def isFalse : Option Value → Bool
  | some (.bool false) => true
  | _ => false
def cntW (g n : Nat) (w : World) : Nat := (List.range n).countP fun k => isFalse (w.cell? ⟨g, k, none⟩)
theorem RowB.cnt {w : World} {g n : Nat} {f : Nat → Bool} (h : RowB w g n f) : cntW g n w = cntB n f := by
  unfold cntW cntB
  apply List.countP_congr
  intro k hk
  rw [h.cell (List.mem_range.1 hk)]
  cases f k <;> simp [isFalse]
theorem cntB_set {n : Nat} {f : Nat → Bool} {b : Nat} (hb : b < n) (hf : f b = false) : cntB n (fun j => if j = b then true else f j) < cntB n f := by
  unfold cntB
  have h1 : (List.range n).countP (fun k => !(if k = b then true else f k)) + 1 = (List.range n).countP fun k => !f k := by
    induction n with
    | zero => omega
    | succ n ih =>
      rw [List.range_succ, List.countP_append, List.countP_append]
      by_cases e : b = n
      · subst e
        have e2 : (List.range b).countP (fun k => !(if k = b then true else f k)) = (List.range b).countP fun k => !f k := by
          apply List.countP_congr
          intro k hk
          have := List.mem_range.1 hk
          rw [if_neg (by omega)]
        rw [e2]
        simp [hf]
      · have := ih (by omega)
        have e3 : (if n = b then true else f n) = f n := by rw [if_neg (by omega)]
        simp only [List.countP_singleton, e3]
        omega
  show (List.range n).countP (fun k => !(if k = b then true else f k)) < (List.range n).countP (fun k => !f k)
  omega
def boolN : Value → Nat
  | .bool true => 1
  | _ => 0
/-- the row of the search: the first node, only nodes that it reaches -/
structure ReB (n : Nat) (l : List (Int × Int)) (i : Nat) (f : Nat → Bool) : Prop where
  self : f i = true
  sound : ∀ k, k < n → f k = true → Rc (att l) i k
def clB (l : List (Int × Int)) (f : Nat → Bool) : Prop := ∀ p ∈ l, f p.1.toNat = true → f p.2.toNat = true
theorem ReB.done {n : Nat} {l : List (Int × Int)} (hv : InR n l) {i : Nat} (hi : i < n) {f : Nat → Bool} (h : ReB n l i f) (hc : clB l f) : ∀ k, k < n → f k = rchB n l i k := fun k hk => by
  rw [Bool.eq_iff_iff, rch_iff hv hi]
  refine ⟨h.sound k hk, fun hr => ?_⟩
  exact hr.stay (z := fun k => f k = true) (fun a b ha e => by
    have := hc _ e (by rw [Int.toNat_natCast]; exact ha)
    rwa [Int.toNat_natCast] at this) h.self
theorem ReB.step {n : Nat} {l : List (Int × Int)} {i : Nat} {f : Nat → Bool} (h : ReB n l i f) {a b : Nat} (he : att l a b) (ha : a < n) (hfa : f a = true) : ReB n l i (fun j => if j = b then true else f j) :=
  ⟨by by_cases e : i = b <;> simp [e, h.self], fun k hk hf => by
    by_cases e : k = b
    · rw [e]; exact (h.sound a ha hfa).trans (Rc.one he)
    · rw [if_neg e] at hf; exact h.sound k hk hf⟩

/-- the call returns, for each node, whether i reaches it -/
def RetRe (n : Nat) (l : List (Int × Int)) (i : Nat) (w : World) : Ending → World → Prop := fun e w' => ∃ g, e = .returned (.slice (some ⟨g, 0, none⟩) n n) ∧ w.heap.size ≤ g ∧ RowB w' g n (rchB n l i) ∧ Below w.heap.size w w'

set_option maxRecDepth 100000 in
set_option maxHeartbeats 4000000 in
theorem reached_any (A : Option Addr) (n : Nat) (l : List (Int × Int)) (c i : Nat) (w : World) (hr : RP w A l) (hv : InR n l) (hi : i < n) :
    Calls Tryz.prog 74 #[.agg #[.int .i64 (n : Int), .slice A l.length c], .int .i64 (i : Nat)] w (RetRe n l i w) := by
  have hn := hv.1; have hlen := hv.2.1
  have hmk := run_make_row' (P := Tryz.prog) 97 4 (.bool false) 1 Tryz.underlying97 info_bool rfl .i64 .i64 n (by omega) (by omega)
  have hi0 : (0 : Int) ≤ (i : Int) := by omega
  have hi1 : (i : Int) < (n : Int) := by omega
  have HV := Lib.hid hv
  clear hv
  go_enter Tryz.func74, Tryz.ntmps74
  go_upto_region 2 with fail
  obtain ⟨W0, hW, k0, hrow, hb0, hlt0⟩ := boxedRow w 24 4 (.int .i64 n) (.slice A l.length c) (.bool false) n
  rw [hW]
  have hrow0 : RowB W0 (w.heap.size + 1) n (fun _ => false) := hrow
  obtain ⟨c0, c1, _, _⟩ := k0.two
  have hrA : ∀ wr, Below (w.heap.size + 1) W0 wr → RP wr A l := fun wr h => hr.below (hb0.trans (h.mono (by omega)))
  have hbA : ∀ wr, Below (w.heap.size + 1) W0 wr → Below w.heap.size w wr := fun wr h => hb0.trans (h.mono (by omega))
  have fz := hrow0.frozen i
  have ci := hrow0.cell hi
  have hset := hrow0.set i true
  have hbs := (Below.refl (w.heap.size + 1) W0).setCell (p := ⟨w.heap.size + 1, i, none⟩) (Nat.le_refl _) (.bool true)
  have hre : ReB n l i (fun j => if j = i then true else false) := ⟨by simp, fun k _ h => by
    by_cases e : k = i
    · rw [e]; exact Rc.refl
    · simp [e] at h⟩
  have hgG : w.heap.size < w.heap.size + 1 := Nat.lt_succ_self _
  have HrA := Lib.hid hrA; have HbA := Lib.hid hbA; have Hset := Lib.hid hset; have Hbs := Lib.hid hbs; have Hre := Lib.hid hre
  clear hW hrow hrow0 k0 hrA hbA hset hbs hre hr hb0 hlt0 hmk
  have hgle : w.heap.size ≤ w.heap.size + 1 := Nat.le_succ _
  generalize hg : w.heap.size + 1 = g at *
  clear hg
  generalize hG : w.heap.size = G at *
  have HG := Lib.hid hG
  clear hG
  go_wp2_with fail
  clear fz ci
  go_loopw [6] (fun t wr => ∃ (f : Nat → Bool) (b : Bool), t = .bool b ∧ RowB wr g n f ∧ ReB n l i f ∧ (b = false → clB l f) ∧ Below g W0 wr) (fun t wr => 2 * cntW g n wr + boolN t)
  case atStart => exact ⟨_, true, rfl, Hset.out, Hre.out, (fun h => by cases h), Hbs.out⟩
  case round =>
    clear Hset Hbs Hre
    obtain ⟨f, b, rfl, hrow, hre, hcl, hbl⟩ := hrel
    cases b
    case false =>
      have hd := hre.done HV.out hi (hcl rfl)
      have Hd := Lib.hid hd; have Hrow := Lib.hid hrow
      clear hd hcl hre hrow
      go_wp2_with fail
      go_ret
      have hbf := HbA.out wr hbl
      rw [← HG.out] at hgle
      exact ⟨g, rfl, hgle, (Hrow.out).congr Hd.out, by rw [← HG.out] at hbf; exact hbf⟩
    case true =>
    have hcn := hrow.cnt
    obtain ⟨c1n, hc1n⟩ : ∃ c, cntB n f = c := ⟨_, rfl⟩
    rw [hc1n] at hcn
    have Hcn := Lib.hid hcn; have Hc1 := Lib.hid hc1n
    clear hcn hc1n hcl
    obtain ⟨wo, hwo⟩ : ∃ wo, wo = wr := ⟨_, rfl⟩
    subst hwo
    go_wp2_with fail
    go_loopw [6, 7] (fun t6 t7 wr => ∃ (q : Nat) (f' : Nat → Bool) (b : Bool), t6 = .bool b ∧ q ≤ l.length ∧ t7 = .int .i64 q ∧ RowB wr g n f' ∧ ReB n l i f' ∧ (b = false → cntB n f' ≤ c1n ∧ ∀ p ∈ l.take q, f' p.1.toNat = true → f' p.2.toNat = true) ∧ (b = true → cntB n f' < c1n) ∧ Below g W0 wr) (fun _ t7 _ => l.length - (intOf t7).toNat)
    case atStart => exact ⟨0, f, false, rfl, Nat.zero_le _, rfl, hrow, hre, (fun _ => ⟨by rw [Hc1.out]; exact Nat.le_refl _, by simp⟩), (fun h => by cases h), hbl⟩
    case round =>
      clear hrow hre hbl
      obtain ⟨q, f2, b, rfl, hq, rfl, hrow, hre, hb0, hb1, hbl⟩ := hrel
      have c1r := (hbl.cell (p := ⟨G, 1, none⟩) hgG).trans c1
      have Hb0 := Lib.hid hb0; have Hb1 := Lib.hid hb1; have Hre := Lib.hid hre
      clear hb0 hb1 hre
      by_cases hql : q < l.length
      case neg =>
        obtain rfl : q = l.length := by omega
        have hcn2 := hrow.cnt
        have Hcn2 := Lib.hid hcn2
        clear hcn2
        go_wp2_with fail
        go_roundw
        case rel => exact ⟨f2, b, rfl, hrow, Hre.out, (fun h => by
          have := (Hb0.out h).2
          rwa [List.take_length] at this), hbl⟩
        case measure =>
          rw [Hcn2.out, Hcn.out]
          cases b
          · have := (Hb0.out rfl).1; simp [boolN]; omega
          · have := Hb1.out rfl; simp [boolN]; omega
      case pos =>
      obtain ⟨b5, o5, rfl, hx5, hy5⟩ := (HrA.out wr hbl).at_ hql
      have hrg := HV.out.2.2 _ (List.getElem_mem hql)
      obtain ⟨a, ha⟩ := Int.eq_ofNat_of_zero_le hrg.1
      obtain ⟨d, hd⟩ := Int.eq_ofNat_of_zero_le hrg.2.2.1
      have han : a < n := by omega
      have hdn : d < n := by omega
      have hat : att l a d := by
        have h := List.getElem_mem hql
        unfold att
        have e : l[q] = ((a : Int), (d : Int)) := Prod.ext ha hd
        rw [← e]; exact h
      have htk : ∀ p, p ∈ l.take (q + 1) → p ∈ l.take q ∨ p = ((a : Int), (d : Int)) := fun p hp => by
        rw [List.take_succ_eq_append_getElem hql, List.mem_append, List.mem_singleton] at hp
        rcases hp with hp | hp
        · exact .inl hp
        · exact .inr (by rw [hp]; exact Prod.ext ha hd)
      rw [ha] at hx5
      rw [hd] at hy5
      have ca := hrow.cell han
      have cd := hrow.cell hdn
      have fd := hrow.frozen d
      have ha0 : (0 : Int) ≤ (a : Int) := by omega
      have ha1 : (a : Int) < (n : Int) := by omega
      have hd0 : (0 : Int) ≤ (d : Int) := by omega
      have hd1 : (d : Int) < (n : Int) := by omega
      have hql' : (q : Int) < (l.length : Int) := by omega
      have Htk := Lib.hid htk; have Hat := Lib.hid hat
      clear hrg ha hd htk hat
      by_cases hcase : f2 a = true ∧ f2 d = false
      case pos =>
        obtain ⟨hfa, hfd⟩ := hcase
        rw [hfa] at ca
        rw [hfd] at cd
        have hst := (Hre.out).step Hat.out han hfa
        have hset := hrow.set d true
        have hbs := hbl.setCell (p := ⟨g, d, none⟩) (Nat.le_refl _) (.bool true)
        have hcs := cntB_set hdn hfd
        have hlt : cntB n (fun j => if j = d then true else f2 j) < c1n := by
          cases b
          · have := (Hb0.out rfl).1; omega
          · have := Hb1.out rfl; omega
        have Hst := Lib.hid hst; have Hset := Lib.hid hset; have Hbs := Lib.hid hbs; have Hlt := Lib.hid hlt
        clear hst hset hbs hcs hlt hfa hfd hrow
        go_wp2_with fail
        go_roundw
        case rel => exact ⟨q + 1, _, true, rfl, by omega, by go_num, Hset.out, Hst.out, (fun h => by cases h), (fun _ => Hlt.out), Hbs.out⟩
        case measure => simp [intOf]; omega
      case neg =>
        have hno : f2 a = true → f2 d = true := fun h => by
          cases hd : f2 d
          · exact absurd ⟨h, hd⟩ hcase
          · rfl
        have hb2 : b = false → cntB n f2 ≤ c1n ∧ ∀ p ∈ l.take (q + 1), f2 p.1.toNat = true → f2 p.2.toNat = true := fun h => ⟨(Hb0.out h).1, fun p hp => by
          rcases Htk.out p hp with hp | rfl
          · exact (Hb0.out h).2 p hp
          · rw [Int.toNat_natCast, Int.toNat_natCast]; exact hno⟩
        have Hb2 := Lib.hid hb2; have Hno := Lib.hid hno
        clear hb2 hno hcase
        obtain ⟨fa, hfa⟩ : ∃ x, f2 a = x := ⟨_, rfl⟩
        obtain ⟨fdv, hfd⟩ : ∃ x, f2 d = x := ⟨_, rfl⟩
        have hnx := Hno.out
        rw [hfa, hfd] at hnx
        rw [hfa] at ca
        rw [hfd] at cd
        have Hnx := Lib.hid hnx
        clear hnx hfa hfd
        cases fa
        case false =>
          clear fd
          go_wp2_with fail
          go_roundw
          case rel => exact ⟨q + 1, f2, b, rfl, by omega, by go_num, hrow, Hre.out, Hb2.out, Hb1.out, hbl⟩
          case measure => simp [intOf]; omega
        case true =>
          obtain rfl : fdv = true := Hnx.out rfl
          clear fd
          go_wp2_with fail
          go_roundw
          case rel => exact ⟨q + 1, f2, b, rfl, by omega, by go_num, hrow, Hre.out, Hb2.out, Hb1.out, hbl⟩
          case measure => simp [intOf]; omega
end Go.Proofs.YtkflanjlnbdkmaaGreatDoor
