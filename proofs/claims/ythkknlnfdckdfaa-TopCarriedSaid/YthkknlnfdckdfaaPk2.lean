/- slices.BinarySearchFunc at packets, by number. -/
import Derived.Test.YthkknlnfdckdfaaPk1
namespace Go.Proofs.Ythkknlnfdckdfaa
open Go.ChangeShapes Go.WideShapes Go.ChangeAt Go.RowKit

def ltK (n : Int) (p : Pk) : Prop := p.2.1 < n
def AscK (l : List Pk) : Prop := l.Pairwise fun a b => a.2.1 < b.2.1
set_option maxHeartbeats 1000000 in
theorem rcl_any (a : Bool) (x y n : Int) (w : World) (hx : 0 ≤ x) (hx' : x ≤ 100000) (hn : 0 ≤ n) (hn' : n ≤ 100000) :
    Calls Try.prog 69 #[.agg #[.bool a, .int .i64 x, .int .i64 y], .int .i64 n] w fun e w' => e = .returned (.int .i64 (x - n)) ∧ Below w.heap.size w w' := by
  go_enter Try.func69, Try.ntmps69
  go_upto_region 1 with fail
  obtain ⟨W0, hW, k0, hb0, hs0⟩ := boxedA w 94 #[.bool a, .int .i64 x, .int .i64 y]
  rw [hW]
  have c1 : W0.cell? ⟨w.heap.size, 1, none⟩ = some (.int .i64 x) := by rw [k0.cell]; rfl
  have hw1 : IntKind.i64.wrap (x - n) = x - n := by rw [IntKind.wrap_i64]; omega
  clear hW
  go_wp2_with fail
  go_ret
  exact ⟨rfl, hb0⟩

/-- where a number belongs in a list in order, and whether it is there -/
def RetBk (l : List Pk) (n : Int) (w : World) : Ending → World → Prop := fun e w' => ∃ (i : Nat) (b : Bool), e = .returned (.tuple #[.int .i64 (i : Int), .bool b]) ∧ i ≤ l.length ∧ (∀ q ∈ l.take i, ltK n q) ∧ (∀ q ∈ l.drop i, ¬ ltK n q) ∧ (b = true ↔ i < l.length ∧ (pk l i).2.1 = n) ∧ Below w.heap.size w w'
theorem ltK_take {l : List Pk} (hs : AscK l) {h : Nat} (hh : h < l.length) {n : Int} (hp : ltK n l[h]) : ∀ q ∈ l.take (h + 1), ltK n q := fun q hq => by
  rw [List.take_succ_eq_append_getElem hh, List.mem_append, List.mem_singleton] at hq
  rcases hq with hq | rfl
  · have e : l = l.take h ++ l.drop h := (List.take_append_drop h l).symm
    unfold AscK at hs
    rw [e, List.pairwise_append] at hs
    have := hs.2.2 q hq l[h] (by rw [List.drop_eq_getElem_cons hh]; exact List.mem_cons_self ..)
    unfold ltK at *; omega
  · exact hp
theorem ltK_drop {l : List Pk} (hs : AscK l) {h : Nat} (hh : h < l.length) {n : Int} (hp : ¬ ltK n l[h]) : ∀ q ∈ l.drop h, ¬ ltK n q := fun q hq => by
  rw [List.drop_eq_getElem_cons hh, List.mem_cons] at hq
  rcases hq with rfl | hq
  · exact hp
  · have e : l = l.take h ++ l.drop h := (List.take_append_drop h l).symm
    unfold AscK at hs
    rw [e, List.pairwise_append, List.drop_eq_getElem_cons hh, List.pairwise_cons] at hs
    have := hs.2.1.1 q hq
    unfold ltK at *; omega
theorem RK.at_ {w : World} {A : Option Addr} {l : List Pk} (h : RK w A l) {k : Nat} (hk : k < l.length) : ∃ b o, A = some ⟨b, o, none⟩ ∧ w.cell? ⟨b, o + k * 3, none⟩ = some (.bool l[k].1) ∧ w.cell? ⟨b, o + k * 3 + 1, none⟩ = some (.int .i64 l[k].2.1) ∧ w.cell? ⟨b, o + k * 3 + 2, none⟩ = some (.int .i64 l[k].2.2) := by
  have := h k hk
  rwa [pk_at hk] at this
set_option maxRecDepth 100000 in
set_option maxHeartbeats 2000000 in
theorem bsearchK_any (A : Option Addr) (l : List Pk) (c : Nat) (n : Int) (w : World) (hr : RK w A l) (hl : l.length ≤ 100000) (hs : AscK l) (hb : ∀ p ∈ l, 0 ≤ p.2.1 ∧ p.2.1 ≤ 100000) (hn0 : 0 ≤ n) (hn1 : n ≤ 100000) :
    Calls Try.prog 68 #[.slice A l.length c, .int .i64 n, .func (.func 69) #[] #[]] w (RetBk l n w) := by
  have Hs := Lib.hid hs; have Hb := Lib.hid hb
  clear hs hb
  go_enter Try.func68, Try.ntmps68
  go_wp2_with fail
  go_loopw [9, 10] (fun i j wr => ∃ a b : Nat, a ≤ b ∧ b ≤ l.length ∧ i = .int .i64 a ∧ j = .int .i64 b ∧ (∀ q ∈ l.take a, ltK n q) ∧ (∀ q ∈ l.drop b, ¬ ltK n q) ∧ Below w.heap.size w wr) (fun i j _ => (intOf j).toNat - (intOf i).toNat)
  case atStart => exact ⟨0, l.length, Nat.zero_le _, Nat.le_refl _, rfl, rfl, by simp, by simp, Below.refl _ _⟩
  case round =>
    obtain ⟨a, b, hab, hbl, rfl, rfl, h1, h2, hbw⟩ := hrel
    have H1 := Lib.hid h1; have H2 := Lib.hid h2
    clear h1 h2
    by_cases hlt : a < b
    case neg =>
      have hab' : a = b := by omega
      subst hab'
      have hlt' : ¬ (a : Int) < (a : Int) := by omega
      clear hlt
      by_cases han : a < l.length
      · have hn' : (a : Int) < (l.length : Int) := by omega
        have ha0 : (0 : Int) ≤ (a : Int) := by omega
        obtain ⟨b', o, rfl, hc0, hc1, hc2⟩ := (hr.below hbw).at_ han
        have hbd := Hb.out l[a] (List.getElem_mem han)
        have hpk := pk_at han
        generalize l[a] = pr at *
        obtain ⟨u, x, y⟩ := pr
        simp only at hc0 hc1 hc2 hbd
        have hcmp := fun w1 => rcl_any u x y n w1 hbd.1 hbd.2 hn0 hn1
        obtain ⟨r, hrr⟩ : ∃ r, x - n = r := ⟨_, rfl⟩
        rw [hrr] at hcmp
        have Hq : Hid ((r == 0) = true ↔ a < l.length ∧ (pk l a).2.1 = n) := Lib.hid (by rw [hpk, beq_iff_eq]; simp only; omega)
        obtain ⟨q, hq⟩ : ∃ q, (r == 0) = q := ⟨_, rfl⟩
        rw [hq] at Hq
        clear hrr hpk
        go_wp2_with fail
        refine (hcmp wr).mono ?_
        rintro e w2 ⟨rfl, hb2⟩
        go_wp2_with fail
        go_ret2
        exact ⟨a, q, rfl, hbl, H1.out, H2.out, Hq.out, endB hbw hb2⟩
      · have hn' : ¬ (a : Int) < (l.length : Int) := by omega
        go_wp2_with fail
        go_ret2
        exact ⟨a, false, rfl, hbl, H1.out, H2.out, ⟨(fun e => by cases e), fun e => absurd e.1 han⟩, hbw⟩
    case pos =>
    have hlt' : (a : Int) < (b : Int) := by omega
    go_upto_region 5 with fail
    obtain ⟨h, hh⟩ : ∃ h : Nat, ((a : Int) + (b : Int)) / 2 = (h : Int) := ⟨(a + b) / 2, by omega⟩
    rw [hh]
    have hah : a ≤ h := by omega
    have hhb : h < b := by omega
    have hhn : h < l.length := by omega
    have hn' : (h : Int) < (l.length : Int) := by omega
    have ha0 : (0 : Int) ≤ (h : Int) := by omega
    clear hh
    have hT := fun hp => ltK_take Hs.out hhn (n := n) hp
    have hD := fun hp => ltK_drop Hs.out hhn (n := n) hp
    obtain ⟨b', o, rfl, hc0, hc1, hc2⟩ := (hr.below hbw).at_ hhn
    have hbd := Hb.out l[h] (List.getElem_mem hhn)
    generalize l[h] = pr at *
    obtain ⟨u, x, y⟩ := pr
    simp only [ltK] at hc0 hc1 hc2 hbd hT hD
    have hcmp := fun w1 => rcl_any u x y n w1 hbd.1 hbd.2 hn0 hn1
    obtain ⟨r, hrr⟩ : ∃ r, x - n = r := ⟨_, rfl⟩
    rw [hrr] at hcmp
    have hneg : r < 0 ↔ x < n := by omega
    have HT := Lib.hid hT; have HD := Lib.hid hD
    have Hneg := Lib.hid hneg
    clear hrr hneg hT hD
    by_cases hr1 : r < 0
    · have HT2 := Lib.hid (HT.out (Hneg.out.1 hr1))
      clear HT HD Hneg
      go_wp2_with fail
      refine (hcmp wr).mono ?_
      rintro e w2 ⟨rfl, hb2⟩
      go_wp2_with fail
      go_roundw
      case rel => exact ⟨h + 1, b, by omega, hbl, by go_num, rfl, HT2.out, H2.out, endB hbw hb2⟩
      case measure => simp [intOf]; omega
    · have HD2 := Lib.hid (HD.out (fun hp => hr1 (Hneg.out.2 hp)))
      clear HT HD Hneg
      go_wp2_with fail
      refine (hcmp wr).mono ?_
      rintro e w2 ⟨rfl, hb2⟩
      go_wp2_with fail
      go_roundw
      case rel => exact ⟨a, h, hah, by omega, rfl, by go_num, H1.out, (fun q hq hlt => by have := HD2.out q hq; unfold ltK at hlt; omega), endB hbw hb2⟩
      case measure => simp [intOf]; omega
end Go.Proofs.Ythkknlnfdckdfaa
