import Derived.Test.YtkflanjlnbdkmaaGreatDoorDyX3
import Derived.Test.YtkflanjlnbdkmaaGreatDoorDyX2
/- dynamic.settle's closure. -/
namespace Go.Proofs.YtkflanjlnbdkmaaGreatDoor
open Go.ChangeShapes Go.WideShapes Go.ChangeAt Go.RowKit

theorem labS_hit {l : List (Int × Int)} {L : Nat → Int} {i k : Nat} (h : k < (attackersL l i).length) (h1 : L (attackersL l i)[k].toNat = 1) : labS l L i = 2 := by
  unfold labS
  rw [if_pos]
  rw [List.any_eq_true]
  exact ⟨_, List.getElem_mem h, by rw [beq_iff_eq]; exact h1⟩
def no1 (L : Nat → Int) (xs : List Int) : Prop := xs.any (fun a => L a.toNat == 1) = false
def no3 (L : Nat → Int) (xs : List Int) : Bool := !xs.any fun a => L a.toNat == 3
theorem no1_next {L : Nat → Int} {xs : List Int} {k : Nat} (h : k < xs.length) (h0 : no1 L (xs.take k)) (h1 : (L xs[k].toNat == 1) = false) : no1 L (xs.take (k + 1)) := by
  unfold no1 at *
  rw [List.take_succ_eq_append_getElem h, List.any_append, h0]; simpa using h1
theorem no3_next {L : Nat → Int} {xs : List Int} {k : Nat} (h : k < xs.length) : no3 L (xs.take (k + 1)) = (no3 L (xs.take k) && !(L xs[k].toNat == 3)) := by
  unfold no3
  rw [List.take_succ_eq_append_getElem h, List.any_append]; simp
theorem labS_end {l : List (Int × Int)} {L : Nat → Int} {i : Nat} (h : no1 L (attackersL l i)) : labS l L i = if no3 L (attackersL l i) = true then 1 else 3 := by
  unfold labS no1 no3 at *
  rw [h]
  cases (attackersL l i).any fun a => L a.toNat == 3 <;> simp
set_option maxRecDepth 100000 in
set_option maxHeartbeats 4000000 in
theorem dlabel_any (A : Option Addr) (n : Nat) (l : List (Int × Int)) (c : Nat) (B : Option Addr) (d : Nat) (L : Nat → Int) (i G1 G2 : Nat) (w : World) (hr : RP w A l) (hv : Vld n l) (hb : RI w B (lst n L)) (hG1 : Blk w G1 24 #[.int .i64 (n : Int), .slice A l.length c]) (hG2 : Blk w G2 25 #[.slice B n d]) (hT : Tab w) :
    Calls Tryz.prog 71 #[.int .i64 (i : Int), .pointer (some ⟨G1, 0, none⟩), .pointer (some ⟨G2, 0, none⟩)] w (RetB (.int .i64 (labS l L i)) w) := by
  have hat := gAttackers_any A n l c i w hr hv hT
  have hnat : ∀ x ∈ attackersL l i, ∃ a : Nat, x = a ∧ a < n := fun x hx => by
    obtain ⟨a, h1, h2, _⟩ := attacker_nat hv.1 hx
    exact ⟨a, h1, h2⟩
  have hal : (attackersL l i).length ≤ 100000 := by
    unfold attackersL
    rw [List.length_map]
    exact Nat.le_trans (List.length_filter_le _ _) hv.1.2.1
  have Hhit := fun k h => @labS_hit l L i k h
  have Hend := @labS_end l L i
  have Hnx := fun k h => @no1_next L (attackersL l i) k h
  have Hnx3 := fun k h => @no3_next L (attackersL l i) k h
  generalize labS l L i = R at *
  generalize attackersL l i = AT at *
  obtain ⟨c0, c1, _, _⟩ := hG1.two
  have HHit := Lib.hid Hhit; have HEnd := Lib.hid Hend; have HNx := Lib.hid Hnx; have HNx3 := Lib.hid Hnx3; have Hnat := Lib.hid hnat
  clear Hhit Hend Hnx Hnx3 hr hv hnat
  go_enter Tryz.func71, Tryz.ntmps71
  go_wp2_with fail
  refine hat.mono ?_
  rintro e w1 ⟨A1, c1', rfl, _, hri, _, hb1⟩
  have hB1 := hb.below hb1
  have hG21 := hG2.below hb1 hG2.lt
  have d0 : w1.cell? ⟨G2, 0, none⟩ = some (.slice B n d) := by rw [hG21.cell]; rfl
  clear hat hG1 hG2 hG21 hb c0 c1
  go_wp2_with fail
  go_loopw [5, 12] (fun al t wr => ∃ k : Nat, k ≤ AT.length ∧ t = .int .i64 k ∧ al = .bool (no3 L (AT.take k)) ∧ no1 L (AT.take k) ∧ wr = w1) (fun _ t _ => AT.length - (intOf t).toNat)
  case atStart => exact ⟨0, Nat.zero_le _, rfl, rfl, rfl, rfl⟩
  case round =>
    obtain ⟨k, hk, rfl, rfl, h1, rfl⟩ := hrel
    have H1 := Lib.hid h1
    clear h1
    by_cases hlt : k < AT.length
    case neg =>
      have hall : AT.take k = AT := List.take_of_length_le (by omega)
      rw [hall] at H1 ⊢
      have he := HEnd.out H1.out
      cases h3 : no3 L AT
      all_goals
        rw [h3] at he
        simp at he
        have He := Lib.hid he
        clear he hall HEnd HNx HNx3 HHit
        go_wp2_with fail
        go_ret
        rw [He.out]
        exact ⟨rfl, hb1⟩
    case pos =>
    obtain ⟨b', o, rfl, hc0⟩ := hri.at_ hlt
    obtain ⟨a, ha, han⟩ := Hnat.out _ (List.getElem_mem hlt)
    have hB := hB1 a (by rw [lst_length]; exact han)
    obtain ⟨b2, o2, rfl, hc2⟩ := hB
    rw [lst_getD han] at hc2
    have hlt' : (k : Int) < (AT.length : Int) := by omega
    have han' : (a : Int) < (n : Int) := by omega
    have ha0 : (0 : Int) ≤ (a : Int) := by omega
    have hh := HHit.out k hlt
    have hn1 := HNx.out k hlt H1.out
    have hn3 := HNx3.out k hlt
    rw [ha] at hh hn1 hn3 hc0
    simp only [Int.toNat_natCast] at hh hn1 hn3
    obtain ⟨x, hx⟩ : ∃ x, L a = x := ⟨_, rfl⟩
    rw [hx] at hh hn1 hn3 hc2
    have Hh := Lib.hid hh; have Hn1 := Lib.hid hn1; have Hn3 := Lib.hid hn3
    clear hh hn1 hn3 hx HHit HNx HNx3 HEnd ha
    by_cases h1 : x = 1
    · subst h1
      have He := Lib.hid (Hh.out rfl)
      clear Hh Hn1 Hn3
      go_wp2_with fail
      go_ret
      rw [He.out]
      exact ⟨rfl, hb1⟩
    · have hx1 : (x == 1) = false := by rw [beq_eq_false_iff_ne]; exact h1
      have HN1 := Lib.hid (Hn1.out hx1)
      by_cases h3 : x = 3
      · have hx3 : (x == 3) = true := by rw [beq_iff_eq]; exact h3
        have hn3 := Hn3.out
        rw [hx3] at hn3
        simp at hn3
        have HN3 := Lib.hid hn3
        clear hn3 Hh Hn1 Hn3 h1 h3
        go_wp2_with fail
        go_roundw
        case rel => exact ⟨k + 1, by omega, by go_num, by rw [HN3.out], HN1.out, trivial⟩
        case measure => simp [intOf]; omega
      · have hx3 : (x == 3) = false := by rw [beq_eq_false_iff_ne]; exact h3
        have hn3 := Hn3.out
        rw [hx3] at hn3
        simp at hn3
        have HN3 := Lib.hid hn3
        clear hn3 Hh Hn1 Hn3 h1 h3
        go_wp2_with fail
        go_roundw
        case rel => exact ⟨k + 1, by omega, by go_num, by rw [HN3.out], HN1.out, trivial⟩
        case measure => simp [intOf]; omega
end Go.Proofs.YtkflanjlnbdkmaaGreatDoor

/- dynamic.settle. -/
namespace Go.Proofs.YtkflanjlnbdkmaaGreatDoor
open Go.ChangeShapes Go.WideShapes Go.ChangeAt Go.RowKit

def isThree : Option Value → Bool
  | some (.int .i64 3) => true
  | _ => false
def undW (g n : Nat) (w : World) : Nat := (List.range n).countP fun k => isThree (w.cell? ⟨g, k, none⟩)
theorem isThree_int (x : Int) : isThree (some (.int .i64 x)) = (x == 3) := by
  by_cases h : x = 3
  · subst h; rfl
  · rw [show (x == 3) = false by rw [beq_eq_false_iff_ne]; exact h]
    unfold isThree
    split
    · rename_i e
      injection e with e
      injection e with _ e
      exact absurd e h
    · rfl
theorem undW_eq {w : World} {b g c n : Nat} {L : Nat → Int} (h : OwnF w b (some ⟨g, 0, none⟩) c n L) : undW g n w = undN n L := by
  unfold undW undN
  rw [List.countP_eq_length_filter]
  congr 1
  apply List.filter_congr
  intro k hk
  rw [h.cell (List.mem_range.1 hk), isThree_int]
/-- how much work is left, read off the world -/
def mW (g n m : Nat) (v : Value) (w : World) : Nat := undW g n w * (m + 1) + lenOf v
def blkOf : Option Addr → Nat
  | some a => a.block
  | none => 0
theorem mW_eq {w : World} {b c n : Nat} {B : Option Addr} {l : List (Int × Int)} {L : Nat → Int} {q : List Int} {A : Option Addr} {d : Nat} (h : OwnF w b B c n L) : mW (blkOf B) n l.length (.slice A q.length d) w = wkM n l L q := by
  unfold mW wkM
  by_cases hn : 0 < n
  · obtain ⟨g, rfl, _, _, _⟩ := h.pos hn
    rw [show blkOf (some ⟨g, 0, none⟩) = g from rfl, undW_eq h]; rfl
  · have : n = 0 := by omega
    subst this
    simp [undW, undN]; rfl
/-- the call settles the labels that v holds -/
def RetSt (base : Nat) (B : Option Addr) (d n : Nat) (G : Nat → Int) (w : World) : Ending → World → Prop := fun e w' => e = .returned (.tuple #[]) ∧ OwnF w' base B d n G ∧ w.grownBy w' (Value.slice B n d).ownBlock
theorem boxed21 (w : World) (t u : TypeId) (x y z : Value) : ∃ W0, (w.alloc (.cells #[x, y] t)).alloc (.cells #[z] u) = W0 ∧ Blk W0 w.heap.size t #[x, y] ∧ Blk W0 (w.heap.size + 1) u #[z] ∧ Below w.heap.size w W0 ∧ w.heap.size + 1 < W0.heap.size := by
  refine ⟨_, rfl, (Blk.new w t #[x, y]).alloc _, ?_, ((Below.refl _ _).alloc (Nat.le_refl _) _).alloc (by simp) _, by simp⟩
  have := Blk.new (w.alloc (.cells #[x, y] t)) u #[z]
  simpa using this
theorem OwnQ.zero {w : World} {b g o : Nat} (h1 : b ≤ g) (h2 : g < w.heap.size) : OwnQ w b (.slice (some ⟨g, o, none⟩) 0 0) [] :=
  .inr ⟨g, o, 0, rfl, h1, h2, Nat.le_refl _, Nat.zero_le _, (fun j u hu => by cases hu), fun j hj => absurd hj (by omega)⟩
theorem OwnQ.form {w : World} {b : Nat} {v : Value} {l : List Int} (h : OwnQ w b v l) : ∃ A c, v = .slice A l.length c := by
  rcases h with ⟨rfl, rfl⟩ | ⟨g, o, cap, rfl, _⟩
  · exact ⟨none, 0, rfl⟩
  · exact ⟨_, _, rfl⟩
theorem RP.set_far {w : World} {A : Option Addr} {l : List (Int × Int)} (h : RP w A l) {g : Nat} (hq : ∀ b o, A = some ⟨b, o, none⟩ → 0 < l.length → b ≠ g) (i : Nat) (x : Value) : RP (w.setCell ⟨g, i, none⟩ x) A l := fun j hj => by
  obtain ⟨b, o, e, h1, h2⟩ := h j hj
  have := hq b o e (by omega)
  exact ⟨b, o, e, by rw [World.cell?_setCell_other _ _ _ _ (by simp; try omega)]; exact h1, by rw [World.cell?_setCell_other _ _ _ _ (by simp; try omega)]; exact h2⟩
set_option maxRecDepth 100000 in
set_option maxHeartbeats 4000000 in
theorem dsettle_any (A : Option Addr) (n : Nat) (l : List (Int × Int)) (c : Nat) (B : Option Addr) (d : Nat) (L0 : Nat → Int) (F : Option Addr) (q0 : List Int) (f base : Nat) (w : World) (hr : RP w A l) (hA : ∀ b o, A = some ⟨b, o, none⟩ → 0 < l.length → some b ≠ (Value.slice B n d).ownBlock) (hv : Vld n l) (hl16 : l.length ≤ 1600)
    (hown : OwnF w base B d n L0) (hF : RI w F q0) (hFn : F = none → q0 = [] ∧ f = 0) (hq0 : q0.length ≤ 40) (hwk : WkI n l L0 q0) (hT : Tab w) (htb : 0 < base) :
    Calls Tryz.prog 48 #[.agg #[.int .i64 (n : Int), .slice A l.length c], .slice B n d, .slice F q0.length f] w (RetSt base B d n (grL n l) w) := by
  have hn40 := hv.1.1
  have hmf : ∀ fn first cap w, (Instr.makeFunc fn first cap).run Tryz.prog w = .ok (.func fn first cap) w := fun _ _ _ _ => rfl
  go_enter Tryz.func48, Tryz.ntmps48
  go_upto_region 1 with fail
  obtain ⟨W0, hW, k0, k1, hb0, hlt0⟩ := boxed21 w 24 25 (.int .i64 (n : Int)) (.slice A l.length c) (.slice B n d)
  rw [hW]
  have hkB : ∀ k, (Value.slice B n d).ownBlock = some k → base ≤ k ∧ k < w.heap.size := fun k e => World.ownsRow.lt hown k e
  have hr0 := hr.below hb0
  have hown0 := hown.below hb0
  have hT0 := hT.below hb0
  have hcl := cloneI_any F q0 f W0 (hF.below hb0) hFn (by omega)
  have hAl : ∀ b o, A = some ⟨b, o, none⟩ → 0 < l.length → b < w.heap.size := fun b o e hl => hr.lt e hl
  have HAl := Lib.hid hAl
  clear hW hr hown hT hF hAl
  go_wp2_with fail
  refine hcl.mono ?_
  rintro e w1 ⟨Q1, e1, rfl, hoq, _, _, hb1⟩
  have k01 := k0.below hb1 k0.lt
  have k11 := k1.below hb1 k1.lt
  have hq1 := OwnI.toQ hoq
  have hr1 := hr0.below hb1
  have hown1 := hown0.below hb1
  have hT1 := hT0.below hb1
  have hbb1 := endB hb0 hb1
  have hs1 := hb1.size
  have hg1 : w.grownBy w1 (Value.slice B n d).ownBlock := grownBy_of_below hbb1 _
  have hs0 := hb0.size
  have hm0 : wkM n l L0 q0 ≤ 70000 := by
    unfold wkM
    have := undN_le n L0
    have : undN n L0 * (l.length + 1) ≤ 40 * 1601 := Nat.mul_le_mul (by omega) (by omega)
    omega
  have Hq1 := Lib.hid hq1; have Hown1 := Lib.hid hown1; have Hwk := Lib.hid hwk; have Hr1 := Lib.hid hr1; have HT1 := Lib.hid hT1; have Hg1 := Lib.hid hg1; have Hv := Lib.hid hv; have HA := Lib.hid hA
  clear hq1 hown1 hr1 hT1 hg1 hcl k0 k1 hr0 hown0 hT0 hb1 hoq hwk hv hA hbb1
  go_wp2_with fail
  go_loopw [6] (fun v wr => ∃ (L : Nat → Int) (q : List Int) (Q : Option Addr) (e : Nat), v = .slice Q q.length e ∧ OwnQ wr W0.heap.size v q ∧ OwnF wr base B d n L ∧ WkI n l L q ∧ wkM n l L q ≤ 70000 ∧ w.grownBy wr (Value.slice B n d).ownBlock ∧ Blk wr w.heap.size 24 #[.int .i64 (n : Int), .slice A l.length c] ∧ Blk wr (w.heap.size + 1) 25 #[.slice B n d] ∧ RP wr A l ∧ Tab wr ∧ W0.heap.size ≤ wr.heap.size) (fun v wr => mW (blkOf B) n l.length v wr)
  case atStart => exact ⟨L0, q0, Q1, e1, rfl, Hq1.out, Hown1.out, Hwk.out, hm0, Hg1.out, k01, k11, Hr1.out, HT1.out, hs1⟩
  case round =>
    clear Hq1 Hown1 Hwk Hr1 HT1 Hg1 k01 k11 hm0 hq0
    obtain ⟨L, q, Q, e, rfl, hq, hown, hwk, hm, hg, k0, k1, hr, hT, hs⟩ := hrel
    have Hme := Lib.hid (mW_eq (l := l) (q := q) (A := Q) (d := e) hown)
    cases q with
    | nil =>
      have hdone := hwk.done Hv.out.1
      have hfin := hown.congr hdone
      have Hfin := Lib.hid hfin; have Hg := Lib.hid hg
      clear hq hown hwk hg hdone hfin hr hT
      go_wp2_with fail
      refine bodyPost_ret (v := .tuple #[]) (by simp [results, Tryz.results48, go_sem]) rfl ?_
      exact ⟨rfl, Hfin.out, Hg.out⟩
    | cons x q =>
      obtain ⟨i, rfl, hi⟩ : ∃ i : Nat, x = (i : Int) ∧ i < n := by
        obtain ⟨i, h1, h2⟩ := hwk.inr x (List.mem_cons_self ..)
        exact ⟨i, h2, h1⟩
      obtain ⟨gQ, o, cap, eQ, hbQ, hle, hcm, hcQ, hpop⟩ := hq.pop
      injection eQ with e1 _ e3
      subst e1 e3
      obtain ⟨gB, rfl, hbB, hgB, hfB⟩ := hown.pos (by omega)
      have hgBw := (hkB gB rfl).2
      have hql := wkM_le hm
      simp only [List.length_cons] at hql
      obtain ⟨b0, _, _, _⟩ : wr.cell? ⟨w.heap.size + 1, 0, none⟩ = some (.slice (some ⟨gB, 0, none⟩) n d) ∧ True ∧ True ∧ True := ⟨by rw [k1.cell]; rfl, trivial, trivial, trivial⟩
      have hci := hown.cell hi
      have hi' : (i : Int) < (n : Int) := by omega
      have hi0 : (0 : Int) ≤ (i : Int) := by omega
      have h1q : (1 : Int) ≤ (q.length : Int) + 1 := by omega
      have Hpop := Lib.hid hpop; have Hown := Lib.hid hown; have Hwk := Lib.hid hwk; have Hg := Lib.hid hg; have Hm := Lib.hid hm; have Hr := Lib.hid hr; have HT := Lib.hid hT
      clear hpop hown hwk hg hm hr hT hq
      go_upto_region 6 with fail
      obtain ⟨Q2, hQ2⟩ : ∃ Q2, (if cap = 0 then some ⟨gQ, o, none⟩ else some ⟨gQ, o + 1, none⟩ : Option Addr) = Q2 := ⟨_, rfl⟩
      rw [hQ2]
      have hq2 : OwnQ wr W0.heap.size (.slice Q2 q.length cap) q := by
        by_cases hcap : cap = 0
        · rw [if_pos hcap] at hQ2
          subst hcap
          have hqn : q = [] := List.eq_nil_of_length_eq_zero (by omega)
          subst hqn
          rw [← hQ2]
          exact OwnQ.zero hbQ (Hpop.out.lt gQ rfl).2
        · rw [if_neg hcap] at hQ2
          rw [← hQ2]
          exact Hpop.out
      have Hq2 := Lib.hid hq2
      clear hQ2 hq2 Hpop
      by_cases h3 : L i = 3
      case neg =>
        have hd : (L i != 3) = true := by rw [bne_iff_ne]; exact h3
        have H3 := Lib.hid h3
        have hlt : wkM n l L q < wkM n l L ((i : Int) :: q) := by unfold wkM; simp only [List.length_cons]; omega
        have Hlt := Lib.hid hlt
        clear h3 hlt
        go_wp2_with fail
        go_roundw
        case rel => exact ⟨L, q, Q2, cap, rfl, Hq2.out, Hown.out, Hwk.out.skip H3.out, by have := Hm.out; have := Hlt.out; omega, Hg.out, k0, k1, Hr.out, HT.out, hs⟩
        case measure => rw [Hme.out, mW_eq Hown.out]; exact Hlt.out
      case pos =>
      have hd : (L i != 3) = false := by rw [h3]; rfl
      have hq2l : ∀ k, (Value.slice Q2 q.length cap).ownBlock = some k → W0.heap.size ≤ k := fun k hk => (Hq2.out.lt k hk).1
      have hlab := fun W (hb : Below wr.heap.size wr W) => dlabel_any A n l c (some ⟨gB, 0, none⟩) d L i w.heap.size (w.heap.size + 1) W (Hr.out.below hb) Hv.out (Hown.out.ri.below hb) (k0.below hb k0.lt) (k1.below hb k1.lt) (HT.out.below hb)
      obtain ⟨x, hx⟩ : ∃ x, labS l L i = x := ⟨_, rfl⟩
      rw [hx] at hlab
      have Hlab := Lib.hid hlab; have Hx := Lib.hid hx; have H3 := Lib.hid h3
      clear hlab hx h3
      go_upto_region 7 with fail
      refine wp_region_textZ [4, 6] (fun w' => Below wr.heap.size wr w') (fun _ => True) (by kernel_rfl) (by kernel_rfl) (by kernel_rfl) (by kernel_rfl) (Below.refl _ _).drew trivial ?_
      repeat (first
        | (refine TxtZL.skip (by rfl) ?_; simp only [Act.put, List.setIfInBounds_toArray, List.set_cons_zero, List.set_cons_succ])
        | (refine TxtZL.take (by rfl) (by rfl) ?_; apply Exists.intro; refine ⟨fun w1 hS1 => ?_, ?_⟩; (focus ((have g0 := (hS1.cell (lt_of_cell b0)).trans b0); go_simp; with_reducible rfl)); simp only [Act.put, List.setIfInBounds_toArray, List.set_cons_zero, List.set_cons_succ])
        | (refine TxtZL.takeE' (by rfl) (by rfl) ?_; apply Exists.intro; refine ⟨fun w1 hS1 => ?_, ?_⟩; (focus ((have g0 := (hS1.cell (lt_of_cell b0)).trans b0); go_simp; with_reducible rfl)); simp only [Act.put, List.setIfInBounds_toArray, List.set_cons_zero, List.set_cons_succ]))
      refine TxtZL.call (f := 71) (args := #[.int .i64 (i : Int), .pointer (some ⟨w.heap.size, 0, none⟩), .pointer (some ⟨w.heap.size + 1, 0, none⟩)]) (fun u => u = .int .i64 x) (fun _ _ => True) (by rfl) (by rfl) ⟨_, rfl⟩ (fun w1 hS1 hJ1 => by go_simp) (fun w1 hS1 hJ1 => ?_) ?_
      · exact (Hlab.out w1 hS1).mono fun _ _ h => ⟨_, h.1, hS1.trans (h.2.mono hS1.size), rfl, trivial⟩
      rintro v rfl
      simp only [Act.put, List.setIfInBounds_toArray, List.set_cons_zero, List.set_cons_succ]
      repeat (first
        | (refine TxtZL.skip (by rfl) ?_; simp only [Act.put, List.setIfInBounds_toArray, List.set_cons_zero, List.set_cons_succ])
        | (refine TxtZL.take (by rfl) (by rfl) ?_; apply Exists.intro; refine ⟨fun w1 hS1 => ?_, ?_⟩; (focus (skip; go_simp; with_reducible rfl)); simp only [Act.put, List.setIfInBounds_toArray, List.set_cons_zero, List.set_cons_succ])
        | (refine TxtZL.takeE' (by rfl) (by rfl) ?_; apply Exists.intro; refine ⟨fun w1 hS1 => ?_, ?_⟩; (focus (skip; go_simp; with_reducible rfl)); simp only [Act.put, List.setIfInBounds_toArray, List.set_cons_zero, List.set_cons_succ]))
      refine TxtZL.last (fun w' => ∃ X, w' = X.setCell ⟨gB, i, none⟩ (.int .i64 x) ∧ Below wr.heap.size wr X) (by rfl) (by rfl) (fun w2 hS1 hJ1 => ?_) ?_
      · have g1 := (hS1.cell (lt_of_cell hci)).trans hci
        have g2 : w2.frozen? ⟨gB, i, none⟩ = false := (World.frozen?_of_block (a := ⟨gB, i, none⟩) (hS1.block gB hgB)).trans (hfB i)
        exact Eff.skip (w' := w2.setCell ⟨gB, i, none⟩ (.int .i64 x)) (by go_simp) ⟨w2, rfl, hS1⟩
      rintro v w3 ⟨X, rfl, hbX⟩
      have hsX : wr.heap.size ≤ X.heap.size := hbX.size
      have hw1 := Hg.out.size
      have hownX := (Hown.out.below hbX).store hi x
      have hqX := (Hq2.out.below hbX).far (g := gB) (fun e => by have := hq2l gB e; omega) i (.int .i64 x)
      have k0X := (k0.below hbX k0.lt).far (p := ⟨gB, i, none⟩) (by simp; omega) (.int .i64 x)
      have k1X := (k1.below hbX k1.lt).far (p := ⟨gB, i, none⟩) (by simp; omega) (.int .i64 x)
      have hrX := (Hr.out.below hbX).set_far (g := gB) (fun b' o' e hl => fun hh => HA.out b' o' e hl (by rw [hh]; rfl)) i (.int .i64 x)
      have hTX : Tab (X.setCell ⟨gB, i, none⟩ (.int .i64 x)) := (HT.out.below hbX).grown (grownBy_setCell X gB i _) (by omega)
      have hgX : w.grownBy (X.setCell ⟨gB, i, none⟩ (.int .i64 x)) (Value.slice (some ⟨gB, 0, none⟩) n d).ownBlock := grownBy_trans (grownBy_trans Hg.out (grownBy_of_below hbX _)) (grownBy_setCell X gB i _)
      have b0X : (X.setCell ⟨gB, i, none⟩ (.int .i64 x)).cell? ⟨w.heap.size + 1, 0, none⟩ = some (.slice (some ⟨gB, 0, none⟩) n d) := by rw [k1X.cell]; rfl
      have hxX := hownX.cell hi
      rw [upd_same] at hxX
      obtain ⟨c0X, c1X, _, _⟩ := k0X.two
      have hs3 : W0.heap.size ≤ (X.setCell ⟨gB, i, none⟩ (.int .i64 x)).heap.size := by simp; omega
      obtain ⟨W3, hW3⟩ : ∃ W3, X.setCell ⟨gB, i, none⟩ (.int .i64 x) = W3 := ⟨_, rfl⟩
      rw [hW3] at hownX hqX k0X k1X hrX hTX hgX b0X hxX c0X c1X hs3 ⊢
      have HownX := Lib.hid hownX; have HqX := Lib.hid hqX; have HrX := Lib.hid hrX; have HTX := Lib.hid hTX; have HgX := Lib.hid hgX
      simp only [Act.put]
      clear hownX hqX hrX hTX hgX hW3 hbX hsX Hown Hq2 k0 k1 Hr HT Hg b0 hci hd Hlab
      by_cases hx3 : x = 3
      · have hd : (x != 3) = false := by rw [hx3]; rfl
        have Hx3 := Lib.hid hx3
        have hlt : wkM n l L q < wkM n l L ((i : Int) :: q) := by unfold wkM; simp only [List.length_cons]; omega
        have Hlt := Lib.hid hlt
        have hown2 := HownX.out.congr (f' := L) fun j hj => by
          by_cases e : j = i
          · subst e; rw [upd_same, hx3, H3.out]
          · rw [upd_ne e]
        have Hown2 := Lib.hid hown2
        clear hx3 hlt hown2
        go_wp2_with fail
        go_roundw
        case rel => exact ⟨L, q, Q2, cap, rfl, HqX.out, Hown2.out, Hwk.out.none (by rw [Hx.out, Hx3.out]), by have := Hm.out; have := Hlt.out; omega, HgX.out, k0X, k1X, HrX.out, HTX.out, hs3⟩
        case measure => rw [Hme.out, mW_eq Hown2.out]; exact Hlt.out
      · have hd : (x != 3) = true := by rw [bne_iff_ne]; exact hx3
        have hlx : labS l L i ≠ 3 := by rw [Hx.out]; exact hx3
        have hwk2 := Hwk.out.step Hv.out.1 hi hlx
        have hlt := wkM_step (l := l) (q := q) hi H3.out hx3
        rw [Hx.out] at hwk2
        have hatt := gAttacked_any A n l c i W3 HrX.out Hv.out.1.2.1 HTX.out
        rw [nGl_vld Hv.out] at hatt
        have hal := attacked_len l (i : Int)
        have Hwk2 := Lib.hid hwk2; have Hlt := Lib.hid hlt; have Hatt := Lib.hid hatt
        clear hwk2 hlt hatt hx3 hlx
        go_wp2_with fail
        refine Hatt.out.mono ?_
        rintro e w4 ⟨A4, c4, rfl, ho4, hr4, _, hb4⟩
        obtain ⟨A5, c5, e5, hr5, hn5⟩ := OwnI.form2 ho4
        injection e5 with e6 _ e7
        subst e6 e7
        have Hq4 := Lib.hid (HqX.out.below hb4)
        have Hr5 := Lib.hid hr5
        have k04 := k0X.below hb4 k0X.lt
        have k14 := k1X.below hb4 k1X.lt
        have Hown4 := Lib.hid (HownX.out.below hb4)
        have Hr4 := Lib.hid (HrX.out.below hb4)
        have HT4 := Lib.hid (HTX.out.below hb4)
        have Hg4 := Lib.hid (grownBy_trans HgX.out (grownBy_of_below hb4 _))
        have hs4 : W0.heap.size ≤ w4.heap.size := Nat.le_trans hs3 hb4.size
        clear ho4 hr4 hr5 hb4 HqX HownX HrX HTX HgX k0X k1X b0X hxX c0X c1X
        go_wp2_with (at_builtin; refine wpList_appQ (by rfl) _ _ (by rfl) w4 W0.heap.size _ q A4 (attackedL l i) c4 Hq4.out Hr5.out hn5 (by rfl) (by rfl) (by omega) hs4 ?_; intro v5 w5 hq5 hb5 hg5 _; have Hq5 := Lib.hid hq5; have Hb5 := Lib.hid hb5; have Hg5 := Lib.hid hg5; clear hq5 hb5 hg5)
        have hown5 : OwnF w5 base (some ⟨gB, 0, none⟩) d n (upd L i x) := World.ownsRow.kept Hown4.out Hg5.out (.inr fun e => by have := hq2l gB e.symm; omega)
        have k05 : Blk w5 w.heap.size 24 #[.int .i64 (n : Int), .slice A l.length c] := (Hb5.out.block _ (by omega)).trans k04
        have k15 : Blk w5 (w.heap.size + 1) 25 #[.slice (some ⟨gB, 0, none⟩) n d] := (Hb5.out.block _ hlt0).trans k14
        have hr6 : RP w5 A l := fun j hj => by
          obtain ⟨b', o', e', h1, h2⟩ := Hr4.out j hj
          have hbl := HAl.out b' o' e' (by omega)
          exact ⟨b', o', e', (Hb5.out.cell (show b' < W0.heap.size by omega)).trans h1, (Hb5.out.cell (show b' < W0.heap.size by omega)).trans h2⟩
        have hT6 : Tab w5 := fun j hj => (Hb5.out.cell (p := ⟨0, j, none⟩) (by show 0 < W0.heap.size; omega)).trans (HT4.out j hj)
        have hg6 : w.grownBy w5 (Value.slice (some ⟨gB, 0, none⟩) n d).ownBlock :=
          ⟨Hb5.out.os.trans Hg4.out.os, Hb5.out.tape.trans Hg4.out.tape, Hb5.out.output.trans Hg4.out.output, Nat.le_trans Hg4.out.size Hb5.out.size, fun k hk hne => (Hb5.out.block k (by omega)).trans (Hg4.out.block k hk hne)⟩
        have hs5 : W0.heap.size ≤ w5.heap.size := Nat.le_trans hs4 Hb5.out.size
        obtain ⟨A6, c6, rfl⟩ := Hq5.out.form
        go_roundw
        case rel => exact ⟨upd L i x, q ++ attackedL l i, A6, c6, rfl, Hq5.out, hown5, Hwk2.out, by have := Hm.out; have := Hlt.out; omega, hg6, k05, k15, hr6, hT6, hs5⟩
        case measure => rw [Hme.out, mW_eq hown5]; exact Hlt.out
end Go.Proofs.YtkflanjlnbdkmaaGreatDoor
