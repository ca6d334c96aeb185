import Derived.Test.YtncimnfhfomddaaDoorStcW
/- enforce.Strict. -/
namespace Go.Proofs.YtncimnfhfomddaaDoor
open Go.ChangeShapes Go.WideShapes Go.ChangeAt Go.RowKit

def stErr (N : Int) (G : List (Int × Int)) (s : List Int) (kind : Int) : Int := if arE N G s kind = 0 then if hpB N s kind = true then 9 else 0 else arE N G s kind
/-- Strict's answer -/
def RetEs (N : Int) (G : List (Int × Int)) (s : List Int) (kind : Int) (w : World) : Ending → World → Prop := fun e w' => Below w.heap.size w w' ∧
  ((stErr N G s kind ≠ 0 ∧ e = .returned (.tuple #[.agg #[.slice none 0 0, .slice none 0 0, .slice none 0 0], .int .i64 (stErr N G s kind)])) ∨
   (stErr N G s kind = 0 ∧ ∃ AC cC AH cH AD cD, e = .returned (.tuple #[.agg #[.slice AC s.length cC, .slice AH (strC N.toNat G s kind).length cH, .slice AD (dutL N.toNat G s kind).length cD], .int .i64 0]) ∧
     RI w' AC s ∧ RP w' AH (strC N.toNat G s kind) ∧ RTo w' AD (dutL N.toNat G s kind)))
theorem arE_ok {N : Int} {G : List (Int × Int)} {s : List Int} {kind : Int} (h : arE N G s kind = 0) : valE N G = 0 ∧ (kind = 1 ∨ kind = 2) ∧ setB N s = true := by
  unfold arE at h
  split at h
  · rename_i h1
    split at h
    · rename_i h2
      split at h
      · rename_i h3; exact ⟨h1, h2, h3⟩
      · cases h
    · cases h
  · rename_i h1; exact absurd h h1
theorem en_put {w X : World} (a b c : Value) (hk : Blk X (w.heap.size + 1) 28 #[.slice none 0 0, .slice none 0 0, .slice none 0 0]) (hb : Below w.heap.size w X) :
    ∃ Y, ((X.setCell ⟨w.heap.size + 1, 0, none⟩ a).setCell ⟨w.heap.size + 1, 1, none⟩ b).setCell ⟨w.heap.size + 1, 2, none⟩ c = Y ∧ Below w.heap.size w Y ∧ Y.cell? ⟨w.heap.size + 1, 0, none⟩ = some a ∧ Y.cell? ⟨w.heap.size + 1, 1, none⟩ = some b ∧ Y.cell? ⟨w.heap.size + 1, 2, none⟩ = some c := by
  have k := ((hk.set_ 0 a).set_ 1 b).set_ 2 c
  exact ⟨_, rfl, ((hb.setCell (p := ⟨w.heap.size + 1, 0, none⟩) (Nat.le_succ _) _).setCell (p := ⟨w.heap.size + 1, 1, none⟩) (Nat.le_succ _) _).setCell (p := ⟨w.heap.size + 1, 2, none⟩) (Nat.le_succ _) _, k.cell 0, k.cell 1, k.cell 2⟩
set_option maxRecDepth 100000 in
set_option maxHeartbeats 4000000 in
theorem enStrict_any (A : Option Addr) (N : Int) (G : List (Int × Int)) (c : Nat) (Bs : Option Addr) (s : List Int) (cs : Nat) (kind : Int) (w : World) (hr : RP w A G) (hl : G.length ≤ 100000) (hs : RI w Bs s) (hsn : Bs = none → s = [] ∧ cs = 0) (hls : s.length ≤ 100000) (hT : Tab w) :
    Calls Tryd.prog 27 #[.agg #[.int .i64 N, .slice A G.length c], .slice Bs s.length cs, .int .i64 kind] w (RetEs N G s kind w) := by
  have Hsn := Lib.hid hsn
  clear hsn
  go_enter Tryd.func27, Tryd.ntmps27
  go_wp2_with fail
  obtain ⟨W0, hW, k0, hb0, hs0⟩ := boxG w N A G.length c
  rw [hW]
  obtain ⟨W1, hW1, k1, hb1, hs1'⟩ := boxE W0
  rw [hW1]
  have hb01 := endB hb0 hb1
  have k01 := k0.below hb1 k0.lt
  rw [hs0] at k1
  clear hW hW1 k0 hb0 hb1
  refine (enArg_any A N G c Bs s cs kind W1 (hr.below hb01) hl (hs.below hb01) hls).mono ?_
  rintro e w2 ⟨rfl, hb2⟩
  have hbb2 := endB hb01 hb2
  have k12 := k1.below hb2 k1.lt
  have k02 := k01.below hb2 k01.lt
  obtain ⟨d0, d1, _, _⟩ := k02.two
  by_cases ha : arE N G s kind = 0
  case neg =>
    have he : stErr N G s kind = arE N G s kind := by unfold stErr; rw [if_neg ha]
    have hd : (arE N G s kind != 0) = true := by simp [ha]
    obtain ⟨Y, hY, hbY, e0, e1, e2⟩ := en_put (.slice none 0 0) (.slice none 0 0) (.slice none 0 0) k12 hbb2
    rw [← hY] at e0 e1 e2
    have HbY := Lib.hid hbY
    rw [← hY] at HbY
    clear hY hbY
    obtain ⟨y0, y1, y2, _, _⟩ := k12.threeE
    have z0 := k12.frozen 0
    go_wp2_with fail
    refine bodyPost_ret (v := .tuple #[.agg #[.slice none 0 0, .slice none 0 0, .slice none 0 0], .int .i64 (arE N G s kind)]) (by simp only [results, Tryd.results27]; simp [go_sem, e0, e1, e2]) rfl ?_
    exact ⟨HbY.out, .inl ⟨by rw [he]; exact ha, by rw [he]⟩⟩
  have hd : (arE N G s kind != 0) = false := by simp [ha]
  have Ha := Lib.hid ha
  clear ha
  go_wp2_with fail
  refine (enHop_any A N G c Bs s cs kind w2).mono ?_
  rintro e w3 ⟨rfl, hb3⟩
  have hbb3 := endB hbb2 hb3
  have k13 := k12.below hb3 k12.lt
  have k03 := k02.below hb3 k02.lt
  clear d0 d1 k12 k02
  obtain ⟨d0, d1, _, _⟩ := k03.two
  cases hh : hpB N s kind
  case true =>
    have he : stErr N G s kind = 9 := by unfold stErr; rw [if_pos Ha.out, hh]; rfl
    obtain ⟨Y, hY, hbY, e0, e1, e2⟩ := en_put (.slice none 0 0) (.slice none 0 0) (.slice none 0 0) k13 hbb3
    rw [← hY] at e0 e1 e2
    have HbY := Lib.hid hbY
    rw [← hY] at HbY
    clear hY hbY
    obtain ⟨y0, y1, y2, _, _⟩ := k13.threeE
    have z0 := k13.frozen 0
    go_wp2_with fail
    refine bodyPost_ret (v := .tuple #[.agg #[.slice none 0 0, .slice none 0 0, .slice none 0 0], .int .i64 9]) (by simp only [results, Tryd.results27]; simp [go_sem, e0, e1, e2]) rfl ?_
    exact ⟨HbY.out, .inl ⟨by rw [he]; decide, by rw [he]⟩⟩
  obtain ⟨hv0, hk, hsb⟩ := arE_ok Ha.out
  obtain ⟨n, rfl, hv⟩ := vld_of_valE hv0 hl
  have he : stErr n G s kind = 0 := by unfold stErr; rw [if_pos Ha.out, hh]; rfl
  have hst := strict_any A n G c Bs s cs kind w3 (hr.below hbb3) hv (hs.below hbb3) Hsn.out hsb (hT.below hbb3) hk hh
  obtain ⟨C, hC⟩ : ∃ C, strC n G s kind = C := ⟨_, rfl⟩
  obtain ⟨L, hL⟩ : ∃ L, dutL n G s kind = L := ⟨_, rfl⟩
  rw [hC, hL] at hst
  have Hst := Lib.hid hst; have HC := Lib.hid hC; have HL := Lib.hid hL; have He := Lib.hid he
  clear hst hC hL hsb hv hv0 hk he
  go_wp2_with fail
  refine Hst.out.mono ?_
  rintro e w4 ⟨AC, cC, AH, cH, AD, cD, xs, rfl, h1, h2, h3, h4, hb4⟩
  have hbb4 := endB hbb3 hb4
  have k14 := k13.below hb4 k13.lt
  have hg9 : ∀ a b c, w4.grownBy (((w4.setCell ⟨w.heap.size + 1, 0, none⟩ a).setCell ⟨w.heap.size + 1, 1, none⟩ b).setCell ⟨w.heap.size + 1, 2, none⟩ c) (some (w.heap.size + 1)) := fun a b c => grownBy_trans (grownBy_trans (grownBy_setCell w4 _ 0 _) (grownBy_setCell _ _ 1 _)) (grownBy_setCell _ _ 2 _)
  have hgq := hg9 (.slice AC s.length cC) (.slice AH C.length cH) (.slice AD L.length cD)
  obtain ⟨Y, hY, hbY, e0, e1, e2⟩ := en_put (.slice AC s.length cC) (.slice AH C.length cH) (.slice AD L.length cD) k14 hbb4
  rw [hY] at hgq
  have q1 : RI Y AC s := OwnI.ri (c := cC) (World.ownsRow.kept h1 hgq (.inr (own_apart h1 k14 (by decide))))
  have q2 : RP Y AH C := OwnP.rp' (c := cH) (World.ownsRow.kept h2 hgq (.inr (own_apart h2 k14 (by decide))))
  obtain ⟨A9, c9, e9, q3, _⟩ := OwnTS.forms (World.ownsRow.kept h3 hgq (.inr (own_apart h3 k14 (by decide)))) (h4.apartB k14 (by decide) hgq)
  simp only [Value.slice.injEq, true_and] at e9
  obtain ⟨e9a, e9b⟩ := e9
  subst e9a
  subst e9b
  have H9 := Lib.hid (And.intro hbY (And.intro q1 (And.intro q2 q3)))
  rw [← hY] at e0 e1 e2 H9
  clear hY hbY q1 q2 q3 hgq hg9 h1 h2 h3 h4 d0 d1
  obtain ⟨y0, y1, y2, _, _⟩ := k14.threeE
  have z0 := k14.frozen 0
  go_wp2_with fail
  refine bodyPost_ret (v := .tuple #[.agg #[.slice AC s.length cC, .slice AH C.length cH, .slice AD L.length cD], .int .i64 0]) (by simp only [results, Tryd.results27]; simp [go_sem, e0, e1, e2]) rfl ?_
  refine ⟨H9.out.1, .inr ⟨He.out, AC, cC, AH, cH, AD, cD, ?_⟩⟩
  rw [Int.toNat_natCast, HC.out, HL.out]
  exact ⟨rfl, H9.out.2.1, H9.out.2.2.1, H9.out.2.2.2⟩
end Go.Proofs.YtncimnfhfomddaaDoor
