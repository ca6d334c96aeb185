import Derived.Test.YtncimnfhfomddaaDoorStkW
import Derived.Test.YtncimnfhfomddaaDoorPq
import Derived.Test.YtncimnfhfomddaaDoorEnL
/- enforce: proves, Check. -/
namespace Go.Proofs.YtncimnfhfomddaaDoor
open Go.ChangeShapes Go.WideShapes Go.ChangeAt Go.RowKit

theorem any_stepE {α : Type} (p : α → Bool) (L : List α) {k : Nat} (h : k < L.length) : (L.take (k + 1)).any p = ((L.take k).any p || p L[k]) := by
  rw [List.take_succ_eq_append_getElem h, List.any_append]; simp
set_option maxHeartbeats 1000000 in
theorem pvIn_any (A : Option Addr) (l : List (Int × Int)) (c q : Nat) (f t : Int) (w : World) (hr : RP w A l) (hl : l.length ≤ 100000) (cq : w.cell? ⟨q, 0, none⟩ = some (.slice A l.length c)) :
    Calls Tryd.prog 102 #[.agg #[.int .i64 f, .int .i64 t], .pointer (some ⟨q, 0, none⟩)] w (RetB (.bool (!hasB l f t)) w) := by
  go_enter Tryd.func102, Tryd.ntmps102
  go_upto_region 1 with fail
  obtain ⟨W0, hW, c0, c1, hb0, hlt0⟩ := boxed w 42 (.int .i64 f) (.int .i64 t)
  rw [hW]
  have cq0 := (hb0.cell (p := ⟨q, 0, none⟩) (lt_of_cell cq)).trans cq
  have H := Lib.hid (conE_any A l c f t W0 (hr.below hb0) hl)
  clear hW hr
  go_wp2_with fail
  refine H.out.mono ?_
  rintro e w1 ⟨rfl, hb⟩
  cases hh : hasB l f t
  all_goals
    have Hh := Lib.hid hh
    clear hh
    go_wp2_with fail
    go_ret
    exact ⟨rb (by rw [Hh.out]; rfl), endB hb0 hb⟩
set_option maxRecDepth 100000 in
set_option maxHeartbeats 2000000 in
theorem idxPi_any (A B : Option Addr) (l d : List (Int × Int)) (c cd q : Nat) (w : World) (hr : RP w A l) (hl : l.length ≤ 100000) (hd : RP w B d) (hld : d.length ≤ 100000) (cq : w.cell? ⟨q, 0, none⟩ = some (.slice A l.length c)) :
    Calls Tryd.prog 130 #[.slice B d.length cd, .func (.func 102) #[] #[.pointer (some ⟨q, 0, none⟩)]] w (RetIe (d.any fun p => !hasB l p.1 p.2) w) := by
  go_enter Tryd.func130, Tryd.ntmps130
  go_wp2_with fail
  go_loopw [8] (fun i wr => ∃ k : Nat, k ≤ d.length ∧ i = .int .i64 k ∧ (d.take k).any (fun p => !hasB l p.1 p.2) = false ∧ Below w.heap.size w wr) (fun i _ => d.length - (intOf i).toNat)
  case atStart => exact ⟨0, Nat.zero_le _, rfl, by simp, Below.refl _ _⟩
  case round =>
    obtain ⟨k, hk, rfl, hi, hbl⟩ := hrel
    have Hi := Lib.hid hi; clear hi
    by_cases hlt : k < d.length
    case neg =>
      have hall : (d.any fun p => !hasB l p.1 p.2) = false := by have := Hi.out; rwa [List.take_of_length_le (by omega)] at this
      have Hall := Lib.hid hall
      clear hall
      go_wp2_with fail
      go_ret
      exact ⟨_, rfl, by rw [Hall.out]; rfl, hbl⟩
    case pos =>
    obtain ⟨b, o, rfl, hc0, hc1⟩ := (hd.below hbl).at_ hlt
    have hstp := any_stepE (fun p : Int × Int => !hasB l p.1 p.2) d hlt
    rw [Hi.out, Bool.false_or] at hstp
    have hany : (!hasB l d[k].1 d[k].2) = true → (d.any fun p => !hasB l p.1 p.2) = true := fun h => List.any_eq_true.2 ⟨_, List.getElem_mem hlt, h⟩
    have hb := pvIn_any A l c q d[k].1 d[k].2 wr (hr.below hbl) hl ((hbl.cell (p := ⟨q, 0, none⟩) (lt_of_cell cq)).trans cq)
    have Hb := Lib.hid hb; have Hstp := Lib.hid hstp; have Hany := Lib.hid hany
    clear hb hstp hany
    go_wp2_with fail
    refine Hb.out.mono ?_
    rintro e w1 ⟨rfl, hb1⟩
    cases hp : hasB l d[k].1 d[k].2
    · have Hp := Lib.hid (Hany.out (by rw [hp]; rfl)); clear hp
      go_wp2_with fail
      go_ret
      exact ⟨_, rfl, by rw [Hp.out]; simp, endB hbl hb1⟩
    · have Hp := Lib.hid hp; clear hp
      go_wp2_with fail
      go_roundw
      case rel => exact ⟨k + 1, by omega, by go_num, by rw [Hstp.out, Hp.out]; rfl, endB hbl hb1⟩
      case measure => simp [intOf]; omega
set_option maxHeartbeats 1000000 in
theorem conPi_any (A B : Option Addr) (l d : List (Int × Int)) (c cd q : Nat) (w : World) (hr : RP w A l) (hl : l.length ≤ 100000) (hd : RP w B d) (hld : d.length ≤ 100000) (cq : w.cell? ⟨q, 0, none⟩ = some (.slice A l.length c)) :
    Calls Tryd.prog 101 #[.slice B d.length cd, .func (.func 102) #[] #[.pointer (some ⟨q, 0, none⟩)]] w (RetB (.bool (d.any fun p => !hasB l p.1 p.2)) w) := by
  have H := Lib.hid (idxPi_any A B l d c cd q w hr hl hd hld cq)
  go_enter Tryd.func101, Tryd.ntmps101
  go_wp2_with fail
  refine H.out.mono ?_
  rintro e w1 ⟨i, rfl, hi, hb⟩
  have Hi := Lib.hid hi
  clear hi
  obtain ⟨r, hr⟩ : ∃ r, decide (0 ≤ i) = r := ⟨_, rfl⟩
  cases r
  all_goals
    have Hr := Lib.hid hr
    go_wp2_with fail
    go_ret
    exact ⟨rb (by rw [← Hi.out, Hr.out]), hb⟩
/-- all pairs of d are in l -/
def covB (l d : List (Int × Int)) : Bool := !d.any fun p => !hasB l p.1 p.2
set_option maxHeartbeats 1000000 in
theorem pvAll_any (A B : Option Addr) (l d : List (Int × Int)) (c cd q : Nat) (w : World) (hr : RP w A l) (hl : l.length ≤ 100000) (hd : RP w B d) (hld : d.length ≤ 100000) (cq : w.cell? ⟨q, 0, none⟩ = some (.slice A l.length c)) :
    Calls Tryd.prog 100 #[.slice B d.length cd, .pointer (some ⟨q, 0, none⟩)] w (RetB (.bool (covB l d)) w) := by
  have hmf : ∀ fn first cap w, (Instr.makeFunc fn first cap).run Tryd.prog w = .ok (.func fn first cap) w := fun _ _ _ _ => rfl
  have H := Lib.hid (conPi_any A B l d c cd q w hr hl hd hld cq)
  unfold covB
  go_enter Tryd.func100, Tryd.ntmps100
  go_wp2_with fail
  refine H.out.mono ?_
  rintro e w1 ⟨rfl, hb⟩
  cases hh : d.any fun p => !hasB l p.1 p.2
  all_goals
    have Hh := Lib.hid hh
    clear hh
    go_wp2_with fail
    go_ret
    exact ⟨rb (by rw [Hh.out]; rfl), hb⟩
set_option maxRecDepth 100000 in
set_option maxHeartbeats 2000000 in
theorem idxPo_any (A B : Option Addr) (l : List (Int × Int)) (L : List (List (Int × Int))) (c cd q : Nat) (w : World) (hr : RP w A l) (hl : l.length ≤ 100000) (hd : RTo w B L) (hld : L.length ≤ 1000000) (hll : ∀ d ∈ L, d.length ≤ 100000) (cq : w.cell? ⟨q, 0, none⟩ = some (.slice A l.length c)) :
    Calls Tryd.prog 129 #[.slice B L.length cd, .func (.func 100) #[] #[.pointer (some ⟨q, 0, none⟩)]] w (RetIe (L.any (covB l)) w) := by
  have Hll := Lib.hid hll
  clear hll
  go_enter Tryd.func129, Tryd.ntmps129
  go_wp2_with fail
  go_loopw [8] (fun i wr => ∃ k : Nat, k ≤ L.length ∧ i = .int .i64 k ∧ (L.take k).any (covB l) = false ∧ Below w.heap.size w wr) (fun i _ => L.length - (intOf i).toNat)
  case atStart => exact ⟨0, Nat.zero_le _, rfl, by simp, Below.refl _ _⟩
  case round =>
    obtain ⟨k, hk, rfl, hi, hbl⟩ := hrel
    have Hi := Lib.hid hi; clear hi
    by_cases hlt : k < L.length
    case neg =>
      have hall : (L.any (covB l)) = false := by have := Hi.out; rwa [List.take_of_length_le (by omega)] at this
      have Hall := Lib.hid hall
      clear hall
      go_wp2_with fail
      go_ret
      exact ⟨_, rfl, by rw [Hall.out]; rfl, hbl⟩
    case pos =>
    obtain ⟨b, o, AX, cx, rfl, hc0, hri⟩ := (hd.below hbl) k hlt
    have hstp := any_stepE (covB l) L hlt
    rw [Hi.out, Bool.false_or] at hstp
    have hany : covB l L[k] = true → L.any (covB l) = true := fun h => List.any_eq_true.2 ⟨_, List.getElem_mem hlt, h⟩
    have hlx := Hll.out _ (List.getElem_mem hlt)
    obtain ⟨d, hdd⟩ : ∃ d, L[k] = d := ⟨_, rfl⟩
    rw [hdd] at hc0 hri hstp hany hlx
    have hb := pvAll_any A AX l d c cx q wr (hr.below hbl) hl hri hlx ((hbl.cell (p := ⟨q, 0, none⟩) (lt_of_cell cq)).trans cq)
    have Hb := Lib.hid hb; have Hstp := Lib.hid hstp; have Hany := Lib.hid hany
    clear hb hstp hany hdd
    go_wp2_with fail
    refine Hb.out.mono ?_
    rintro e w1 ⟨rfl, hb1⟩
    cases hp : covB l d
    · have Hp := Lib.hid hp; clear hp
      go_wp2_with fail
      go_roundw
      case rel => exact ⟨k + 1, by omega, by go_num, by rw [Hstp.out]; exact Hp.out, endB hbl hb1⟩
      case measure => simp [intOf]; omega
    · have Hp := Lib.hid (Hany.out hp); clear hp
      go_wp2_with fail
      go_ret
      exact ⟨_, rfl, by rw [Hp.out]; simp, endB hbl hb1⟩
set_option maxHeartbeats 1000000 in
theorem conPo_any (A B : Option Addr) (l : List (Int × Int)) (L : List (List (Int × Int))) (c cd q : Nat) (w : World) (hr : RP w A l) (hl : l.length ≤ 100000) (hd : RTo w B L) (hld : L.length ≤ 1000000) (hll : ∀ d ∈ L, d.length ≤ 100000) (cq : w.cell? ⟨q, 0, none⟩ = some (.slice A l.length c)) :
    Calls Tryd.prog 99 #[.slice B L.length cd, .func (.func 100) #[] #[.pointer (some ⟨q, 0, none⟩)]] w (RetB (.bool (L.any (covB l))) w) := by
  have H := Lib.hid (idxPo_any A B l L c cd q w hr hl hd hld hll cq)
  clear hll
  go_enter Tryd.func99, Tryd.ntmps99
  go_wp2_with fail
  refine H.out.mono ?_
  rintro e w1 ⟨i, rfl, hi, hb⟩
  have Hi := Lib.hid hi
  clear hi
  obtain ⟨r, hr⟩ : ∃ r, decide (0 ≤ i) = r := ⟨_, rfl⟩
  cases r
  all_goals
    have Hr := Lib.hid hr
    go_wp2_with fail
    go_ret
    exact ⟨rb (by rw [← Hi.out, Hr.out]), hb⟩
/-- obligations prove that no fewer changes suffice -/
def prB (n : Nat) (G : List (Int × Int)) (s : List Int) (kind : Int) (C : List (Int × Int)) (O : List (List (Int × Int))) : Bool :=
  decide (O.length = C.length) && (decide O.flatten.Nodup && O.all fun l => (dutL n G s kind).any (covB l))
theorem inM_snoc (G : List (Int × Int)) (p : Int × Int) : setS (inM G) p true = inM (G ++ [p]) := by
  funext q
  unfold setS inM
  by_cases e : q = p
  · rw [if_pos e, if_pos (by simp [e])]
  · rw [if_neg e]
    by_cases h : q ∈ G
    · rw [if_pos h, if_pos (by simp [h])]
    · rw [if_neg h, if_neg (by simp [h, e])]
theorem flat_step {α : Type} {O : List (List α)} {k : Nat} (h : k < O.length) : (O.take (k + 1)).flatten = (O.take k).flatten ++ O[k] := by
  rw [List.take_succ_eq_append_getElem h, List.flatten_append]; simp
theorem flat_le {α : Type} (O : List (List α)) (k : Nat) : (O.take k).flatten.length ≤ O.flatten.length := by
  have : O.flatten = (O.take k).flatten ++ (O.drop k).flatten := by rw [← List.flatten_append, List.take_append_drop]
  rw [this, List.length_append]; omega
theorem flat_bad {α : Type} {O : List (List α)} {k : Nat} (h : ¬ (O.take k).flatten.Nodup) : ¬ O.flatten.Nodup := fun hn => h (by
  have : O.flatten = (O.take k).flatten ++ (O.drop k).flatten := by rw [← List.flatten_append, List.take_append_drop]
  rw [this] at hn
  exact (List.nodup_append.1 hn).1)
theorem nodup_snoc {α : Type} {F : List α} {p : α} (h : F.Nodup) (hp : p ∉ F) : (F ++ [p]).Nodup := by
  rw [List.nodup_append]
  exact ⟨h, by simp, fun a ha b hb e => by rw [List.mem_singleton] at hb; subst hb; subst e; exact hp ha⟩
theorem not_nodup_snoc {α : Type} {F R : List α} {p : α} (hp : p ∈ F) : ¬ (F ++ (p :: R)).Nodup := fun h => by
  rw [List.nodup_append] at h
  exact h.2.2 _ hp p (by simp) rfl
theorem boxEn (w : World) (x y z : Value) : ∃ W0, w.alloc (.cells #[x, y, z] 28) = W0 ∧ Blk W0 w.heap.size 28 #[x, y, z] ∧ Below w.heap.size w W0 ∧ W0.heap.size = w.heap.size + 1 := ⟨_, rfl, Blk.new _ _ _, (Below.refl _ _).alloc (Nat.le_refl _) _, by simp⟩
theorem boxSl (w : World) (x : Value) : ∃ W0, w.alloc (.cells #[x] 22) = W0 ∧ W0.cell? ⟨w.heap.size, 0, none⟩ = some x ∧ Below w.heap.size w W0 ∧ W0.heap.size = w.heap.size + 1 := ⟨_, rfl, (Blk.new w 22 #[x]).cell 0, (Below.refl _ _).alloc (Nat.le_refl _) _, by simp⟩
set_option maxRecDepth 100000 in
set_option maxHeartbeats 4000000 in
theorem proves_any (A : Option Addr) (n : Nat) (G : List (Int × Int)) (c : Nat) (kind : Int) (AC : Option Addr) (s : List Int) (cC : Nat) (AH : Option Addr) (C : List (Int × Int)) (cH : Nat) (AO : Option Addr) (O : List (List (Int × Int))) (cO : Nat) (w : World)
    (hr : RP w A G) (hv : Vld n G) (hs : RI w AC s) (hst : setB n s = true) (hT : Tab w) (hkd : kind = 1 ∨ kind = 2) (hO : RTo w AO O) (hOl : O.length ≤ 1000000) (_hCl : C.length ≤ 1000000) (hOf : O.flatten.length ≤ 100000) (hOi : ∀ l ∈ O, ∀ p ∈ l, I64 p) :
    Calls Tryd.prog 53 #[.agg #[.int .i64 (n : Int), .slice A G.length c], .int .i64 kind, .agg #[.slice AC s.length cC, .slice AH C.length cH, .slice AO O.length cO]] w (RetB (.bool (prB n G s kind C O)) w) := by
  have hLl : (dutL n G s kind).length ≤ 200000 := by
    unfold dutL
    have h1 := dutA_len (maskN s) G
    have h2 := hv.1.2.1
    have h3 := dutB_len n G s kind n
    have h4 := hv.1.1
    unfold dutB at h3
    rw [List.length_append]
    omega
  have hLs : ∀ d ∈ dutL n G s kind, d.length ≤ 100000 := fun d hd => by
    rw [← dutR_eq hv.1 hst hkd] at hd
    have h5 := setB_len hst
    have h4 := hv.1.1
    rcases mem_dutR.1 hd with ⟨p, _, _, _, rfl⟩ | ⟨a, _, _, _, _, rfl⟩
    · simp
    · have := dyR_len G kind a s; omega
  have hdu := fun w hr hs hT => duties_any A n G c AC s cC kind w hr hv hs hst hT hkd
  have hmf : ∀ fn first cap w, (Instr.makeFunc fn first cap).run Tryd.prog w = .ok (.func fn first cap) w := fun _ _ _ _ => rfl
  have hpr : ∀ b, (O.length = C.length → O.flatten.Nodup → b = O.all fun l => (dutL n G s kind).any (covB l)) → (¬ (O.length = C.length ∧ O.flatten.Nodup) → b = false) → b = prB n G s kind C O := fun b h1 h2 => by
    unfold prB
    by_cases e1 : O.length = C.length <;> by_cases e2 : O.flatten.Nodup
    · rw [decide_eq_true e1, decide_eq_true e2]; exact h1 e1 e2
    · rw [decide_eq_false e2]; simp [h2 (fun h => e2 h.2)]
    · rw [decide_eq_false e1]; simp [h2 (fun h => e1 h.1)]
    · rw [decide_eq_false e1]; simp [h2 (fun h => e1 h.1)]
  generalize dutL n G s kind = L at *
  generalize prB n G s kind C O = res at *
  have Hdu := Lib.hid hdu; have Hpr := Lib.hid hpr; have HLs := Lib.hid hLs; have HOi := Lib.hid hOi
  clear hdu hpr hLs hOi hst hv
  go_enter Tryd.func53, Tryd.ntmps53
  go_upto_region 1 with fail
  obtain ⟨W0, hW, k0, hb0, hs0⟩ := boxG w (n : Int) A G.length c
  rw [hW]
  obtain ⟨W1, hW1, k1, hb1, hs1'⟩ := boxEn W0 (.slice AC s.length cC) (.slice AH C.length cH) (.slice AO O.length cO)
  rw [hW1]
  have hb01 := endB hb0 hb1
  have k01 := k0.below hb1 k0.lt
  rw [hs0] at k1
  clear hW hW1 k0 hb0 hb1 hs0 hs1'
  obtain ⟨n0, n1, n2, _, _⟩ := k1.threeE
  have hO1 := hO.below hb01
  by_cases hlen : O.length = C.length
  case neg =>
    have hd : (((O.length : Nat) : Int) != ((C.length : Nat) : Int)) = true := by simp; omega
    have Hlen := Lib.hid hlen
    clear hlen
    go_wp2_with fail
    go_ret
    exact ⟨rb (Hpr.out false (fun h _ => absurd h Hlen.out) (fun _ => rfl)), hb01⟩
  have hd : (((O.length : Nat) : Int) != ((C.length : Nat) : Int)) = false := by simp; omega
  have Hlen := Lib.hid hlen
  clear hlen
  obtain ⟨W2, hmm, m1, hb2, hs2⟩ := made_map W1
  have hbb2 := endB hb01 hb2
  have k12 := k1.below hb2 k1.lt
  have k02 := k01.below hb2 k01.lt
  have hBlt : w.heap.size + 1 < W1.heap.size := k1.lt
  obtain ⟨r0, r1, r2, _, _⟩ := k12.threeE
  go_wp2_with fail
  generalize W1.heap.size = B1 at *
  go_loopw [26] (fun i wr => ∃ k : Nat, k ≤ O.length ∧ i = .int .i64 k ∧ (O.take k).flatten.Nodup ∧ MpB wr B1 (O.take k).flatten.length (inM (O.take k).flatten) ∧ Blk wr w.heap.size 24 #[.int .i64 (n : Int), .slice A G.length c] ∧ Blk wr (w.heap.size + 1) 28 #[.slice AC s.length cC, .slice AH C.length cH, .slice AO O.length cO] ∧ Below w.heap.size w wr) (fun i _ => O.length - (intOf i).toNat)
  case atStart => exact ⟨0, Nat.zero_le _, rfl, by simp, m1, k02, k12, hbb2⟩
  case round =>
    clear k02 k12 m1 hbb2 hs2 n0 n1 n2 r0 r1 r2 hO1
    obtain ⟨k, hk, rfl, hnd, m1, k0, k1, hbw⟩ := hrel
    have Hnd := Lib.hid hnd; have M1 := Lib.hid m1
    obtain ⟨n0, n1, n2, _, _⟩ := k1.threeE
    clear hnd m1
    by_cases hlt : k < O.length
    case pos =>
      obtain ⟨b, o, AX, cx, rfl, hcw, hri⟩ := hO k hlt
      have hc0 := (hbw.cell (p := ⟨b, o + k, none⟩) (lt_of_cell hcw)).trans hcw
      have hfs := flat_step hlt
      have hfl := flat_le O (k + 1)
      have hbad := fun h => flat_bad (O := O) (k := k + 1) h
      rw [hfs] at hfl hbad
      have hdi := HOi.out _ (List.getElem_mem hlt)
      obtain ⟨F, hF⟩ : ∃ F, (O.take k).flatten = F := ⟨_, rfl⟩
      obtain ⟨d, hdd⟩ : ∃ d, O[k] = d := ⟨_, rfl⟩
      rw [hdd] at hc0 hcw hri hfs hfl hbad hdi
      rw [hF] at hfs hfl hbad
      have hnd := Hnd.out; have m1 := M1.out
      rw [hF] at hnd m1
      clear Hnd M1 hdd hF hcw
      have Hnd := Lib.hid hnd; have M1 := Lib.hid m1; have Hfs := Lib.hid hfs; have Hbad := Lib.hid hbad; have Hdi := Lib.hid hdi; have Hri := Lib.hid hri
      rw [List.length_append] at hfl
      have hfl2 : F.length + d.length ≤ 100000 := Nat.le_trans hfl hOf
      clear hfs hbad hdi hnd m1 hfl
      go_wp2_with fail
      obtain ⟨wo, hwo⟩ : ∃ wo, wo = wr := ⟨_, rfl⟩
      subst hwo
      go_loopw [32] (fun i wr => ∃ j : Nat, j ≤ d.length ∧ i = .int .i64 j ∧ (F ++ d.take j).Nodup ∧ MpB wr B1 (F.length + j) (inM (F ++ d.take j)) ∧ Blk wr w.heap.size 24 #[.int .i64 (n : Int), .slice A G.length c] ∧ Blk wr (w.heap.size + 1) 28 #[.slice AC s.length cC, .slice AH C.length cH, .slice (some ⟨b, o, none⟩) O.length cO] ∧ Below w.heap.size w wr) (fun i _ => d.length - (intOf i).toNat)
      case atStart => exact ⟨0, Nat.zero_le _, rfl, by simpa using Hnd.out, by simpa using M1.out, k0, k1, hbw⟩
      case round =>
        clear M1 Hnd k0 k1 hbw hc0 n0 n1 n2
        obtain ⟨j, hj, rfl, hnd, m1, k0, k1, hbw⟩ := hrel
        have Hnd := Lib.hid hnd; have M1 := Lib.hid m1
        clear hnd m1
        by_cases hjl : j < d.length
        case pos =>
          obtain ⟨b', o', rfl, hp0, hp1⟩ := (Hri.out.below hbw).at_ hjl
          obtain ⟨W4, hW4, e0, e1, hb4, hlt4⟩ := boxed wr 42 (.int .i64 d[j].1) (.int .i64 d[j].2)
          have M4 := Lib.hid (M1.out.below hb4)
          have hbw4 := endB hbw hb4
          have k04 := k0.below hb4 k0.lt
          have k14 := k1.below hb4 k1.lt
          have hi64 := Hdi.out _ (List.getElem_mem hjl)
          have Hi64 := Lib.hid hi64
          have hMB := M1.out.lt
          by_cases hin : d[j] ∈ F ++ d.take j
          case pos =>
            have hs : (inM (F ++ d.take j) d[j]).getD false = true := by rw [inM_get]; exact decide_eq_true hin
            have Hs := Lib.hid hs
            have hnn : ¬ (F ++ d).Nodup := by
              have e : F ++ d = (F ++ d.take j) ++ (d[j] :: d.drop (j + 1)) := by
                rw [List.append_assoc, ← List.drop_eq_getElem_cons hjl, List.take_append_drop]
              rw [e]; exact not_nodup_snoc hin
            have Hn := Lib.hid (Hbad.out hnn)
            clear hs hin hnn
            go_wp2_with (at_lookup; go_loud (refine wpList_lookP _ (by rfl) _ _ (by rfl) B1 (F.length + j) _ (by rfl) M4.out d[j] Hi64.out (by rfl) ?_); rw [Hs.out])
            go_ret
            exact ⟨rb (Hpr.out false (fun _ h => absurd h Hn.out) (fun _ => rfl)), hbw4⟩
          case neg =>
          have hs : (inM (F ++ d.take j) d[j]).getD false = false := by rw [inM_get]; exact decide_eq_false hin
          have Hs := Lib.hid hs
          have hnx : F ++ d.take (j + 1) = (F ++ d.take j) ++ [d[j]] := by rw [List.take_succ_eq_append_getElem hjl, List.append_assoc]
          have Hnx := Lib.hid hnx
          have Hin := Lib.hid hin
          clear hs hnx hin
          go_wp2_with (first
            | (at_lookup; go_loud (refine wpList_lookP _ (by rfl) _ _ (by rfl) B1 (F.length + j) _ (by rfl) M4.out d[j] Hi64.out (by rfl) ?_); rw [Hs.out])
            | (at_mapUpdate; go_loud (refine wpList_putP _ (by rfl) _ _ _ (by rfl) B1 (F.length + j) _ (by rfl) M4.out (by omega) d[j] Hi64.out true (by rfl) (by rfl) ?_); intro w5 m5 hg5; have M5 := Lib.hid m5; clear m5))
          go_roundw
          case rel => exact ⟨j + 1, hjl, by go_num, by rw [Hnx.out]; exact nodup_snoc Hnd.out Hin.out, by rw [Hnx.out, ← inM_snoc]; exact M5.out, k04.grown hg5 (by simp; omega), k14.grown hg5 (by simp; omega), hbw4.trans (below_of_grownBy hg5 (by omega) hbw4.size)⟩
          case measure => simp [intOf]; omega
        case neg =>
          obtain rfl : j = d.length := by omega
          have hnd := Hnd.out; have m1 := M1.out
          rw [List.take_length] at hnd m1
          have Hnd := Lib.hid hnd; have M1 := Lib.hid m1
          clear hnd m1
          go_wp2_with fail
          go_roundw
          case rel => exact ⟨k + 1, hlt, by go_num, by rw [Hfs.out]; exact Hnd.out, by rw [Hfs.out, List.length_append]; exact M1.out, k0, k1, hbw⟩
          case measure => simp [intOf]; omega
    case neg =>
    obtain rfl : k = O.length := by omega
    have hnd := Hnd.out
    rw [List.take_length] at hnd
    have Hnd := Lib.hid hnd
    clear hnd M1 hk hlt
    obtain ⟨c0, c1, _, _⟩ := k0.two
    go_wp2_with fail
    refine (Hdu.out wr (hr.below hbw) (hs.below hbw) (hT.below hbw)).mono ?_
    rintro e w3 ⟨AL, cL, xs, rfl, _, _, hLo, hb3⟩
    have hbw3 := endB hbw hb3
    have k13 := k1.below hb3 k1.lt
    clear c0 c1 n0 n1 n2 k0 k1
    obtain ⟨n0, n1, n2, _, _⟩ := k13.threeE
    go_wp2_with fail
    go_loopw [51] (fun i wr => ∃ k : Nat, k ≤ O.length ∧ i = .int .i64 k ∧ ((O.take k).all fun l => L.any (covB l)) = true ∧ Below w3.heap.size w3 wr) (fun i _ => O.length - (intOf i).toNat)
    case atStart => exact ⟨0, Nat.zero_le _, rfl, by simp, Below.refl _ _⟩
    case round =>
      obtain ⟨k, hk, rfl, hall, hb4⟩ := hrel
      have Hall := Lib.hid hall
      clear hall n0 n1 n2
      by_cases hlt : k < O.length
      case pos =>
        obtain ⟨b, o, AX, cx, rfl, hc0, hri⟩ := (hO.below (endB hbw3 hb4)) k hlt
        have hstp := fun h => all_take_succ (p := fun l => L.any (covB l)) hlt Hall.out h
        have hbad := fun h => all_take_bad (p := fun l => L.any (covB l)) hlt h
        have hdl : O[k].length ≤ 100000 := by
          have h1 := flat_le O (k + 1)
          rw [flat_step hlt, List.length_append] at h1
          omega
        obtain ⟨d, hdd⟩ : ∃ d, O[k] = d := ⟨_, rfl⟩
        rw [hdd] at hc0 hri hstp hbad hdl
        clear hdd
        have Hstp := Lib.hid hstp; have Hbad := Lib.hid hbad
        clear hstp hbad
        obtain ⟨W5, hW5, q0, hb5, hs5⟩ := boxSl wr (.slice AX d.length cx)
        have hb45 := hb4.trans (hb5.mono hb4.size)
        have hH := conPo_any AX AL d L cx cL wr.heap.size W5 (hri.below hb5) hdl (hLo.below hb45) (by omega) HLs.out q0
        have HH := Lib.hid hH
        clear hH
        go_wp2_with fail
        refine HH.out.mono ?_
        rintro e w6 ⟨rfl, hb6⟩
        have hb46 := hb45.trans (hb6.mono hb45.size)
        cases hp : L.any (covB d)
        · have Hp := Lib.hid (Hbad.out hp)
          clear hp
          go_wp2_with fail
          go_ret
          exact ⟨rb (Hpr.out false (fun _ _ => Hp.out.symm) (fun _ => rfl)), hbw3.trans (hb46.mono hbw3.size)⟩
        · have Hp := Lib.hid (Hstp.out hp)
          clear hp
          go_wp2_with fail
          go_roundw
          case rel => exact ⟨k + 1, hlt, by go_num, Hp.out, hb46⟩
          case measure => simp [intOf]; omega
      case neg =>
        obtain rfl : k = O.length := by omega
        have hall := Hall.out
        rw [List.take_length] at hall
        have Hall := Lib.hid hall
        clear hall
        go_wp2_with fail
        go_ret
        exact ⟨rb (Hpr.out true (fun _ _ => Hall.out.symm) (fun h => absurd ⟨Hlen.out, Hnd.out⟩ h)), endB hbw3 hb4⟩
/-- what Check answers -/
def chkE (N : Int) (G : List (Int × Int)) (kind : Int) (s : List Int) (C : List (Int × Int)) (O : List (List (Int × Int))) : Int :=
  if arE N G s kind = 0 then if tgErr N G C = 0 then if acB N.toNat (tgL G C) s kind = true then if prB N.toNat G s kind C O = true then 0 else 11 else 7 else tgErr N G C else arE N G s kind
set_option maxRecDepth 100000 in
set_option maxHeartbeats 4000000 in
theorem enCheck_any (A : Option Addr) (N : Int) (G : List (Int × Int)) (c : Nat) (kind : Int) (AC : Option Addr) (s : List Int) (cC : Nat) (AH : Option Addr) (C : List (Int × Int)) (cH : Nat) (AO : Option Addr) (O : List (List (Int × Int))) (cO : Nat) (w : World)
    (hr : RP w A G) (hl : G.length + C.length ≤ 100000) (hs : RI w AC s) (hls : s.length ≤ 100000) (hT : Tab w) (hH : RP w AH C) (hO : RTo w AO O) (hOl : O.length ≤ 1000000) (hOf : O.flatten.length ≤ 100000) (hOi : ∀ l ∈ O, ∀ p ∈ l, I64 p) :
    Calls Tryd.prog 20 #[.agg #[.int .i64 N, .slice A G.length c], .int .i64 kind, .agg #[.slice AC s.length cC, .slice AH C.length cH, .slice AO O.length cO]] w (RetB (.int .i64 (chkE N G kind s C O)) w) := by
  obtain ⟨r, hre⟩ : ∃ r, chkE N G kind s C O = r := ⟨_, rfl⟩
  rw [hre]
  unfold chkE at hre
  have Hre := Lib.hid hre; have HOi := Lib.hid hOi
  clear hre hOi
  go_enter Tryd.func20, Tryd.ntmps20
  go_upto_region 1 with fail
  obtain ⟨W0, hW, k0, hb0, hs0⟩ := boxG w N A G.length c
  rw [hW]
  obtain ⟨W1, hW1, k1, hb1, hs1'⟩ := boxEn W0 (.slice AC s.length cC) (.slice AH C.length cH) (.slice AO O.length cO)
  rw [hW1]
  have hb01 := endB hb0 hb1
  have k01 := k0.below hb1 k0.lt
  rw [hs0] at k1
  clear hW hW1 k0 hb0 hb1 hs0 hs1'
  obtain ⟨c0, c1, _, _⟩ := k01.two
  obtain ⟨n0, n1, n2, _, _⟩ := k1.threeE
  go_wp2_with fail
  refine (enArg_any A N G c AC s cC kind W1 (hr.below hb01) (by omega) (hs.below hb01) hls).mono ?_
  rintro e w2 ⟨rfl, hb2⟩
  have hbb2 := endB hb01 hb2
  have k12 := k1.below hb2 k1.lt
  have k02 := k01.below hb2 k01.lt
  clear c0 c1 n0 n1 n2 k1 k01 hb01 hb2
  obtain ⟨c0, c1, _, _⟩ := k02.two
  obtain ⟨n0, n1, n2, _, _⟩ := k12.threeE
  by_cases ha : arE N G s kind = 0
  case neg =>
    have hd : (arE N G s kind != 0) = true := by simp [ha]
    have hre := Hre.out
    rw [if_neg ha] at hre
    have Hre := Lib.hid hre
    clear hre ha
    go_wp2_with fail
    go_ret
    exact ⟨ri Hre.out, hbb2⟩
  have hd : (arE N G s kind != 0) = false := by simp [ha]
  have hre := Hre.out
  rw [if_pos ha] at hre
  obtain ⟨hv0, hk, hsb⟩ := arE_ok ha
  obtain ⟨n, rfl, hv⟩ := vld_of_valE hv0 (by omega)
  rw [Int.toNat_natCast] at hre
  have Hre := Lib.hid hre; have Hv := Lib.hid hv; have Hk := Lib.hid hk; have Hsb := Lib.hid hsb
  clear hre ha hv0 hk hsb hv
  go_wp2_with fail
  refine (toggle_any A AH (n : Int) G C c cH w2 (hr.below hbb2) (hH.below hbb2) hl).mono ?_
  rintro e w3 ⟨A3, c3, rfl, hr3, _, hb3⟩
  have hbb3 := endB hbb2 hb3
  have k13 := k12.below hb3 k12.lt
  have k03 := k02.below hb3 k02.lt
  clear c0 c1 n0 n1 n2 k12 k02 hbb2 hb3
  by_cases he : tgErr n G C = 0
  case neg =>
    have hd2 : (tgErr n G C != 0) = true := by simp [he]
    have hre := Hre.out
    rw [if_neg he] at hre
    have Hre := Lib.hid hre
    obtain ⟨nn, hnn⟩ : ∃ nn, tgN (n : Int) G C = nn := ⟨_, rfl⟩
    obtain ⟨ln, hln⟩ : ∃ ln, (tgG (n : Int) G C).length = ln := ⟨_, rfl⟩
    rw [hnn, hln]
    clear hre he hnn hln hr3
    go_wp2_with fail
    go_ret
    exact ⟨ri Hre.out, endB hbb3 (newB _ _)⟩
  have hd2 : (tgErr n G C != 0) = false := by simp [he]
  have hre := Hre.out
  rw [if_pos he] at hre
  have htn : tgN (n : Int) G C = n := by unfold tgN; rw [if_pos he]
  have htg : tgG (n : Int) G C = tgL G C := by unfold tgG; rw [if_pos he]
  have hvt := tgL_vld Hv.out (by unfold tgErr at he; split at he; exact he; rename_i h; exact absurd he h) hl
  rw [htn, htg]
  rw [htg] at hr3
  have Hre := Lib.hid hre
  clear hre he htn htg
  obtain ⟨T, hTT⟩ : ∃ T, tgL G C = T := ⟨_, rfl⟩
  rw [hTT] at hr3 hvt ⊢
  have hre := Hre.out
  rw [hTT] at hre
  have Hre := Lib.hid hre; have Hvt := Lib.hid hvt
  clear hre hTT hvt
  obtain ⟨W4, hW4, k4, hb4, hs4⟩ := boxG w3 (n : Int) A3 T.length c3
  have hr4 := hr3.below hb4
  have hbb4 := endB hbb3 hb4
  have k14 := k13.below hb4 k13.lt
  have k04 := k03.below hb4 k03.lt
  have hac := enAcc_any A3 n T c3 AC s cC kind W4 hr4 Hvt.out (hs.below hbb4) Hsb.out (hT.below hbb4)
  obtain ⟨b, hbb⟩ : ∃ b, acB n T s kind = b := ⟨_, rfl⟩
  rw [hbb] at hac
  have hre := Hre.out
  rw [hbb] at hre
  have Hac := Lib.hid hac; have Hre := Lib.hid hre
  clear hac hbb hre hb4 hbb3 hr3 hr4 k13 k03 hs4
  obtain ⟨c0, c1, _, _⟩ := k04.two
  obtain ⟨n0, n1, n2, _, _⟩ := k14.threeE
  obtain ⟨t0, t1, _, _⟩ := k4.two
  go_wp2_with fail
  refine Hac.out.mono ?_
  rintro e w5 ⟨rfl, hb5⟩
  have hbb5 := endB hbb4 hb5
  have k15 := k14.below hb5 k14.lt
  have k05 := k04.below hb5 k04.lt
  clear c0 c1 n0 n1 n2 t0 t1 k14 k04 k4 hb5 hbb4 hW4
  cases b
  case false =>
    have hre := Hre.out
    rw [if_neg (by decide)] at hre
    have Hre := Lib.hid hre
    clear hre
    go_wp2_with fail
    go_ret
    exact ⟨ri Hre.out, hbb5⟩
  have hre := Hre.out
  rw [if_pos rfl] at hre
  have hpv := proves_any A n G c kind AC s cC AH C cH AO O cO w5 (hr.below hbb5) Hv.out (hs.below hbb5) Hsb.out (hT.below hbb5) Hk.out (hO.below hbb5) hOl (by omega) hOf HOi.out
  obtain ⟨b, hbb⟩ : ∃ b, prB n G s kind C O = b := ⟨_, rfl⟩
  rw [hbb] at hpv hre
  have Hpv := Lib.hid hpv; have Hre := Lib.hid hre
  clear hpv hre hbb
  obtain ⟨c0, c1, _, _⟩ := k05.two
  obtain ⟨n0, n1, n2, _, _⟩ := k15.threeE
  go_wp2_with fail
  refine Hpv.out.mono ?_
  rintro e w6 ⟨rfl, hb6⟩
  have hbb6 := endB hbb5 hb6
  clear c0 c1 n0 n1 n2 k15 k05 hb6 hbb5
  cases b
  case false =>
    have hre := Hre.out
    rw [if_neg (by decide)] at hre
    have Hre := Lib.hid hre
    clear hre
    go_wp2_with fail
    go_ret
    exact ⟨ri Hre.out, hbb6⟩
  case true =>
    have hre := Hre.out
    rw [if_pos rfl] at hre
    have Hre := Lib.hid hre
    clear hre
    go_wp2_with fail
    go_ret
    exact ⟨ri Hre.out, hbb6⟩
end Go.Proofs.YtncimnfhfomddaaDoor
