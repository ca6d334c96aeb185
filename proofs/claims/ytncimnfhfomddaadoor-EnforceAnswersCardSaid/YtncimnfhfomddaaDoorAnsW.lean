import Derived.Test.YtncimnfhfomddaaDoorRlA
import Derived.Test.YtncimnfhfomddaaDoorLov
import Derived.Test.YtncimnfhfomddaaDoorMapP
/- law21: the walk of EnforceAnswers. -/
namespace Go.Proofs.YtncimnfhfomddaaDoor
open Go.ChangeShapes Go.WideShapes Go.ChangeAt Go.RowKit

theorem rowG (w : World) (N0 : Int) (A0 : Option Addr) (m0 c0 : Nat) (n : Int) (A : Option Addr) (m c : Nat) : ∃ W0, w.alloc (.cells #[.int .i64 N0, .slice A0 m0 c0, .int .i64 n, .slice A m c] 24) = W0 ∧ Blk W0 w.heap.size 24 #[.int .i64 N0, .slice A0 m0 c0, .int .i64 n, .slice A m c] ∧ Below w.heap.size w W0 ∧ W0.heap.size = w.heap.size + 1 := ⟨_, rfl, Blk.new _ _ _, (Below.refl _ _).alloc (Nat.le_refl _) _, by simp⟩
theorem rp_grown {w w' : World} {A : Option Addr} {l : List (Int × Int)} {p : Nat} (h : RP w A l) (hg : w.grownBy w' (some p)) (hne : ∀ b o, A = some ⟨b, o, none⟩ → 0 < l.length → b ≠ p) : RP w' A l := by
  by_cases hl : 0 < l.length
  · exact h.grown hg fun b o e => hne b o e hl
  · intro k hk; omega
theorem rowL (w : World) (A : Option Addr) (m c : Nat) (B : Option Addr) (k d : Nat) : ∃ W0, w.alloc (.cells #[.slice A m c, .slice B k d] 22) = W0 ∧ Blk W0 w.heap.size 22 #[.slice A m c, .slice B k d] ∧ Below w.heap.size w W0 ∧ W0.heap.size = w.heap.size + 1 := ⟨_, rfl, Blk.new _ _ _, (Below.refl _ _).alloc (Nat.le_refl _) _, by simp⟩
theorem rowI (w : World) (A : Option Addr) (m c : Nat) (B : Option Addr) (k d : Nat) : ∃ W0, w.alloc (.cells #[.slice A m c, .slice B k d] 25) = W0 ∧ Blk W0 w.heap.size 25 #[.slice A m c, .slice B k d] ∧ Below w.heap.size w W0 ∧ W0.heap.size = w.heap.size + 1 := ⟨_, rfl, Blk.new _ _ _, (Below.refl _ _).alloc (Nat.le_refl _) _, by simp⟩
theorem rowK (w : World) (x y z : Value) : ∃ W0, w.alloc (.cells #[x, y, z] 3) = W0 ∧ Blk W0 w.heap.size 3 #[x, y, z] ∧ Below w.heap.size w W0 ∧ W0.heap.size = w.heap.size + 1 := ⟨_, rfl, Blk.new _ _ _, (Below.refl _ _).alloc (Nat.le_refl _) _, by simp⟩
set_option maxRecDepth 100000 in
set_option maxHeartbeats 16000000 in
theorem ans_law_any (A0 : Option Addr) (N0 : Int) (l0 : List (Int × Int)) (c0 : Nat) (A : Option Addr) (arg : List Int) (c : Nat) (SA : Option Addr) (set : List Int) (sc : Nat) (kind : Int) (LA : Option Addr) (lst : List (Int × Int)) (lc : Nat) (w : World)
    (_hl0 : l0.length ≤ 9223372036854775807) (hr0 : RP w A0 l0) (hn0 : A0 = none → l0 = [] ∧ c0 = 0) (hlc0 : l0.length ≤ c0) (_hc0 : c0 ≤ 9223372036854775807)
    (hlc : arg.length ≤ c) (hc : c ≤ 9223372036854775807) (hr : RI w A arg) (hx : ∀ x ∈ arg, -9223372036854775808 ≤ x ∧ x ≤ 9223372036854775807)
    (_hls : set.length ≤ 9223372036854775807) (hrs : RI w SA set) (hns : SA = none → set = [] ∧ sc = 0)
    (hll : lst.length ≤ lc) (hrl : RP w LA lst) (hnl : LA = none → lst = [] ∧ lc = 0) (hil : ∀ p ∈ lst, I64 p) (hT : Tab w) :
    Calls Tryd.prog 5 #[.agg #[.int .i64 N0, .slice A0 l0.length c0], .slice A arg.length c, .slice SA set.length sc, .int .i64 kind, .slice LA lst.length lc] w (RetB (.bool true) w) := by
  have Hr := Lib.hid hr; have Hx := Lib.hid hx; have Hn0 := Lib.hid hn0; have Hns := Lib.hid hns; have Hnl := Lib.hid hnl; have Hil := Lib.hid hil
  clear hr hx hn0 hns hnl hil
  go_enter Tryd.func5, Tryd.ntmps5
  go_upto_region 1 with fail
  obtain ⟨W0, hW, k0, hb0, hs0⟩ := boxG w N0 A0 l0.length c0
  rw [hW]
  clear hW hs0
  have hawk := fun X (h : Below w.heap.size w X) => awake21_any X (hT.below h)
  have Hawk := Lib.hid hawk
  clear hawk
  obtain ⟨z0, z1, -, -⟩ := k0.two
  have hli := nwLight_any A0 N0 l0 c0 W0
  obtain ⟨u, hu⟩ : ∃ u, decide (l0.length ≤ 300) = u := ⟨_, rfl⟩
  rw [hu] at hli
  have Hli := Lib.hid hli; have Hu := Lib.hid hu
  clear hli hu
  go_wp2_with fail
  refine Hli.out.mono ?_
  rintro e w1 ⟨rfl, hb1⟩
  have hB1 := endB hb0 hb1
  have k01 := k0.below hb1 k0.lt
  cases u
  case false =>
    go_wp2_with fail
    refine (Hawk.out _ hB1).mono ?_
    rintro e wz ⟨rfl, hbz⟩
    go_wp2_with fail
    go_ret
    exact ⟨rfl, endB hB1 hbz⟩
  have hl300 : l0.length ≤ 300 := of_decide_eq_true Hu.out
  by_cases h2 : 60 < set.length
  case pos =>
    have hd : decide ((60 : Int) < (set.length : Int)) = true := decide_eq_true (by omega)
    go_wp2_with fail
    refine (Hawk.out _ hB1).mono ?_
    rintro e wz ⟨rfl, hbz⟩
    go_wp2_with fail
    go_ret
    exact ⟨rfl, endB hB1 hbz⟩
  have hd : decide ((60 : Int) < (set.length : Int)) = false := decide_eq_false (by omega)
  by_cases h3 : 60 < lst.length
  case pos =>
    have hd3 : decide ((60 : Int) < (lst.length : Int)) = true := decide_eq_true (by omega)
    go_wp2_with fail
    refine (Hawk.out _ hB1).mono ?_
    rintro e wz ⟨rfl, hbz⟩
    go_wp2_with fail
    go_ret
    exact ⟨rfl, endB hB1 hbz⟩
  have hd3 : decide ((60 : Int) < (lst.length : Int)) = false := decide_eq_false (by omega)
  go_wp2_with fail
  clear hd hd3 z0 z1
  refine (new_any A arg c w1 hlc hc (Hr.out.below hB1) Hx.out).mono ?_
  rintro e w2 ⟨p, rfl, hp, hs2, hb2⟩
  have hB2 := endB hB1 hb2
  have k02 := k01.below hb2 k01.lt
  go_wp2_with fail
  refine (netGraphC_any p 7 w2 hs2 (by omega) (by omega)).mono ?_
  rintro e w3 ⟨n, l, AL, cl, rfl, hN1, hN, hv, hrp, hloc, hs3, hg3, hAn, hAc⟩
  have hw1 := k01.lt
  have hB3 : Below w.heap.size w w3 := hB2.trans (below_of_grownBy hg3 (by omega) hB2.size)
  have hpl3 := hs3.lt
  have hpl2 := hs2.lt
  have k03 := k02.grown hg3 (by simp; omega)
  have hll9 : l.length ≤ 49 := Nat.le_trans (len_vld2 hv) (Nat.mul_le_mul hN hN)
  have HV := Lib.hid hv; have Hloc := Lib.hid hloc; have HAn := Lib.hid (And.intro hAn hAc)
  clear hs2 hb2 hb1 hb0 hg3 hv hloc hAn hAc k0 k01 k02 hB1 hB2
  go_upto_region 5 with fail
  obtain ⟨W3, hW, kg, hbg, hsg⟩ := boxG w3 (n : Int) AL l.length cl
  rw [hW]
  have hB4 := endB hB3 hbg
  have k04 := k03.below hbg k03.lt
  have hrp4 := hrp.below hbg
  have hs4 := hs3.kept hbg
  obtain ⟨z0, z1, -, -⟩ := kg.two
  clear hW hrp hs3 k03 hbg hB3
  go_wp2_with fail
  refine (nwSome_any p n W3 hs4 (by omega)).mono ?_
  rintro e w5 ⟨S, AS, cS, rfl, hset, hSo, hs5, hg5⟩
  have hpw : w.heap.size < p := Nat.lt_of_lt_of_le hw1 hp
  have hB5 : Below w.heap.size w w5 := hB4.trans (below_of_grownBy hg5 (by omega) hB4.size)
  have k05 := k04.grown hg5 (by simp; omega)
  have kg5 := kg.grown hg5 (by simp; omega)
  have hrp5 := hrp4.grown hg5 (fun b o e hl => by have := Hloc.out b o e; omega)
  have hSl := setB_len hset
  have hSf : AS = none → S = [] ∧ cS = 0 := fun e => by
    subst e
    obtain ⟨_, h2⟩ := hSo
    rcases h2 with ⟨e, h0⟩ | ⟨g, cap, cur, e, _⟩
    · injection e with _ _ e3
      exact ⟨List.eq_nil_of_length_eq_zero h0, e3⟩
    · cases e
  have hSr := OwnI.ri hSo
  have hALp : ∀ b o, AL = some ⟨b, o, none⟩ → b ≠ p := fun b o e => by have := Hloc.out b o e; omega
  have hpl4 := hs4.lt
  have hpl5 := hs5.lt
  have hASp : ∀ b o, AS = some ⟨b, o, none⟩ → b ≠ p := fun b o e => by
    subst e
    have := (World.ownsRow.lt hSo b rfl).1
    omega
  have HALp := Lib.hid hALp; have HASp := Lib.hid hASp
  clear hALp hASp
  have Hset := Lib.hid hset; have HSf := Lib.hid hSf
  clear z0 z1 kg k04 hrp4 hB4 hs4 hset hSf Hloc hg5 hSo
  obtain ⟨y0, y1, -, -⟩ := k05.two
  obtain ⟨x0, x1, -, -⟩ := kg5.two
  go_upto_region 7 with fail
  obtain ⟨W6, hW, kr, hb6, hs6'⟩ := rowG w5 N0 A0 l0.length c0 (n : Int) AL l.length cl
  rw [hW]
  have hB6 := endB hB5 hb6
  have k06 := k05.below hb6 k05.lt
  have kg6 := kg5.below hb6 kg5.lt
  have hrp6 := hrp5.below hb6
  have hSr6 := hSr.below hb6
  have hs6 := hs5.kept hb6
  clear hW y0 y1 x0 x1 k05 kg5 hrp5 hSr hs5 hb6 hB5
  go_loopw [60] (fun i wr => ∃ k : Nat, k ≤ 2 ∧ i = .int .i64 (k : Int) ∧ Below w.heap.size w wr ∧ Blk wr w.heap.size 24 #[.int .i64 N0, .slice A0 l0.length c0] ∧ Blk wr w3.heap.size 24 #[.int .i64 (n : Int), .slice AL l.length cl] ∧ Blk wr w5.heap.size 24 #[.int .i64 N0, .slice A0 l0.length c0, .int .i64 (n : Int), .slice AL l.length cl] ∧ RP wr AL l ∧ RI wr AS S ∧ SrcOk wr p) (fun i _ => 2 - (intOf i).toNat)
  case atStart => exact ⟨0, by omega, rfl, hB6, k06, kg6, kr, hrp6, hSr6, hs6⟩
  case round =>
    clear hB6 k06 kg6 kr hrp6 hSr6 hs6
    obtain ⟨k, hk, rfl, hBw, k0, kg, kr, hrp, hSr, hs⟩ := hrel
    by_cases hlt : k < 2
    case pos =>
      have hgr : ∃ N1 A1 l1 c1, wr.cell? ⟨w5.heap.size, k * 2, none⟩ = some (.int .i64 N1) ∧ wr.cell? ⟨w5.heap.size, k * 2 + 1, none⟩ = some (.slice A1 (List.length l1) c1) ∧ RP wr A1 l1 ∧ (A1 = none → l1 = [] ∧ c1 = 0) ∧ l1.length ≤ c1 ∧ l1.length ≤ 300 ∧ (∀ b o, A1 = some ⟨b, o, none⟩ → 0 < l1.length → b ≠ p) := by
        rcases (by omega : k = 0 ∨ k = 1) with rfl | rfl
        · exact ⟨N0, A0, l0, c0, kr.cell 0, kr.cell 1, hr0.below hBw, Hn0.out, hlc0, hl300, fun b o e hl => by
            obtain ⟨b', o', e', h1, _⟩ := hr0.at_ hl
            rw [e] at e'
            injection e' with e'
            injection e' with e'
            have := lt_of_cell h1
            simp only at this
            omega⟩
        · exact ⟨(n : Int), AL, l, cl, kr.cell 2, kr.cell 3, hrp, HAn.out.1, HAn.out.2, by omega, fun b o e _ => HALp.out b o e⟩
      obtain ⟨N1, A1, l1, c1, hc0', hc1', hr1, hf1, hlc1, hl1, hne1⟩ := hgr
      have Hne1 := Lib.hid hne1
      clear hne1
      have Hf1 := Lib.hid hf1
      clear hf1
      go_upto_region 9 with fail
      obtain ⟨W7, hW, kx, hbx, hsx⟩ := boxG wr N1 A1 l1.length c1
      rw [hW]
      have hBx := endB hBw hbx
      have k07 := k0.below hbx k0.lt
      have kg7 := kg.below hbx kg.lt
      have kr7 := kr.below hbx kr.lt
      have hrp7 := hrp.below hbx
      have hSr7 := hSr.below hbx
      have hr17 := hr1.below hbx
      have hs7 := hs.kept hbx
      have hs7l := hs.lt
      clear hW k0 kg kr hrp hSr hr1 hs hbx hsx hc0' hc1'
      obtain ⟨z0, z1, -, -⟩ := kg7.two
      go_wp2_with fail
      refine (pairs_any p n W7 hs7 hN1 (by omega)).mono ?_
      rintro e w8 ⟨P, AP, cP, rfl, hPl, hPo, hPw, hs8, hg8⟩
      have hB8 : Below w.heap.size w w8 := hBx.trans (below_of_grownBy hg8 (by omega) hBx.size)
      have k08 := k07.grown hg8 (by simp; omega)
      have kg8 := kg7.grown hg8 (by simp; omega)
      have kr8 := kr7.grown hg8 (by simp; omega)
      have kx8 := kx.grown hg8 (by simp; omega)
      have hrp8 := hrp7.grown hg8 HALp.out
      have hr18 := rp_grown hr17 hg8 Hne1.out
      have hSr8 := hSr7.grown hg8 (fun b o e _ => HASp.out b o e)
      have hrP8 := OwnP.rp' hPw
      go_upto_region 10 with fail
      obtain ⟨W9, hW, kl, hb9, hs9'⟩ := rowL w8 LA lst.length lc AP P.length cP
      rw [hW]
      have hB9 := endB hB8 hb9
      have kx9 := kx8.below hb9 kx8.lt
      have hrP9 := hrP8.below hb9
      have k09 := k08.below hb9 k08.lt
      have kg9 := kg8.below hb9 kg8.lt
      have kr9 := kr8.below hb9 kr8.lt
      have hrp9 := hrp8.below hb9
      have hr19 := hr18.below hb9
      have hSr9 := hSr8.below hb9
      have hs9 := hs8.kept hb9
      clear hW z0 z1 k07 kg7 kr7 k08 kg8 kr8 kx kx8 hrp7 hrp8 hr17 hr18 hrP8 hSr7 hSr8 hb9
      go_loopw [71] (fun i wr => ∃ j : Nat, j ≤ 2 ∧ i = .int .i64 (j : Int) ∧ Below W9.heap.size W9 wr) (fun i _ => 2 - (intOf i).toNat)
      case atStart => exact ⟨0, by omega, rfl, Below.refl _ _⟩
      case round =>
        obtain ⟨j, hj, rfl, hbj⟩ := hrel
        have hBj := endB hB9 hbj
        have klj := kl.below hbj kl.lt
        have kxj := kx9.below hbj kx9.lt
        obtain ⟨z0, z1, -, -⟩ := kxj.two
        by_cases hjl : j < 2
        case pos =>
          have hli : ∃ A2 l2 c2, wr.cell? ⟨w8.heap.size, j, none⟩ = some (.slice A2 (List.length l2) c2) ∧ RP wr A2 l2 ∧ l2.length ≤ c2 ∧ l2.length ≤ 60 := by
            rcases (by omega : j = 0 ∨ j = 1) with rfl | rfl
            · exact ⟨LA, lst, lc, klj.cell 0, hrl.below hBj, hll, by omega⟩
            · exact ⟨AP, P, cP, klj.cell 1, hrP9.below hbj, (OwnP.fit hPw).2, by omega⟩
          obtain ⟨A2, l2, c2, hc2', hr2, hlc2, hl2⟩ := hli
          obtain ⟨er, M, L, hLl, hTa, hTb⟩ := tg_two A1 N1 l1 c1 A2 l2 c2 hl1 hl2 Hf1.out hlc1 hlc2
          have hr1j := hr19.below hbj
          have HTa := Lib.hid hTa; have HTb := Lib.hid hTb
          have hne : (er != er) = false := by simp
          clear hTa hTb klj kl
          go_wp2_with fail
          refine (HTa.out wr hr1j hr2).mono ?_
          rintro e va ⟨hba, Aa, ca, rfl, hra⟩
          go_upto_region 13 with fail
          obtain ⟨Va, hW, k18, hb18, -⟩ := boxG va M Aa L.length ca
          rw [hW]
          clear hW z0 z1 hc2'
          have hD1 := endB hba hb18
          have hra1 := hra.below hb18
          obtain ⟨z0, z1, -, -⟩ := (kxj.below hD1 kxj.lt).two
          go_wp2_with fail
          refine (HTb.out Va (hr1j.below hD1) (hr2.below hD1)).mono ?_
          rintro e vb ⟨hbb, Ab, cb, rfl, hrb⟩
          go_upto_region 14 with fail
          obtain ⟨Vb, hW, k20, hb20, -⟩ := boxG vb M Ab L.length cb
          rw [hW]
          clear hW z0 z1
          have hD2 := endB hbb hb20
          have hra2 := hra1.below hD2
          have hrb2 := hrb.below hb20
          obtain ⟨y0, y1, -, -⟩ := (k18.below hD2 k18.lt).two
          obtain ⟨x0, x1, -, -⟩ := k20.two
          go_wp2_with fail
          refine (nwSame_any Aa Ab M M L L ca cb Vb hra2 hrb2 hLl hLl).mono ?_
          rintro e vc ⟨rfl, hbc⟩
          have hsm : smB M L M L = true := by simp [smB]
          rw [hsm]
          clear hsm
          go_wp2_with fail
          go_roundw
          case rel => exact ⟨j + 1, by omega, by go_num, endB (endB (endB hbj hD1) hD2) hbc⟩
          case measure => simp [intOf]; omega
        case neg =>
          obtain rfl : j = 2 := by omega
          try simp only [Nat.cast_ofNat]
          obtain ⟨V, hV⟩ : ∃ V, V = wr := ⟨_, rfl⟩
          subst hV
          have hr1V := hr19.below hbj
          have hrsV := hrs.below hBj
          have hSrV := hSr9.below hbj
          clear klj kl z0 z1
          go_upto_region 18 with fail
          obtain ⟨V1, hW, kt, hbt, -⟩ := rowI V SA set.length sc AS S.length cS
          rw [hW]
          clear hW
          have hBV := endB hBj hbt
          have hbV := endB hbj hbt
          have kxV := kxj.below hbt kxj.lt
          have hr1V := hr1V.below hbt
          have hrsV := hrsV.below hbt
          have hSrV := hSrV.below hbt
          clear hBj hbj kxj hbt
          go_loopw [101] (fun i wr => ∃ j : Nat, j ≤ 2 ∧ i = .int .i64 (j : Int) ∧ Below V1.heap.size V1 wr) (fun i _ => 2 - (intOf i).toNat)
          case atStart => exact ⟨0, by omega, rfl, Below.refl _ _⟩
          case round =>
            obtain ⟨j, hj, rfl, hbj⟩ := hrel
            obtain ⟨U, hU⟩ : ∃ U, U = wr := ⟨_, rfl⟩
            subst hU
            have hBU := endB hBV hbj
            have ktU := kt.below hbj kt.lt
            have kxU := kxV.below hbj kxV.lt
            have hr1U := hr1V.below hbj
            by_cases hjl : j < 2
            case pos =>
              have hli : ∃ A3 t c3, U.cell? ⟨V.heap.size, j, none⟩ = some (.slice A3 (List.length t) c3) ∧ RI U A3 t ∧ (A3 = none → t = [] ∧ c3 = 0) ∧ t.length ≤ 60 := by
                rcases (by omega : j = 0 ∨ j = 1) with rfl | rfl
                · exact ⟨SA, set, sc, ktU.cell 0, hrsV.below hbj, Hns.out, by omega⟩
                · exact ⟨AS, S, cS, ktU.cell 1, hSrV.below hbj, HSf.out, by omega⟩
              obtain ⟨A3, t, c3, hc3, hrt, hnt, htl⟩ := hli
              have Hnt := Lib.hid hnt
              clear hnt ktU
              go_upto_region 21 with fail
              have hdj : decide ((j : Int) < 2) = true := decide_eq_true (by omega)
              try rw [hdj]
              clear hdj
              obtain ⟨U1, hW, kk, hbk, -⟩ := rowK U (.int .i64 kind) (.int .i64 1) (.int .i64 2)
              rw [hW]
              clear hW hc3
              have hBK := endB hBU hbk
              have hbK := endB hbj hbk
              have kxK := kxU.below hbk kxU.lt
              have hr1K := hr1U.below hbk
              have hrtK := hrt.below hbk
              clear hBU kxU hr1U hrt hbk
              go_loopw [108] (fun i wr => ∃ j : Nat, j ≤ 3 ∧ i = .int .i64 (j : Int) ∧ Below U1.heap.size U1 wr) (fun i _ => 3 - (intOf i).toNat)
              case atStart => exact ⟨0, by omega, rfl, Below.refl _ _⟩
              case round =>
                obtain ⟨i, hi, rfl, hbi⟩ := hrel
                obtain ⟨T, hT'⟩ : ∃ T, T = wr := ⟨_, rfl⟩
                subst hT'
                have hBT := endB hBK hbi
                have kkT := kk.below hbi kk.lt
                have kxT := kxK.below hbi kxK.lt
                have hr1T := hr1K.below hbi
                have hrtT := hrtK.below hbi
                by_cases hil : i < 3
                case pos =>
                  have hki : ∃ kd : Int, T.cell? ⟨U.heap.size, i, none⟩ = some (.int .i64 kd) := by
                    rcases (by omega : i = 0 ∨ i = 1 ∨ i = 2) with rfl | rfl | rfl
                    · exact ⟨kind, kkT.cell 0⟩
                    · exact ⟨1, kkT.cell 1⟩
                    · exact ⟨2, kkT.cell 2⟩
                  obtain ⟨kd, hkd⟩ := hki
                  obtain ⟨e1, s1, C1, O1, hw1', hSa, hSb⟩ := st_two A1 N1 l1 c1 A3 t c3 kd hl1 Hnt.out htl
                  obtain ⟨e2, s2, C2, O2, hw2', hLa, hLb⟩ := lo_two A1 N1 l1 c1 A3 t c3 kd hl1 htl
                  have HSa := Lib.hid hSa; have HSb := Lib.hid hSb; have HLa := Lib.hid hLa; have HLb := Lib.hid hLb; have Hw1 := Lib.hid hw1'; have Hw2 := Lib.hid hw2'
                  have hn1 : (e1 != e1) = false := by simp
                  have hn2 : (e2 != e2) = false := by simp
                  clear hSa hSb hLa hLb hw1' hw2' kkT
                  obtain ⟨z0, z1, -, -⟩ := kxT.two
                  go_wp2_with fail
                  refine (HSa.out T hr1T hrtT (hT.below hBT)).mono ?_
                  rintro e v1 ⟨hb1, A4, c4, A5, c5, A6, c6, rfl, g1, g2, g3⟩
                  go_upto_region 24 with fail
                  obtain ⟨T1, hW, q1, hq1, -⟩ := boxEn v1 (.slice A4 s1.length c4) (.slice A5 C1.length c5) (.slice A6 O1.length c6)
                  rw [hW]
                  clear hW z0 z1 hkd
                  have hD1 := endB hb1 hq1
                  have g1 := g1.below hq1; have g2 := g2.below hq1; have g3 := g3.below hq1
                  obtain ⟨z0, z1, -, -⟩ := (kxT.below hD1 kxT.lt).two
                  go_wp2_with fail
                  refine (HSb.out T1 (hr1T.below hD1) (hrtT.below hD1)).mono ?_
                  rintro e v2 ⟨hb2, B4, d4, B5, d5, B6, d6, rfl, m1, m2, m3⟩
                  go_upto_region 25 with fail
                  obtain ⟨T2, hW, q2, hq2, -⟩ := boxEn v2 (.slice B4 s1.length d4) (.slice B5 C1.length d5) (.slice B6 O1.length d6)
                  rw [hW]
                  clear hW z0 z1
                  have hX2 := endB hb2 hq2
                  have hD2 := endB hD1 hX2
                  have g1 := g1.below hX2; have g2 := g2.below hX2; have g3 := g3.below hX2
                  have m1 := m1.below hq2; have m2 := m2.below hq2; have m3 := m3.below hq2
                  have q1 := q1.below hX2 q1.lt
                  obtain ⟨z0, z1, -, -⟩ := (kxT.below hD2 kxT.lt).two
                  go_wp2_with fail
                  refine (HLa.out T2 (hr1T.below hD2) (hrtT.below hD2) (hT.below (endB hBT hD2))).mono ?_
                  rintro e v3 ⟨hb3, E4, f4, E5, f5, E6, f6, rfl, p1, p2, p3⟩
                  go_upto_region 26 with fail
                  obtain ⟨T3, hW, q3, hq3, -⟩ := boxEn v3 (.slice E4 s2.length f4) (.slice E5 C2.length f5) (.slice E6 O2.length f6)
                  rw [hW]
                  clear hW z0 z1
                  have hX3 := endB hb3 hq3
                  have hD3 := endB hD2 hX3
                  have g1 := g1.below hX3; have g2 := g2.below hX3; have g3 := g3.below hX3
                  have m1 := m1.below hX3; have m2 := m2.below hX3; have m3 := m3.below hX3
                  have p1 := p1.below hq3; have p2 := p2.below hq3; have p3 := p3.below hq3
                  have q1 := q1.below hX3 q1.lt; have q2 := q2.below hX3 q2.lt
                  obtain ⟨z0, z1, -, -⟩ := (kxT.below hD3 kxT.lt).two
                  go_wp2_with fail
                  refine (HLb.out T3 (hr1T.below hD3) (hrtT.below hD3)).mono ?_
                  rintro e v4 ⟨hb4, F4, o4, F5, o5, F6, o6, rfl, r1, r2, r3⟩
                  go_upto_region 27 with fail
                  obtain ⟨T4, hW, q4, hq4, -⟩ := boxEn v4 (.slice F4 s2.length o4) (.slice F5 C2.length o5) (.slice F6 O2.length o6)
                  rw [hW]
                  clear hW z0 z1
                  have hX4 := endB hb4 hq4
                  have hD4 := endB hD3 hX4
                  have g1 := g1.below hX4; have g2 := g2.below hX4; have g3 := g3.below hX4
                  have m1 := m1.below hX4; have m2 := m2.below hX4; have m3 := m3.below hX4
                  have p1 := p1.below hX4; have p2 := p2.below hX4; have p3 := p3.below hX4
                  have r1 := r1.below hq4; have r2 := r2.below hq4; have r3 := r3.below hq4
                  have q1 := q1.below hX4 q1.lt; have q2 := q2.below hX4 q2.lt; have q3 := q3.below hX4 q3.lt
                  obtain ⟨a0, a1, a2, _, _⟩ := q1.threeE
                  obtain ⟨b0, b1, b2, _, _⟩ := q2.threeE
                  have hsa := rSame_any A4 s1 c4 A5 C1 c5 A6 O1 c6 B4 d4 B5 d5 B6 d6 T4 g1 m1 g2 m2 g3 m3 Hw1.out.1 Hw1.out.2.1 Hw1.out.2.2.1 Hw1.out.2.2.2
                  have Hsa := Lib.hid hsa
                  have Hsb := Lib.hid (fun X (hX : Below T4.heap.size T4 X) => rSame_any E4 s2 f4 E5 C2 f5 E6 O2 f6 F4 o4 F5 o5 F6 o6 X (p1.below hX) (r1.below hX) (p2.below hX) (r2.below hX) (p3.below hX) (r3.below hX) Hw2.out.1 Hw2.out.2.1 Hw2.out.2.2.1 Hw2.out.2.2.2)
                  clear hsa g1 g2 g3 m1 m2 m3 p1 p2 p3 r1 r2 r3 hb1 hb2 hb3 hb4 hD1 hD2 hD3 hX2 hX3 hX4 hq1 hq2 hq3 hq4
                  go_wp2_with fail
                  refine Hsa.out.mono ?_
                  rintro e v5 ⟨rfl, hb5⟩
                  obtain ⟨c0, c1', c2', _, _⟩ := (q3.below hb5 q3.lt).threeE
                  obtain ⟨d0, d1, d2, _, _⟩ := (q4.below hb5 q4.lt).threeE
                  go_wp2_with fail
                  refine (Hsb.out v5 hb5).mono ?_
                  rintro e v6 ⟨rfl, hb6⟩
                  go_wp2_with fail
                  go_roundw
                  case rel => first | exact ⟨i + 1, by omega, by go_num, endB (endB (endB hbi hD4) hb5) hb6⟩ | ((repeat apply Exists.intro); exact ⟨⟨i + 1, by omega, by go_num, endB (endB (endB hbi hD4) hb5) hb6⟩, rfl⟩)
                  case measure => simp [intOf]; omega
                case neg =>
                  obtain rfl : i = 3 := by omega
                  go_wp2_with fail
                  go_roundw
                  case rel => exact ⟨j + 1, by omega, by go_num, endB hbK hbi⟩
                  case measure => simp [intOf]; omega
            case neg =>
              obtain rfl : j = 2 := by omega
              have hD := endB hbV hbj
              go_wp2_with fail
              go_roundw
              case rel => exact ⟨k + 1, by omega, by go_num, endB hB9 hD, k09.below hD k09.lt, kg9.below hD kg9.lt, kr9.below hD kr9.lt, hrp9.below hD, hSr9.below hD, hs9.kept hD⟩
              case measure => simp [intOf]; omega
    case neg =>
      obtain rfl : k = 2 := by omega
      go_wp2_with fail
      refine (Hawk.out _ hBw).mono ?_
      rintro e wz ⟨rfl, hbz⟩
      go_wp2_with fail
      go_ret
      exact ⟨rfl, endB hBw hbz⟩
end Go.Proofs.YtncimnfhfomddaaDoor
