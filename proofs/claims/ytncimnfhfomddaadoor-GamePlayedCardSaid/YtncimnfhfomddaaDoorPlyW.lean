/- Package game: Play, with a strategy that is accepted. -/
import Derived.Test.YtncimnfhfomddaaDoorPyP
import Derived.Test.YtncimnfhfomddaaDoorBxG
import Derived.Deep.CutBlock
import Derived.Deep.DeepCutAuto
namespace Go.Proofs.YtncimnfhfomddaaDoor
open Go.ChangeShapes Go.WideShapes Go.ChangeAt Go.RowKit

def slen : Value → Nat
  | .slice _ l _ => l
  | _ => 0
def RetPl (n k : Nat) (l : List (Int × Int)) (G : List Nat → Prop) (w : World) : Ending → World → Prop := fun e w' => ∃ (line : List Nat) (A : Option Addr) (c : Nat), e = .returned (.tuple #[.slice A line.length c, .int .i64 0]) ∧ G line ∧ lgL n k (attQ l) line = [] ∧ RI w' A (line.map Int.ofNat) ∧ line.length ≤ c ∧ Below w.heap.size w w'
/-- the number that a pick chooses -/
theorem pickI_ok (x : Int) {m : Nat} (hm : 0 < m) (hm2 : m ≤ 1000) (_hx : -9223372036854775808 ≤ x ∧ x ≤ 9223372036854775807) : ∃ j : Nat, j < m ∧ (x.tmod (m : Int) + (m : Int)).tmod (m : Int) = (j : Int) ∧ -(m : Int) < x.tmod (m : Int) ∧ x.tmod (m : Int) < (m : Int) := by
  have hm0 : (0 : Int) < (m : Int) := by omega
  have h1 : -(m : Int) < x.tmod (m : Int) ∧ x.tmod (m : Int) < (m : Int) := by
    by_cases h : 0 ≤ x
    · have := Int.tmod_lt_of_pos x hm0
      have := Int.tmod_nonneg (m : Int) h
      omega
    · have h3 := Int.tmod_lt_of_pos (-x) hm0
      have h4 := Int.tmod_nonneg (m : Int) (by omega : 0 ≤ -x)
      rw [Int.neg_tmod] at h3 h4
      omega
  have h2 : 0 ≤ x.tmod (m : Int) + (m : Int) := by omega
  have h3 := Int.tmod_lt_of_pos (x.tmod (m : Int) + (m : Int)) hm0
  have h4 := Int.tmod_nonneg (m : Int) h2
  obtain ⟨j, hj⟩ := Int.eq_ofNat_of_zero_le h4
  exact ⟨j, by omega, hj, h1⟩
theorem last_get {line : List Nat} (h : line ≠ []) : line[line.length - 1]'(by have := List.length_pos_iff.2 h; omega) = line.getLastD 0 := last_at h _

/-- what Play reads -/
structure PlSt (n : Nat) (l : List (Int × Int)) (k root b : Nat) (A2 : Option Addr) (OO : List (Nat × Nat)) (c2 : Nat) (AP : Option Addr) (picks : List Int) (gS gN gB gO : Nat) (w : World) : Prop where
  s0 : w.cell? ⟨gS, 0, none⟩ = some (.int .i64 (k : Int))
  s1 : w.cell? ⟨gS, 1, none⟩ = some (.int .i64 (root : Int))
  s2 : w.cell? ⟨gS, 2, none⟩ = some (.int .i64 (b : Int))
  s3 : w.cell? ⟨gS, 3, none⟩ = some (.slice A2 OO.length c2)
  d0 : w.cell? ⟨gN, 0, none⟩ = some (.int .u64 ((allN n : Nat) : Int))
  d1 : w.cell? ⟨gN, 1, none⟩ = some (.slice (some ⟨gB, 0, none⟩) n n)
  d2 : w.cell? ⟨gN, 2, none⟩ = some (.slice (some ⟨gO, 0, none⟩) n n)
  r2 : RP w A2 (OO.map toI)
  ri : RI w AP picks
  nr : NetR w n l (some ⟨gB, 0, none⟩) (some ⟨gO, 0, none⟩)
  tab : Tab w
theorem PlSt.below {n : Nat} {l : List (Int × Int)} {k root b : Nat} {A2 : Option Addr} {OO : List (Nat × Nat)} {c2 : Nat} {AP : Option Addr} {picks : List Int} {gS gN gB gO : Nat} {w w' : World} (h : PlSt n l k root b A2 OO c2 AP picks gS gN gB gO w) (hb : Below w.heap.size w w') : PlSt n l k root b A2 OO c2 AP picks gS gN gB gO w' :=
  ⟨(hb.cell (lt_of_cell h.s0)).trans h.s0, (hb.cell (lt_of_cell h.s1)).trans h.s1, (hb.cell (lt_of_cell h.s2)).trans h.s2, (hb.cell (lt_of_cell h.s3)).trans h.s3, (hb.cell (lt_of_cell h.d0)).trans h.d0, (hb.cell (lt_of_cell h.d1)).trans h.d1, (hb.cell (lt_of_cell h.d2)).trans h.d2, h.r2.below hb, h.ri.below hb, h.nr.below hb, h.tab.below hb⟩

set_option maxRecDepth 100000 in
set_option maxHeartbeats 16000000 in
theorem gPlay_any (A : Option Addr) {n : Nat} {l : List (Int × Int)} (c : Nat) (hv : Vld n l) (hn10 : n ≤ 10) (k root b : Nat) (hk : k = 1 ∨ k = 2) (hb : b = 1 ∨ b = 2) (hroot : root < n) (A2 : Option Addr) (OO : List (Nat × Nat)) (c2 : Nat) (ho : ∀ q ∈ OO, q.1 < n ∧ q.2 < n) (hasc : AscR OO) (hlo : OO.length ≤ 100000) (G : List Nat → Prop) (hG : PlayG n k b root (attQ l) OO G) (hok : ∀ b', WPost n l k b root OO b' → b' = true) (AP : Option Addr) (picks : List Int) (cp : Nat) (hpl : picks.length ≤ 300) (hpx : ∀ x ∈ picks, -9223372036854775808 ≤ x ∧ x ≤ 9223372036854775807) (w : World) (hr : RP w A l) (hr2 : RP w A2 (OO.map toI)) (hrp : RI w AP picks) (hT : Tab w) :
    Calls Tryd.prog 43 #[.agg #[.int .i64 (n : Int), .slice A l.length c], .agg #[.int .i64 (k : Int), .int .i64 (root : Int), .int .i64 (b : Int), .slice A2 OO.length c2], .slice AP picks.length cp] w (RetPl n k l G w) := by
  have hchk : ∀ W, Below w.heap.size w W → Calls Tryd.prog 38 #[.agg #[.int .i64 (n : Int), .slice A l.length c], .agg #[.int .i64 (k : Int), .int .i64 (root : Int), .int .i64 (b : Int), .slice A2 OO.length c2]] W (RetB (.int .i64 0) W) := fun W hW => by
    have h : Calls Tryd.prog 38 #[.agg #[.int .i64 (n : Int), .slice A l.length c], .agg #[.int .i64 (k : Int), .int .i64 (root : Int), .int .i64 (b : Int), .slice A2 OO.length c2]] W (RetGc n l k b root OO W) := by
      rcases hb with rfl | rfl
      · exact gCheckP_any A c hv hn10 (by omega) k root hk hroot A2 OO c2 ho hasc hlo W (hr.below hW) (hr2.below hW) (hT.below hW)
      · exact gCheckO_any A c hv hn10 (by omega) k root hk hroot A2 OO c2 ho hasc hlo W (hr.below hW) (hr2.below hW) (hT.below hW)
    refine h.mono ?_
    rintro e w' ⟨b', rfl, hp, hb'⟩
    have := hok b' hp
    subst this
    exact ⟨by rw [if_pos rfl], hb'⟩
  have hI := hv.1
  have hself : k = 2 → attQ l root root = false := hG.self
  have hGl : ∀ line, G line → line ≠ [] ∧ (∀ x ∈ line, x < n) ∧ line.length ≤ 2 * n + 1 := fun line h => ⟨(hG.ne line h).1, (hG.ne line h).2.1, hG.short hk h⟩
  have hri0 : (0 : Int) ≤ (root : Int) := by omega
  have hri1 : (root : Int) < (n : Int) := by omega
  have Hv := Lib.hid hv; have Hchk := Lib.hid hchk; have Hk := Lib.hid hk; have Hb := Lib.hid hb; have HI := Lib.hid hI; have Hself := Lib.hid hself; have HG := Lib.hid hG; have HGl := Lib.hid hGl; have Ho := Lib.hid ho; have Hasc := Lib.hid hasc; have Hpx := Lib.hid hpx
  clear hv hchk hk hb hI hself hG hGl ho hasc hok hpx
  go_enter Tryd.func43, Tryd.ntmps43
  go_upto_region 1 with fail
  obtain ⟨W0, hW, k0, k1, hb0, hs0⟩ := boxg24 w 24 64 (.int .i64 (n : Int)) (.slice A l.length c) (.int .i64 (k : Int)) (.int .i64 (root : Int)) (.int .i64 (b : Int)) (.slice A2 OO.length c2)
  rw [hW]
  obtain ⟨c0, c1, -, -⟩ := k0.two
  have s0 : W0.cell? ⟨w.heap.size + 1, 0, none⟩ = some (.int .i64 (k : Int)) := k1.cell 0
  have s1 : W0.cell? ⟨w.heap.size + 1, 1, none⟩ = some (.int .i64 (root : Int)) := k1.cell 1
  have s2 : W0.cell? ⟨w.heap.size + 1, 2, none⟩ = some (.int .i64 (b : Int)) := k1.cell 2
  have s3 : W0.cell? ⟨w.heap.size + 1, 3, none⟩ = some (.slice A2 OO.length c2) := k1.cell 3
  have hr0 := hr.below hb0; have hr20 := hr2.below hb0; have hrp0 := hrp.below hb0; have hT0 := hT.below hb0
  have Hc0 := Lib.hid (Hchk.out W0 hb0)
  clear hW k0 k1 hr hr2 hrp hT Hchk
  go_wp2_with fail
  refine Hc0.out.mono ?_
  rintro e w1 ⟨rfl, hb1⟩
  have c0 := (hb1.cell (lt_of_cell c0)).trans c0; have c1 := (hb1.cell (lt_of_cell c1)).trans c1
  have s0 := (hb1.cell (lt_of_cell s0)).trans s0; have s1 := (hb1.cell (lt_of_cell s1)).trans s1; have s2 := (hb1.cell (lt_of_cell s2)).trans s2; have s3 := (hb1.cell (lt_of_cell s3)).trans s3
  have hr1 := hr0.below hb1; have hr21 := hr20.below hb1; have hrp1 := hrp0.below hb1; have hT1 := hT0.below hb1
  have hb01 := endB hb0 hb1
  clear hr0 hr20 hrp0 hT0 hb1 hb0 Hc0 hs0
  go_wp2_with fail
  refine (netNew_any A n l c w1 hr1 HI.out).mono ?_
  rintro e w3 ⟨gB, gO, rfl, hgB, hgO, hrB, hrO, hb3⟩
  have s0 := (hb3.cell (lt_of_cell s0)).trans s0; have s1 := (hb3.cell (lt_of_cell s1)).trans s1; have s2 := (hb3.cell (lt_of_cell s2)).trans s2; have s3 := (hb3.cell (lt_of_cell s3)).trans s3
  have hr23 := hr21.below hb3; have hrp3 := hrp1.below hb3; have hT3 := hT1.below hb3
  have hb03 := endB hb01 hb3
  clear hr1 hr21 hrp1 hT1 hb3 hb01 c0 c1
  go_upto_region 5 with fail
  obtain ⟨W4, hW, kn, hb4, hs4⟩ := boxA w3 97 #[.int .u64 ((allN n : Nat) : Int), .slice (some ⟨gB, 0, none⟩) n n, .slice (some ⟨gO, 0, none⟩) n n]
  rw [hW]
  have d0 : W4.cell? ⟨w3.heap.size, 0, none⟩ = some (.int .u64 ((allN n : Nat) : Int)) := kn.cell 0
  have d1 : W4.cell? ⟨w3.heap.size, 1, none⟩ = some (.slice (some ⟨gB, 0, none⟩) n n) := kn.cell 1
  have d2 : W4.cell? ⟨w3.heap.size, 2, none⟩ = some (.slice (some ⟨gO, 0, none⟩) n n) := kn.cell 2
  have s0 := (hb4.cell (lt_of_cell s0)).trans s0; have s1 := (hb4.cell (lt_of_cell s1)).trans s1; have s2 := (hb4.cell (lt_of_cell s2)).trans s2; have s3 := (hb4.cell (lt_of_cell s3)).trans s3
  have hr24 := hr23.below hb4; have hrp4 := hrp3.below hb4; have hT4 := hT3.below hb4
  have hnr4 : NetR W4 n l (some ⟨gB, 0, none⟩) (some ⟨gO, 0, none⟩) := NetR.below ⟨hrB, hrO⟩ hb4
  have hb04 := endB hb03 hb4
  have hst4 : PlSt n l k root b A2 OO c2 AP picks (w.heap.size + 1) w3.heap.size gB gO W4 := ⟨s0, s1, s2, s3, d0, d1, d2, hr24, hrp4, hnr4, hT4⟩
  have Hst4 := Lib.hid hst4
  clear hW kn hr23 hrp3 hT3 hrB hrO hb4 hb03 hs4 hgB hgO d0 d1 d2 s0 s1 s2 s3 hr24 hrp4 hnr4 hT4
  have s1 := hst4.s1
  go_upto_region 6 with fail
  obtain ⟨W5, hW5⟩ : ∃ W5, W4.alloc (.cells #[.int .i64 (root : Int)] 3) = W5 := ⟨_, rfl⟩
  have hown5 : OwnI W5 W4.heap.size (.slice (some ⟨W4.heap.size, 0, none⟩) 1 1) [(root : Int)] := hW5 ▸ own_one W4 (root : Int)
  have hb5 : Below W4.heap.size W4 W5 := hW5 ▸ newB W4 _
  rw [hW5]
  have hst5 := hst4.below hb5
  clear hst4 s1 hW5
  have s0 := hst5.s0; have s1 := hst5.s1; have d1 := hst5.d1; have d2 := hst5.d2; have d0 := hst5.d0
  obtain ⟨b2, o2, hB2, hcb⟩ := hst5.nr.b root (by rw [byL_length]; exact hroot)
  injection hB2 with hB2; injection hB2 with ea eb _; subst ea; subst eb
  rw [Nat.zero_add] at hcb
  have hbu : (byL n l).getD root 0 < 18446744073709551616 := by rw [byL_at hroot]; exact u64_of HI.out.1 (mk_pow (inR_flip HI.out) root)
  have hbt := by_testBit HI.out hroot root
  generalize (byL n l).getD root 0 = bx at *
  have hhas := fun W => netHas_any bx root hbu (by omega) W
  rw [hbt] at hhas
  clear hbu hbt hst5
  go_cut [40] (fun t40 wx => t40 = .bool false ∧ Below W5.heap.size W5 wx)
  case first =>
    rcases Hk.out with rfl | rfl
    · go_quiet (fail)
      go_wp2_with fail
      go_meet
      exact ⟨rfl, below_drewN (Below.refl _ _) _⟩
    · rw [Hself.out rfl] at hhas
      go_quiet ((refine (hhas _).mono ?_; rintro e w' ⟨rfl, rfl⟩; exact ⟨rfl, _, rfl⟩))
      go_wp2_with fail
      go_meet
      exact ⟨rfl, below_drewN (Below.refl _ _) _⟩
  obtain ⟨rfl, hd⟩ := hcut
  have hown6 := OwnI.below hown5 hd
  have hb46 : Below W4.heap.size W4 wc := hb5.trans (hd.mono hb5.size)
  have Hown6 := Lib.hid hown6; have Hb46 := Lib.hid hb46; have Hb04 := Lib.hid hb04
  have hsz4 : w.heap.size ≤ W4.heap.size := hb04.size
  clear hhas hcb s0 s1 d0 d1 d2 hown5 hb5 hd hown6 hb46 hb04
  go_wp2_with fail
  go_loopw [10, 11] (fun t10 t11 wx => ∃ (line : List Nat) (AL : Option Addr) (cl o : Nat), t10 = .slice AL line.length cl ∧ t11 = .int .i64 (o : Int) ∧ G line ∧ o ≤ line.length ∧ OwnI wx W4.heap.size (.slice AL line.length cl) (line.map Int.ofNat) ∧ Below W4.heap.size W4 wx) (fun t10 _ _ => 200 - slen t10)
  case atStart => exact ⟨[root], some ⟨W4.heap.size, 0, none⟩, 1, 0, rfl, rfl, HG.out.start, Nat.zero_le _, Hown6.out, Hb46.out⟩
  case round =>
    obtain ⟨line, AL, cl, o, rfl, rfl, hg, hol, hown, hbr⟩ := hrel
    obtain ⟨hne, hx, hlen⟩ := HGl.out line hg
    have hlen2 : line.length < 200 := by omega
    have hlenI : (line.length : Int) < 200 := by omega
    have hpos := List.length_pos_iff.2 hne
    have hst := Hst4.out.below hbr
    have s0 := hst.s0; have d0 := hst.d0; have d1 := hst.d1; have d2 := hst.d2
    have hri : RI wr AL (line.map Int.ofNat) := OwnI.ri (by rw [List.length_map]; exact hown)
    have hcap : line.length ≤ cl := by have := OwnI.cap (l := line.map Int.ofNat) (A := AL) (c := cl) (by rw [List.length_map]; exact hown); rwa [List.length_map] at this
    have hleg := gLegal_any HI.out k Hk.out gB gO AL line cl wr hne hx (by omega) hri hst.nr hst.tab
    have hml : bitsL (lgL n k (attQ l) line) < 2 ^ n := bitsL_lt fun z hz => (mem_lg.1 hz).1
    have hlist := fun W hT => netList_any (bitsL (lgL n k (attQ l) line)) (u64_of HI.out.1 hml) W hT
    rw [lg_nodes (by omega)] at hlist
    have hmL : ∀ z ∈ lgL n k (attQ l) line, z < n := fun z hz => (mem_lg.1 hz).1
    have hlL : (lgL n k (attQ l) line).length ≤ n := by have := List.length_filter_le (lgB k (attQ l) line) (List.range n); rw [List.length_range] at this; exact this
    have hmine := HG.out.mine line hg
    have hoth := HG.out.oth line hg
    obtain ⟨L, hL⟩ : ∃ L, lgL n k (attQ l) line = L := ⟨_, rfl⟩
    rw [hL] at hleg hlist hmL hlL hmine hoth
    have HL := Lib.hid hL
    have Hg := Lib.hid hg; have Hx := Lib.hid hx; have Hne := Lib.hid hne; have Hst := Lib.hid hst; have Hri := Lib.hid hri; have Hown := Lib.hid hown; have Hbr := Lib.hid hbr; have Hleg := Lib.hid hleg; have Hlist := Lib.hid hlist; have HmL := Lib.hid hmL; have Hmine := Lib.hid hmine; have Hoth := Lib.hid hoth
    clear hg hx hne hst hri hown hbr hleg hlist hmL hmine hoth hL hml
    go_wp2_with fail
    refine Hleg.out.mono ?_
    rintro e w7 ⟨rfl, hb7⟩
    have Hl := Lib.hid (Hlist.out w7 (Hst.out.tab.below hb7))
    go_wp2_with fail
    refine Hl.out.mono ?_
    rintro e w8 ⟨A8, c8, rfl, hoy, -, -, hb8⟩
    have hb78 : Below wr.heap.size wr w8 := hb7.trans (hb8.mono hb7.size)
    have hriL : RI w8 A8 (L.map Int.ofNat) := hoy.ri
    have hst8 := Hst.out.below hb78
    have Hst8 := Lib.hid hst8; have HriL := Lib.hid hriL
    have Hri8 := Lib.hid (Hri.out.below hb78); have Hown8 := Lib.hid (OwnI.below Hown.out hb78); have Hbr8 := Lib.hid (Hbr.out.trans (hb78.mono Hbr.out.size))
    rw [List.length_map]
    clear s0 d0 d1 d2 hst8 hriL hoy hb7 hb8 hb78 Hl Hlist Hleg Hst Hri Hown Hbr
    by_cases hLn : L = []
    case pos =>
      subst hLn
      go_wp2_with fail
      go_ret2
      exact ⟨line, AL, cl, rfl, Hg.out, HL.out, Hri8.out, hcap, Hb04.out.trans (Hbr8.out.mono hsz4)⟩
    case neg =>
    have hLp := List.length_pos_iff.2 hLn
    have hLz : ((L.length : Int) == 0) = false := by rw [beq_eq_false_iff_ne]; omega
    have s2 := Hst8.out.s2
    go_upto_region 12 with fail
    go_cut [13] (fun t13 wx => t13 = .bool (decide (mvr line = b)) ∧ wx = w8)
    case first =>
      rcases Hb.out with rfl | rfl
      · by_cases hpar : line.length % 2 = 0
        · have hq : ((line.length : Int) % 2 == 0) = true := by rw [beq_iff_eq]; omega
          have hm : mvr line = 1 := if_pos hpar
          have Hm := Lib.hid hm
          clear hpar hm
          go_wp2_with fail
          go_meet
          exact ⟨by rw [Hm.out]; rfl, rfl⟩
        · have hq : ((line.length : Int) % 2 == 0) = false := by rw [beq_eq_false_iff_ne]; omega
          have hm : mvr line = 2 := if_neg hpar
          have Hm := Lib.hid hm
          clear hpar hm
          go_wp2_with fail
          go_meet
          exact ⟨by rw [Hm.out]; rfl, rfl⟩
      · by_cases hpar : line.length % 2 = 0
        · have hq : ((line.length : Int) % 2 == 0) = true := by rw [beq_iff_eq]; omega
          have hm : mvr line = 1 := if_pos hpar
          have Hm := Lib.hid hm
          clear hpar hm
          go_wp2_with fail
          go_meet
          exact ⟨by rw [Hm.out]; rfl, rfl⟩
        · have hq : ((line.length : Int) % 2 == 0) = false := by rw [beq_eq_false_iff_ne]; omega
          have hm : mvr line = 2 := if_neg hpar
          have Hm := Lib.hid hm
          clear hpar hm
          go_wp2_with fail
          go_meet
          exact ⟨by rw [Hm.out]; rfl, rfl⟩
    obtain ⟨rfl, rfl⟩ := hcut
    have hlt : line.length - 1 < line.length := by omega
    have hla := last_at Hne.out hlt
    have hlast := Hx.out _ (last_mem Hne.out)
    have hmi := Hmine.out
    obtain ⟨x, hxe⟩ : ∃ x, line.getLastD 0 = x := ⟨_, rfl⟩
    rw [hxe] at hla hlast hmi
    have hrep := fun W (hW : Below wc.heap.size wc W) => reply_any (k : Int) (root : Int) (b : Int) A2 OO c2 x W (Hst8.out.r2.below hW) hlo Hasc.out (fun q hq => by have := (Ho.out q hq).1; omega) (by omega)
    obtain ⟨z, hz⟩ : ∃ z, (rpF OO x).getD 0 = z := ⟨_, rfl⟩
    obtain ⟨bz, hbz⟩ : ∃ bz, (rpF OO x).isSome = bz := ⟨_, rfl⟩
    have hmi2 : mvr line = b → bz = true ∧ z ∈ L ∧ G (line ++ [z]) := fun e => by
      obtain ⟨y, h1, h2, h3⟩ := hmi e
      rw [h1] at hz hbz
      subst hz; subst hbz
      exact ⟨rfl, h2, h3⟩
    have hrv : replV (rpF OO x) = .tuple #[.int .i64 (z : Int), .bool bz] := by unfold replV; rw [hz, hbz]
    rw [hrv] at hrep
    obtain ⟨bb, oo, hAL, hc⟩ := Hri8.out.at_ (k := line.length - 1) (by rw [List.length_map]; exact hlt)
    rw [List.getElem_map, hla, Int.ofNat_eq_natCast] at hc
    subst hAL
    have hw : wrap64 ((line.length : Int) - 1) = ((line.length - 1 : Nat) : Int) := by unfold wrap64; omega
    have hw2 : IntKind.i64.wrap ((line.length : Int) - 1) = ((line.length - 1 : Nat) : Int) := by rw [IntKind.wrap_i64]; omega
    have hi0 : (0 : Int) ≤ ((line.length - 1 : Nat) : Int) := by omega
    have hi1 : ((line.length - 1 : Nat) : Int) < (line.length : Int) := by omega
    have s0 := Hst8.out.s0; have s1 := Hst8.out.s1; have s2 := Hst8.out.s2; have s3 := Hst8.out.s3
    have Hmi := Lib.hid hmi2; have Hrep := Lib.hid hrep
    clear hla hmi hxe hz hbz hmi2 hrv hrep hlt hlast Hmine
    go_wp2_with fail
    refine wp_region_textB [7] (fun w' => Below wc.heap.size wc w') (fun _ => True) (by kernel_rfl) (by kernel_rfl) (by kernel_rfl) (Below.refl _ _).drew trivial ?_
    repeat (first
      | (refine TxtBL.skip (by rfl) ?_; simp only [Act.put, List.setIfInBounds_toArray, List.set_cons_zero, List.set_cons_succ])
      | (refine TxtBL.take (by rfl) (by rfl) ?_; apply Exists.intro; refine ⟨fun w1 hS1 => ?_, ?_⟩; (focus ((have g0 := (hS1.cell (lt_of_cell s0)).trans s0; have g1 := (hS1.cell (lt_of_cell s1)).trans s1; have g2 := (hS1.cell (lt_of_cell s2)).trans s2; have g3 := (hS1.cell (lt_of_cell s3)).trans s3; have g4 := (hS1.cell (lt_of_cell hc)).trans hc); go_simp; with_reducible rfl)); simp only [Act.put, List.setIfInBounds_toArray, List.set_cons_zero, List.set_cons_succ])
      | (refine TxtBL.takeE (by rfl) (by rfl) ?_; apply Exists.intro; refine ⟨fun w1 hS1 => ?_, ?_⟩; (focus ((have g0 := (hS1.cell (lt_of_cell s0)).trans s0; have g1 := (hS1.cell (lt_of_cell s1)).trans s1; have g2 := (hS1.cell (lt_of_cell s2)).trans s2; have g3 := (hS1.cell (lt_of_cell s3)).trans s3; have g4 := (hS1.cell (lt_of_cell hc)).trans hc); go_simp; with_reducible rfl)); simp only [Act.put, List.setIfInBounds_toArray, List.set_cons_zero, List.set_cons_succ]))
    refine TxtBL.call (f := 92) (args := #[.agg #[.int .i64 (k : Int), .int .i64 (root : Int), .int .i64 (b : Int), .slice A2 OO.length c2], .int .i64 (x : Int)]) (fun u => u = .tuple #[.int .i64 (z : Int), .bool bz]) (fun _ _ => True) (by rfl) (by rfl) ⟨_, rfl⟩ (fun w1 hS1 hJ1 => by go_simp) (fun w1 hS1 hJ1 => ?_) ?_
    · refine (Hrep.out w1 hS1).mono ?_
      rintro e w' ⟨rfl, hb⟩
      exact ⟨_, rfl, hS1.trans (hb.mono hS1.size), rfl, trivial⟩
    rintro _ rfl
    simp only [Act.put, List.setIfInBounds_toArray, List.set_cons_zero, List.set_cons_succ]
    repeat (first
      | (refine TxtBL.skip (by rfl) ?_; simp only [Act.put, List.setIfInBounds_toArray, List.set_cons_zero, List.set_cons_succ])
      | (refine TxtBL.take (by rfl) (by rfl) ?_; apply Exists.intro; refine ⟨fun w1 hS1 => ?_, ?_⟩; (focus (skip; go_simp; with_reducible rfl)); simp only [Act.put, List.setIfInBounds_toArray, List.set_cons_zero, List.set_cons_succ])
      | (refine TxtBL.takeE (by rfl) (by rfl) ?_; apply Exists.intro; refine ⟨fun w1 hS1 => ?_, ?_⟩; (focus (skip; go_simp; with_reducible rfl)); simp only [Act.put, List.setIfInBounds_toArray, List.set_cons_zero, List.set_cons_succ]))
    refine TxtBL.nil (fun W9 hS9 _ => ?_)
    have Hst9 := Lib.hid (Hst8.out.below hS9)
    have HriL9 := Lib.hid (HriL.out.below hS9); have Hown9 := Lib.hid (OwnI.below Hown8.out hS9); have Hbr9 := Lib.hid (Hbr8.out.trans (hS9.mono Hbr8.out.size))
    clear s0 s1 s2 s3 hc hw hw2 hi0 hi1 hS9 Hst8 HriL Hown8 Hri8 Hrep
    obtain ⟨dm, hdm⟩ : ∃ dm, decide (mvr line = b) = dm := ⟨_, rfl⟩
    rw [hdm]
    have Hdm := Lib.hid hdm
    clear hdm
    go_upto_block 2 with fail
    go_cut [11, 14] (fun t11 t14 wx => ∃ (a o' : Nat), t11 = .int .i64 (o' : Int) ∧ t14 = .int .i64 (a : Int) ∧ a ∈ L ∧ G (line ++ [a]) ∧ o' ≤ line.length + 1 ∧ wx = W9)
    case first =>
      cases dm
      case true =>
        obtain ⟨hbz, hzL, hzG⟩ := Hmi.out (of_decide_eq_true Hdm.out)
        have Hzg := Lib.hid hzG; have HzL := Lib.hid hzL
        cases bz
        · cases hbz
        clear hzG hzL hbz
        go_wp2_with fail
        go_meet
        exact ⟨z, o, rfl, rfl, HzL.out, Hzg.out, by omega, rfl⟩
      case false =>
        have Hm : RowKit.Hid (mvr line ≠ b) := Lib.hid (of_decide_eq_false Hdm.out)
        have hlI : (L.length : Int) ≠ 0 := by omega
        have hri := Hst9.out.ri
        by_cases hop : o < picks.length
        case neg =>
          obtain ⟨b8, o8, hA8, hc8⟩ := HriL9.out.at_ (k := 0) (by rw [List.length_map]; exact hLp)
          obtain ⟨a, ha⟩ : ∃ a, L[0] = a := ⟨_, rfl⟩
          rw [List.getElem_map, ha, Int.ofNat_eq_natCast, Nat.add_zero] at hc8
          subst hA8
          have haL : a ∈ L := by rw [← ha]; exact List.getElem_mem _
          have HaL := Lib.hid haL
          have hl0 : (0 : Int) < (L.length : Int) := by omega
          clear haL ha hri
          go_wp2_with fail
          go_meet
          exact ⟨a, o + 1, by go_num, rfl, HaL.out, Hoth.out Hm.out a HaL.out, by omega, rfl⟩
        case pos =>
          obtain ⟨b8, o8, hA8, hc8⟩ := HriL9.out.at_ (k := 0) (by rw [List.length_map]; exact hLp)
          subst hA8
          rw [Nat.add_zero] at hc8
          obtain ⟨v, hv⟩ : ∃ v, picks[o] = v := ⟨_, rfl⟩
          have hvr := Hpx.out v (by rw [← hv]; exact List.getElem_mem _)
          obtain ⟨b7, o7, hA7, hc7⟩ := hri.at_ (k := o) hop
          rw [hv] at hc7
          subst hA7
          obtain ⟨j, hj, hje, hj1, hj2⟩ := pickI_ok v hLp (by omega) hvr
          obtain ⟨b9, o9, hA9, hc9⟩ := HriL9.out.at_ (k := j) (by rw [List.length_map]; exact hj)
          injection hA9 with hA9; injection hA9 with ea eb _; subst ea; subst eb
          obtain ⟨a, ha⟩ : ∃ a, L[j] = a := ⟨_, rfl⟩
          rw [List.getElem_map, ha, Int.ofNat_eq_natCast] at hc9
          have haL : a ∈ L := by rw [← ha]; exact List.getElem_mem _
          have HaL := Lib.hid haL
          have hl0 : (0 : Int) < (L.length : Int) := by omega
          have hw1 : IntKind.i64.wrap (v.tmod (L.length : Int) + (L.length : Int)) = v.tmod (L.length : Int) + (L.length : Int) := by rw [IntKind.wrap_i64]; omega
          have hw3 : wrap64 (v.tmod (L.length : Int) + (L.length : Int)) = v.tmod (L.length : Int) + (L.length : Int) := by unfold wrap64; omega
          have hj0 : (0 : Int) ≤ (j : Int) := by omega
          have hjl : (j : Int) < (L.length : Int) := by omega
          clear haL ha hri hvr hv
          go_wp2_with fail
          go_meet
          exact ⟨a, o + 1, by go_num, rfl, HaL.out, Hoth.out Hm.out a HaL.out, by omega, rfl⟩
    obtain ⟨a, o', rfl, rfl, haL, hGa, ho', rfl⟩ := hcut
    have HGa := Lib.hid hGa
    have hMs : W4.heap.size ≤ wc.heap.size := Hbr9.out.size
    clear haL hGa
    go_wp2_with (at_builtin; refine wpList_appI2 (by rfl) _ _ (by rfl) wc W4.heap.size _ (line.map Int.ofNat) (a : Int) Hown9.out (by rfl) (by rfl) rfl (by rw [List.length_map]; omega) hMs ?_; intro v' w10 hown10 hb10 hg10 hv10; obtain ⟨A10, c10, e10, -⟩ := OwnI.form hown10; (rw [show (line.map Int.ofNat ++ [(a : Int)]).length = line.length + 1 by simp] at e10); subst e10; (have Ho10 := Lib.hid hown10); (have Hb10 := Lib.hid (Hbr9.out.trans hb10)); clear hown10 hb10 hg10 hv10)
    go_roundw
    case rel => exact ⟨line ++ [a], A10, c10, o', by rw [lens_snoc], rfl, HGa.out, by rw [lens_snoc]; exact ho', by rw [lens_snoc, List.map_append]; exact Ho10.out, Hb10.out⟩
    case measure => simp [slen]; omega
end Go.Proofs.YtncimnfhfomddaaDoor
