/- The walk of the statement GraphComponents. -/
import Derived.Test.YtkflanjlnbdkmaaDoorA10
import Derived.Test.YtkflanjlnbdkmaaDoorCpl
import Derived.Test.YtkflanjlnbdkmaaDoorGenM
import Derived.Deep.DeepCutAuto
namespace Go.Proofs.YtkflanjlnbdkmaaDoor
open Go.ChangeShapes Go.WideShapes Go.ChangeAt Go.RowKit

/-- the row of places, and the lists of the components -/
structure CAt (W0 : World) (gA n B : Nat) (v : Value) (xs : List Value) (L : List (List Int)) (f : Nat → Int) (wr : World) : Prop where
  row : Row wr gA n f
  own : OwnS wr B v xs
  lists : OwnL wr B xs L
  gB : gA < B
  bel : Below gA W0 wr
section
variable {W0 : World} {gA n B : Nat} {v : Value} {xs : List Value} {L : List (List Int)} {f : Nat → Int} {wr : World}
theorem CAt.set (h : CAt W0 gA n B v xs L f wr) (i : Nat) (x : Int) : CAt W0 gA n B v xs L (upd f i x) (wr.setCell ⟨gA, i, none⟩ (.int .i64 x)) :=
  { h with
    row := h.row.set i x
    own := OwnS.low h.own (a := ⟨gA, i, none⟩) h.gB _
    lists := h.lists.but (setCell_grown wr ⟨gA, i, none⟩ _) (fun v l h2 e => by have h1 := OwnI.block h2 gA e; have h3 := h.gB; omega)
    bel := h.bel.setCell (p := ⟨gA, i, none⟩) (Nat.le_refl _) _ }
theorem CAt.below (h : CAt W0 gA n B v xs L f wr) {w' : World} (hb : Below wr.heap.size wr w') : CAt W0 gA n B v xs L f w' :=
  { h with
    row := rowIs_new h.row hb
    own := World.ownsRow.kept h.own (row := none) ⟨hb.os, hb.tape, hb.output, hb.size, fun k hk _ => hb.block k hk⟩ (by cases v.ownBlock <;> simp)
    lists := h.lists.below hb
    bel := h.bel.trans (hb.mono (Nat.le_of_lt h.row.lt)) }
end
theorem addr_add (g k : Nat) : (⟨g, 0, none⟩ : Addr).add k = ⟨g, 0 + k, none⟩ := by unfold Addr.add; split <;> simp_all
theorem inB_nodes0 {n : Nat} {f : Nat → Bool} {k : Nat} (hk : k < n) : inB (nodesB n f) k = f k := by
  rw [Bool.eq_iff_iff, inB_iff, mem_nodesB]
  constructor
  · rintro ⟨i, _, h, e⟩
    have : k = i := by omega
    rw [this]; exact h
  · intro h; exact ⟨k, hk, h, rfl⟩
theorem CAt.comp {W0 : World} {gA n B : Nat} {A5 : Option Addr} {m c5 : Nat} {xs : List Value} {L : List (List Int)} {f : Nat → Int} {wr : World} (h : CAt W0 gA n B (.slice A5 m c5) xs L f wr) {k : Nat} (hk : k < L.length) :
    ∃ b o A' c', A5 = some ⟨b, o, none⟩ ∧ wr.cell? ⟨b, o + k, none⟩ = some (.slice A' L[k].length c') ∧ xs[k]? = some (.slice A' L[k].length c') := by
  obtain ⟨A', c', hx, _⟩ := h.lists.2 k hk
  have e : L.getD k [] = L[k] := by simp [List.getD, hk]
  rw [e] at hx
  have hown := h.own
  obtain ⟨h1, h2⟩ := h.own
  rcases h2 with ⟨e2, hn⟩ | ⟨g, cap, cur, e2, hg, r⟩
  · have : xs = [] := List.eq_nil_of_length_eq_zero hn
    rw [this] at hx; cases hx
  · injection e2 with e3 _ _
    have c0 := World.ownsRow.cells (g := g) hown (by rw [e3]; rfl) _ _ hx
    rw [addr_add] at c0
    exact ⟨g, 0, A', c', e3, c0, hx⟩
theorem CAt.ri {W0 : World} {gA n B : Nat} {v : Value} {xs : List Value} {L : List (List Int)} {f : Nat → Int} {wr : World} (h : CAt W0 gA n B v xs L f wr) {k : Nat} (hk : k < L.length) {A' : Option Addr} {m c' : Nat} (hx : xs[k]? = some (.slice A' m c')) : RI wr A' L[k] := by
  obtain ⟨A2, c2, hx2, ho⟩ := h.lists.2 k hk
  have e : L.getD k [] = L[k] := by simp [List.getD, hk]
  rw [e] at hx2 ho
  rw [hx] at hx2
  injection hx2 with hx2
  injection hx2 with e1 _ _
  rw [e1]; exact ho.ri
theorem nodesB_nodup (n : Nat) (p : Nat → Bool) : (nodesB n p).Nodup := by
  unfold nodesB
  refine List.Pairwise.map _ (fun a b h => ?_) (List.Pairwise.filter _ List.nodup_range)
  intro e; exact h (Int.ofNat.inj e)
/-- the place of a node, after k components -/
def Pos2 (n : Nat) (M : List Nat) (k : Nat) (f : Nat → Int) : Prop := ∀ x, x < n → (f x = -1 ∧ ∀ j (hj : j < M.length), j < k → ¬ has M[j] x) ∨ ∃ j, ∃ hj : j < M.length, j < k ∧ has M[j] x ∧ f x = j
/-- .. and after q nodes of the next one -/
def Pos3 (n : Nat) (M : List Nat) (k q : Nat) (ks : List Int) (f : Nat → Int) : Prop := ∀ x, x < n → (f x = -1 ∧ (∀ j (hj : j < M.length), j < k → ¬ has M[j] x) ∧ (x : Int) ∉ ks.take q) ∨ (∃ j, ∃ hj : j < M.length, j < k ∧ has M[j] x ∧ f x = j) ∨ ((x : Int) ∈ ks.take q ∧ f x = k)
theorem Pos3.start {n : Nat} {M : List Nat} {k : Nat} {ks : List Int} {f : Nat → Int} (h : Pos2 n M k f) : Pos3 n M k 0 ks f := fun x hx => by
  rcases h x hx with ⟨a, b⟩ | h
  · exact .inl ⟨a, b, by simp⟩
  · exact .inr (.inl h)
theorem Pos3.ended {n : Nat} {M : List Nat} {k : Nat} {f : Nat → Int} (hn : n ≤ 40) (hk : k < M.length) (h : Pos3 n M k (nodesB 64 M[k].testBit).length (nodesB 64 M[k].testBit) f) : Pos2 n M (k + 1) f := fun x hx => by
  have hm : ((x : Int) ∈ nodesB 64 M[k].testBit) ↔ has M[k] x := by
    rw [mem_nodesB]
    constructor
    · rintro ⟨a, _, ha, e⟩
      have : x = a := by omega
      rw [this]; exact ha
    · intro h; exact ⟨x, by omega, h, rfl⟩
  have h' := h x hx
  rw [List.take_length] at h'
  rcases h' with ⟨a, b, c⟩ | ⟨j, hj, h1, h2, h3⟩ | ⟨a, b⟩
  · refine .inl ⟨a, fun j hj hjk hh => ?_⟩
    rcases Nat.lt_or_ge j k with h2 | h2
    · exact b j hj h2 hh
    · obtain rfl : j = k := by omega
      exact c (hm.2 hh)
  · exact .inr ⟨j, hj, by omega, h2, h3⟩
  · exact .inr ⟨k, hk, by omega, hm.1 a, b⟩
theorem Pos3.at_ {n : Nat} {l : List (Int × Int)} {M : List Nat} {k q a : Nat} {f : Nat → Int} (hs : CSpec n l M) (hk : k < M.length) (ha : a < n) (hq : q < (nodesB 64 M[k].testBit).length) (he : (nodesB 64 M[k].testBit)[q] = (a : Int)) (h : Pos3 n M k q (nodesB 64 M[k].testBit) f) : f a = -1 := by
  have hm : has M[k] a := by
    obtain ⟨b, _, hb, e⟩ := mem_nodesB.1 (List.getElem_mem hq)
    have : a = b := by omega
    rw [this]; exact hb
  rcases h a ha with ⟨h1, _⟩ | ⟨j, hj, h1, h2, _⟩ | ⟨h1, _⟩
  · exact h1
  · have := hs.uni j k hj hk a h2 hm; omega
  · obtain ⟨i, hi, e⟩ := List.getElem_of_mem h1
    have hi' : i < q := by rw [List.length_take] at hi; omega
    rw [List.getElem_take, ← he] at e
    exact absurd e (List.pairwise_iff_getElem.1 (nodesB_nodup 64 M[k].testBit) i q (by omega) hq hi')
theorem Pos3.next {n : Nat} {M : List Nat} {k q a : Nat} {ks : List Int} {f : Nat → Int} (hq : q < ks.length) (he : ks[q] = (a : Int)) (hf : f a = -1) (h : Pos3 n M k q ks f) : Pos3 n M k (q + 1) ks (upd f a (k : Int)) := fun x hx => by
  have hm : ((x : Int) ∈ ks.take (q + 1)) ↔ ((x : Int) ∈ ks.take q ∨ x = a) := by
    rw [List.take_succ_eq_append_getElem hq, List.mem_append, List.mem_singleton, he]
    constructor
    · rintro (h | h)
      · exact .inl h
      · exact .inr (by omega)
    · rintro (h | h)
      · exact .inl h
      · exact .inr (by omega)
  by_cases e : x = a
  · subst e
    exact .inr (.inr ⟨hm.2 (.inr rfl), by simp [upd]⟩)
  · have hu : upd f a (k : Int) x = f x := by unfold upd; rw [if_neg e]
    rw [hu]
    rcases h x hx with ⟨a, b, c⟩ | h | ⟨a, b⟩
    · exact .inl ⟨a, b, fun h => (hm.1 h).elim c e⟩
    · exact .inr (.inl h)
    · exact .inr (.inr ⟨hm.2 (.inl a), b⟩)
/-- the places at the end -/
theorem Pos2.place {n : Nat} {l : List (Int × Int)} {M : List Nat} {f : Nat → Int} (hs : CSpec n l M) (h : Pos2 n M M.length f) {x : Nat} (hx : x < n) : ∃ j, ∃ hj : j < M.length, has M[j] x ∧ f x = j := by
  rcases h x hx with ⟨_, b⟩ | ⟨j, hj, _, h1, h2⟩
  · obtain ⟨k, hk, hh⟩ := hs.cov x hx
    exact absurd hh (b k hk hk)
  · exact ⟨j, hj, h1, h2⟩
theorem place_both {n : Nat} {l : List (Int × Int)} {M : List Nat} {f : Nat → Int} (hv : InR n l) (hs : CSpec n l M) (h : Pos2 n M M.length f) {x y : Nat} (hx : x < n) (hy : y < n) : (rchB n l x y && rchB n l y x) = (f x == f y) := by
  obtain ⟨j, hj, h1, e1⟩ := h.place hs hx
  obtain ⟨k, hk, h2, e2⟩ := h.place hs hy
  have hb := hs.both j k hj hk x y h1 h2
  rw [Bool.eq_iff_iff, Bool.and_eq_true, rch_iff hv hx, rch_iff hv hy, ← hb, e1, e2, beq_iff_eq]
  omega
theorem place_le {n : Nat} {l : List (Int × Int)} {M : List Nat} {f : Nat → Int} (hv : InR n l) (hs : CSpec n l M) (h : Pos2 n M M.length f) {x y : Nat} (he : att l x y) : f x ≤ f y := by
  obtain ⟨hx, hy⟩ := att_lt hv he
  obtain ⟨j, hj, h1, e1⟩ := h.place hs hx
  obtain ⟨k, hk, h2, e2⟩ := h.place hs hy
  have := hs.fwd j k hj hk x y h1 h2 he
  omega

set_option maxRecDepth 100000 in
set_option maxHeartbeats 8000000 in
theorem gcomps_law_any (A : Option Addr) (arg : List Int) (c : Nat) (w : World)
    (hlc : arg.length ≤ c) (hc : c ≤ 9223372036854775807) (hr : RI w A arg) (hx : ∀ x ∈ arg, -9223372036854775808 ≤ x ∧ x ≤ 9223372036854775807) (hT : Tab w) :
    Calls Tryd.prog 4 #[.slice A arg.length c] w (RetB (.bool true) w) := by
  go_enter Tryd.func4, Tryd.ntmps4
  go_wp2_with fail
  refine (new_any A arg c w hlc hc hr hx).mono ?_
  rintro e w1 ⟨p, rfl, hp, hs1, hb1⟩
  clear hr hx
  go_wp2_with fail
  refine (graph_any p 10 w1 hs1 (by omega)).mono ?_
  rintro e w2 ⟨n, l, AL, cl, rfl, hN, hv, hrp, hloc, hs2, hg2⟩
  have hb2 : Below w.heap.size w w2 := hb1.trans (below_of_grownBy hg2 hp hb1.size)
  clear hs1 hb1 hg2 hs2 hloc
  have hn40 := hv.1.1; have hlen := hv.1.2.1
  have hmk := run_make_row' (P := Tryd.prog) 25 3 (.int .i64 0) 8 Tryd.underlying25 info_int rfl .i64 .i64 n (by omega) (by omega)
  go_wp2_with fail
  obtain ⟨W0, hW, k0, hrow, hb0, hlt0⟩ := boxedRow w2 24 3 (.int .i64 n) (.slice AL l.length cl) (.int .i64 0) n
  rw [hW]
  obtain ⟨c0, c1, _, _⟩ := k0.two
  have hrpA : ∀ wr, Below (w2.heap.size + 1) W0 wr → RP wr AL l := fun wr h => hrp.below (hb0.trans (h.mono (by omega)))
  have hbA : ∀ wr, Below (w2.heap.size + 1) W0 wr → Below w.heap.size w wr := fun wr h => hb2.trans ((hb0.trans (h.mono (by omega))).mono hb2.size)
  have Hrp := Lib.hid hrpA; have HbA := Lib.hid hbA
  have HV := Lib.hid hv
  have hrow0 : Row W0 (w2.heap.size + 1) n (fun _ => 0) := hrow
  have hgA : w2.heap.size < w2.heap.size + 1 := Nat.lt_succ_self _
  have hgn : nGn n l = n := by unfold nGn; rw [hv.valE]; rfl
  have hgl : nGl n l = l := by unfold nGl; rw [hv.valE]; rfl
  have Hgn := Lib.hid hgn; have Hgl := Lib.hid hgl
  clear hW hmk hv hrp k0 hrow hrpA hbA hb0 hb2 hlt0 hgn hgl
  generalize w2.heap.size + 1 = gA at *
  generalize w2.heap.size = G at *
  go_loopw [25] (fun t wr => ∃ (k : Nat) (f : Nat → Int), k ≤ n ∧ t = .int .i64 k ∧ Row wr gA n f ∧ (∀ x, x < k → f x = -1) ∧ Below gA W0 wr) (fun t _ => n - (intOf t).toNat)
  case atStart => exact ⟨0, _, Nat.zero_le _, rfl, hrow0, fun x hx => absurd hx (Nat.not_lt_zero x), Below.refl _ _⟩
  case round =>
    clear hrow0
    obtain ⟨k, f, hk, rfl, hrow, hf, hbl⟩ := hrel
    have Hf := Lib.hid hf
    clear hf
    by_cases hkn : k < n
    case pos =>
      have fz := hrow.frozen k
      have hc := hrow.cell hkn
      have hk0 : (0 : Int) ≤ (k : Int) := by omega
      have hk1 : (k : Int) < (n : Int) := by omega
      have hrow2 := hrow.set k (-1)
      have hbl2 := hbl.setCell (p := ⟨gA, k, none⟩) (Nat.le_refl _) (.int .i64 (-1))
      have Hrow2 := Lib.hid hrow2; have Hbl2 := Lib.hid hbl2
      clear hrow2 hbl2 c0 c1
      go_wp2_with fail
      go_roundw
      case rel => exact ⟨k + 1, _, by omega, by go_num, Hrow2.out, fun x hx => by
        unfold upd
        split
        · rfl
        · exact Hf.out x (by omega), Hbl2.out⟩
      case measure => simp [intOf]; omega
    case neg =>
    obtain rfl : n = k := by omega
    have c0r := (hbl.cell (p := ⟨G, 0, none⟩) hgA).trans c0
    have c1r := (hbl.cell (p := ⟨G, 1, none⟩) hgA).trans c1
    have hTr := hT.below (HbA.out wr hbl)
    have hcomp := gComponentsO_any AL n l cl wr (Hrp.out wr hbl) hlen hTr
    rw [Hgn.out, Hgl.out, Int.toNat_natCast] at hcomp
    have Hcomp := Lib.hid hcomp
    clear hcomp hTr
    go_wp2_with fail
    refine Hcomp.out.mono ?_
    rintro e w5 ⟨A5, c5, xs, rfl, hown, hlis, -, -, hb5⟩
    have hspec := comps_spec HV.out
    have hLl : (compsL n l).length = (compsF n l n (2 ^ n - 1)).length := by unfold compsL; rw [List.length_map]
    have hLk : ∀ k (hk : k < (compsF n l n (2 ^ n - 1)).length) (hk' : k < (compsL n l).length), (compsL n l)[k] = nodesB 64 ((compsF n l n (2 ^ n - 1))[k]).testBit := fun k hk hk' => by simp [compsL]
    have hca : CAt W0 gA n wr.heap.size (.slice A5 (compsL n l).length c5) xs (compsL n l) f w5 :=
      { row := rowIs_new hrow hb5, own := hown, lists := hlis, gB := hrow.lt, bel := hbl.trans (hb5.mono (Nat.le_of_lt hrow.lt)) }
    have hpos : Pos2 n (compsF n l n (2 ^ n - 1)) 0 f := fun x hx => .inl ⟨Hf.out x hx, fun j _ hj => absurd hj (Nat.not_lt_zero j)⟩
    have Hspec := Lib.hid hspec; have HLk := Lib.hid hLk; have HLl := Lib.hid hLl
    have hMn := hspec.len
    clear hspec hLk hLl hown hlis hrow hbl hb5 c0r c1r Hcomp Hf
    generalize compsF n l n (2 ^ n - 1) = M at *
    generalize compsL n l = L at *
    generalize wr.heap.size = B at *
    go_wp2_with fail
    go_loopw [35] (fun t wr => ∃ (k : Nat) (f : Nat → Int), k ≤ L.length ∧ t = .int .i64 k ∧ Pos2 n M k f ∧ CAt W0 gA n B (.slice A5 L.length c5) xs L f wr) (fun t _ => L.length - (intOf t).toNat)
    case atStart => exact ⟨0, f, Nat.zero_le _, rfl, hpos, hca⟩
    case round =>
      clear hpos hca
      obtain ⟨k, f2, hk, rfl, hpos, hca⟩ := hrel
      by_cases hkL : k < L.length
      case pos =>
        have hkM : k < M.length := by rw [← HLl.out]; exact hkL
        obtain ⟨b5, o5, A6, c6, rfl, hck, hxk⟩ := hca.comp hkL
        have hLk := HLk.out k hkM hkL
        have hri := fun (wr : World) (f : Nat → Int) (h : CAt W0 gA n B (.slice (some ⟨b5, o5, none⟩) L.length c5) xs L f wr) => h.ri hkL hxk
        have hks64 := nodesB_length 64 M[k].testBit
        have hN : ∀ x ∈ nodesB 64 M[k].testBit, ∃ a : Nat, x = a ∧ a < n := fun x hx => by
          obtain ⟨a, _, ha, rfl⟩ := mem_nodesB.1 hx
          exact ⟨a, rfl, has_lt ((Hspec.out).rng _ (List.getElem_mem hkM)) ha⟩
        have hat : ∀ q a f, a < n → (hq : q < (nodesB 64 M[k].testBit).length) → (nodesB 64 M[k].testBit)[q] = (a : Int) → Pos3 n M k q (nodesB 64 M[k].testBit) f → f a = -1 := fun q a f ha hq he h => h.at_ Hspec.out hkM ha hq he
        have hend : ∀ f, Pos3 n M k (nodesB 64 M[k].testBit).length (nodesB 64 M[k].testBit) f → Pos2 n M (k + 1) f := fun f h => h.ended hn40 hkM
        have hp3 : Pos3 n M k 0 (nodesB 64 M[k].testBit) f2 := Pos3.start hpos
        rw [hLk] at hck
        have hri2 : ∀ (wr : World) (f : Nat → Int), CAt W0 gA n B (.slice (some ⟨b5, o5, none⟩) L.length c5) xs L f wr → RI wr A6 (nodesB 64 M[k].testBit) := fun wr f h => by rw [← hLk]; exact hri wr f h
        have Hri := Lib.hid hri2; have HN := Lib.hid hN; have Hat := Lib.hid hat; have Hend := Lib.hid hend
        have hkL' : (k : Int) < (L.length : Int) := by omega
        clear hri hri2 hN hat hend hpos hLk hxk
        generalize nodesB 64 M[k].testBit = ks at *
        go_wp2_with fail
        clear hck
        go_loopw [42] (fun t wr => ∃ (q : Nat) (f : Nat → Int), q ≤ ks.length ∧ t = .int .i64 q ∧ Pos3 n M k q ks f ∧ CAt W0 gA n B (.slice (some ⟨b5, o5, none⟩) L.length c5) xs L f wr) (fun t _ => ks.length - (intOf t).toNat)
        case atStart => exact ⟨0, f2, Nat.zero_le _, rfl, hp3, hca⟩
        case round =>
          clear hp3 hca
          obtain ⟨q, f3, hq, rfl, hp3, hca⟩ := hrel
          by_cases hqk : q < ks.length
          case pos =>
            obtain ⟨b6, o6, rfl, hce⟩ := (Hri.out _ _ hca).at_ hqk
            obtain ⟨a, ha, han⟩ := HN.out _ (List.getElem_mem hqk)
            have hfa := Hat.out q a f3 han hqk ha hp3
            have hnx := Pos3.next hqk ha hfa hp3
            rw [ha] at hce
            have ca := hca.row.cell han
            rw [hfa] at ca
            have fa := hca.row.frozen a
            have c0r := (hca.bel.cell (p := ⟨G, 0, none⟩) hgA).trans c0
            have hset := hca.set a (k : Int)
            have ha0 : (0 : Int) ≤ (a : Int) := by omega
            have ha1 : (a : Int) < (n : Int) := by omega
            have Hnx := Lib.hid hnx; have Hset := Lib.hid hset; have Hca := Lib.hid hca
            clear hnx hset hca ha hfa hp3 c0 c1
            go_wp2_with fail
            go_roundw
            case rel => exact ⟨q + 1, _, by omega, by go_num, Hnx.out, Hset.out⟩
            case measure => simp [intOf]; omega
          case neg =>
            obtain rfl : q = ks.length := by omega
            have hp2 := Hend.out f3 hp3
            have Hp2 := Lib.hid hp2
            clear hp2 hp3
            go_wp2_with fail
            go_roundw
            case rel => exact ⟨k + 1, f3, by omega, by go_num, Hp2.out, hca⟩
            case measure => simp [intOf]; omega
      case neg =>
      have hkE : k = M.length := by rw [← HLl.out]; omega
      rw [hkE] at hpos
      have Hpos := Lib.hid hpos
      clear hpos hkE
      have hreach : ∀ (wr : World) (x : Nat), x < n → Below gA W0 wr → Calls Tryd.prog 24 #[.agg #[.int .i64 (n : Int), .slice AL l.length cl], .int .i64 (x : Nat)] wr (RetI (nodesB n (reachM n l x).testBit) wr) := fun wr x hx hb => by
        have h := gReach_any AL n l cl (x : Int) wr (Hrp.out wr hb) hlen (hT.below (HbA.out wr hb))
        rw [Hgn.out, Hgl.out, Int.toNat_natCast, reachL_in hx] at h
        exact h
      have hboth : ∀ x y, x < n → y < n → (rchB n l x y && rchB n l y x) = (f2 x == f2 y) := fun x y hx hy => place_both HV.out.1 Hspec.out Hpos.out hx hy
      have hnn : ∀ x, x < n → 0 ≤ f2 x := fun x hx => by
        obtain ⟨j, _, _, e⟩ := (Hpos.out).place Hspec.out hx
        omega
      have hle : ∀ x y, att l x y → f2 x ≤ f2 y := fun x y h => place_le HV.out.1 Hspec.out Hpos.out h
      have Hreach := Lib.hid hreach; have Hboth := Lib.hid hboth; have Hnn := Lib.hid hnn; have Hle := Lib.hid hle
      clear hreach hboth hnn hle Hpos hMn
      go_wp2_with fail
      go_loopw [69] (fun t wr => ∃ i : Nat, i ≤ n ∧ t = .int .i64 i ∧ CAt W0 gA n B (.slice A5 L.length c5) xs L f2 wr) (fun t _ => n - (intOf t).toNat)
      case atStart => exact ⟨0, Nat.zero_le _, rfl, hca⟩
      case round =>
        clear hca
        obtain ⟨i, hi, rfl, hca⟩ := hrel
        by_cases hin : i < n
        case pos =>
          have ci := hca.row.cell hin
          have hni := Hnn.out i hin
          have hi0 : (0 : Int) ≤ (i : Int) := by omega
          have hi1 : (i : Int) < (n : Int) := by omega
          go_wp2_with fail
          clear ci
          go_loopw [79] (fun t wr => ∃ q : Nat, q ≤ n ∧ t = .int .i64 q ∧ CAt W0 gA n B (.slice A5 L.length c5) xs L f2 wr) (fun t _ => n - (intOf t).toNat)
          case atStart => exact ⟨0, Nat.zero_le _, rfl, hca⟩
          case round =>
            clear hca
            obtain ⟨q, hq, rfl, hca⟩ := hrel
            by_cases hqn : q < n
            case pos =>
              have hq0 : (0 : Int) ≤ (q : Int) := by omega
              have hq1 : (q : Int) < (n : Int) := by omega
              have c0r := (hca.bel.cell (p := ⟨G, 0, none⟩) hgA).trans c0
              have c1r := (hca.bel.cell (p := ⟨G, 1, none⟩) hgA).trans c1
              have hr1 := Hreach.out wr i hin hca.bel
              have Hr1 := Lib.hid hr1
              have hbo := Hboth.out i q hin hqn
              have Hca := Lib.hid hca
              clear hr1 hca
              go_wp2_with fail
              refine Hr1.out.mono ?_
              rintro e w7 ⟨A7, c7, rfl, -, hri7, -, hb7⟩
              have hca7 := (Hca.out).below hb7
              have hl7 : (nodesB n (reachM n l i).testBit).length ≤ 4611686018427387904 := by have := nodesB_length n (reachM n l i).testBit; omega
              have hin7 := in_any A7 (nodesB n (reachM n l i).testBit) c7 (q : Int) w7 hl7 hri7
              rw [inB_nodes0 hqn] at hin7
              have Hin7 := Lib.hid hin7; have Hca7 := Lib.hid hca7
              have d0r := (hca7.bel.cell (p := ⟨G, 0, none⟩) hgA).trans c0
              have d1r := (hca7.bel.cell (p := ⟨G, 1, none⟩) hgA).trans c1
              have hb1 : (reachM n l i).testBit q = rchB n l i q := rfl
              rw [hb1] at Hin7
              clear hin7 hca7 hri7 hb7 hl7 hb1 c0r c1r
              generalize nodesB n (reachM n l i).testBit = r1 at *
              generalize rchB n l i q = b1 at *
              go_wp2_with fail
              refine Hin7.out.mono ?_
              rintro e w8 ⟨rfl, rfl⟩
              cases b1
              case false =>
                have hbo2 : (f2 i == f2 q) = false := by rw [← hbo]; rfl
                have ci := (Hca7.out).row.cell hin
                have cq := (Hca7.out).row.cell hqn
                clear hbo d0r d1r
                go_wp2_with fail
                go_quiet (fail)
                clear hbo2 ci cq
                have hcf := (Hca7.out).below (below_drewN (Below.refl _ _) nq)
                go_wp2_with fail
                go_roundw
                case rel => exact ⟨q + 1, by omega, by go_num, hcf⟩
                case measure => simp [intOf]; omega
              case true =>
                have hr2 := Hreach.out w7 q hqn (Hca7.out).bel
                have Hr2 := Lib.hid hr2
                clear hr2
                go_wp2_with fail
                refine Hr2.out.mono ?_
                rintro e w9 ⟨A9, c9, rfl, -, hri9, -, hb9⟩
                have hca9 := (Hca7.out).below hb9
                have hl9 : (nodesB n (reachM n l q).testBit).length ≤ 4611686018427387904 := by have := nodesB_length n (reachM n l q).testBit; omega
                have hin9 := in_any A9 (nodesB n (reachM n l q).testBit) c9 (i : Int) w9 hl9 hri9
                rw [inB_nodes0 hin] at hin9
                have Hin9 := Lib.hid hin9; have Hca9 := Lib.hid hca9
                have hb2 : (reachM n l q).testBit i = rchB n l q i := rfl
                rw [hb2] at Hin9
                clear hin9 hri9 hb9 hl9 hb2 d0r d1r
                generalize nodesB n (reachM n l q).testBit = r2 at *
                generalize rchB n l q i = b2 at *
                have hbo2 : (f2 i == f2 q) = b2 := by rw [← hbo]; rfl
                have ci := hca9.row.cell hin
                have cq := hca9.row.cell hqn
                clear hbo hca9
                have Hbo2 := Lib.hid hbo2
                clear hbo2
                go_wp2_with fail
                refine Hin9.out.mono ?_
                rintro e w10 ⟨rfl, rfl⟩
                cases b2
                all_goals
                  have hbo2 := Hbo2.out
                  go_wp2_with fail
                  go_quiet (fail)
                  clear hbo2 ci cq
                  have hcf := (Hca9.out).below (below_drewN (Below.refl _ _) nq)
                  go_wp2_with fail
                  go_roundw
                  case rel => exact ⟨q + 1, by omega, by go_num, hcf⟩
                  case measure => simp [intOf]; omega
            case neg =>
              go_wp2_with fail
              go_roundw
              case rel => exact ⟨i + 1, by omega, by go_num, hca⟩
              case measure => simp [intOf]; omega
        case neg =>
        have c1r := (hca.bel.cell (p := ⟨G, 1, none⟩) hgA).trans c1
        go_wp2_with fail
        clear c1r
        go_loopw [110] (fun t wr => ∃ q : Nat, q ≤ l.length ∧ t = .int .i64 q ∧ CAt W0 gA n B (.slice A5 L.length c5) xs L f2 wr) (fun t _ => l.length - (intOf t).toNat)
        case atStart => exact ⟨0, Nat.zero_le _, rfl, hca⟩
        case round =>
          clear hca
          obtain ⟨q, hq, rfl, hca⟩ := hrel
          by_cases hql : q < l.length
          case pos =>
            obtain ⟨b6, o6, rfl, hx6, hy6⟩ := (Hrp.out wr hca.bel).at_ hql
            have hrg := HV.out.1.2.2 _ (List.getElem_mem hql)
            have hat : att l l[q].1.toNat l[q].2.toNat := (by have h := List.getElem_mem hql; unfold att; rw [Int.toNat_of_nonneg hrg.1, Int.toNat_of_nonneg hrg.2.2.1]; exact h)
            have hle := Hle.out _ _ hat
            obtain ⟨a, ha⟩ := Int.eq_ofNat_of_zero_le hrg.1
            obtain ⟨b, hb⟩ := Int.eq_ofNat_of_zero_le hrg.2.2.1
            have han : a < n := by omega
            have hbn : b < n := by omega
            rw [ha, hb, Int.toNat_natCast, Int.toNat_natCast] at hle
            rw [ha] at hx6
            rw [hb] at hy6
            have hql' : (q : Int) < (l.length : Int) := by omega
            clear hat hrg ha hb
            go_upto_region 36 with fail
            have k6 := Blk.new wr 43 #[.int .i64 (a : Int), .int .i64 (b : Int)]
            have hb6 := newB wr (.cells #[.int .i64 (a : Int), .int .i64 (b : Int)] 43)
            have hca6 := hca.below hb6
            clear hx6 hy6 hb6 hca
            generalize wr.alloc (.cells #[.int .i64 (a : Int), .int .i64 (b : Int)] 43) = W6 at *
            obtain ⟨m0, m1, _, _⟩ := k6.two
            have ca := hca6.row.cell han
            have cb := hca6.row.cell hbn
            have ha0 : (0 : Int) ≤ (a : Int) := by omega
            have ha1 : (a : Int) < (n : Int) := by omega
            have hb0 : (0 : Int) ≤ (b : Int) := by omega
            have hb1 : (b : Int) < (n : Int) := by omega
            have hd : decide (f2 b < f2 a) = false := by simp; omega
            go_quiet (fail)
            have hcf := hca6.below (below_drewN (Below.refl _ _) nq)
            clear ca cb m0 m1 k6 hca6
            go_wp2_with fail
            go_roundw
            case rel => exact ⟨q + 1, by omega, by go_num, hcf⟩
            case measure => simp [intOf]; omega
          case neg =>
            have haw := awake10_any wr (hT.below (HbA.out wr hca.bel))
            have Haw := Lib.hid haw
            clear haw
            go_wp2_with fail
            refine Haw.out.mono ?_
            rintro e w11 ⟨rfl, hb11⟩
            go_wp2_with fail
            go_ret
            exact ⟨rfl, endB (HbA.out wr hca.bel) hb11⟩
end Go.Proofs.YtkflanjlnbdkmaaDoor
