/- graph.Components. -/
import Derived.Test.YtkflanjlnbdkmaaDoorCmx
namespace Go.Proofs.YtkflanjlnbdkmaaDoor
open Go.ChangeShapes Go.WideShapes Go.ChangeAt Go.RowKit Go.Sort

/-- the search at its start -/
theorem t_start (n : Nat) (E : Nat → Nat → Prop) : TInv n E [] ⟨fun _ => 0, fun _ => 0, 0, [], 0, []⟩ where
  ordS := .nil
  visS := by simp
  on := fun x => by simp [has]
  onlt := Nat.two_pow_pos n
  rng := fun x h => absurd rfl h
  cnt := fun _ => Nat.le_refl _
  num := by simp
  len := by simp
  fnd := fun x h => absurd rfl h
  fvis := by simp
  fscc := by simp
  fdis := .nil
  fcl := by simp
  gS := by simp
  blk := fun x h => absurd rfl h
  acc := by simp
  fwd := by simp
theorem compsF_zero (n : Nat) (l : List (Int × Int)) : ∀ f, compsF n l f 0 = []
  | 0 => rfl
  | f + 1 => by
    have h : (List.range n).find? (freeI n l 0) = none := by
      rw [List.find?_eq_none]
      intro x _
      simp [freeI]
    unfold compsF; rw [h]

theorem compsF_len (n : Nat) (l : List (Int × Int)) : ∀ f rest, (compsF n l f rest).length ≤ f
  | 0, _ => Nat.le_refl _
  | f + 1, rest => by
    unfold compsF
    split
    · exact Nat.zero_le _
    · simp only [List.length_cons]
      have := compsF_len n l f
      exact Nat.succ_le_succ (this _)
def lenV : Value → Nat
  | .slice _ n _ => n
  | _ => 0
theorem OwnS.farU {w : World} {b p : Nat} {v : Value} {xs cs : List Value} (h : OwnS w b v xs) (hp : Blk w p 70 cs.toArray) : v.ownBlock ≠ some p := fun e => by
  obtain ⟨_, h2⟩ := h
  rcases h2 with ⟨rfl, _⟩ | ⟨g, cap, cur, rfl, _, hg, _⟩
  · cases e
  · simp only [Value.ownBlock, Option.some.injEq] at e
    subst e
    rw [hp] at hg
    simp only [Option.some.injEq, Obj.cells.injEq] at hg
    exact absurd hg.2.1 (by decide)
theorem OwnI.farU {w : World} {b p : Nat} {v : Value} {l : List Int} {cs : List Value} (h : OwnI w b v l) (hp : Blk w p 70 cs.toArray) : v.ownBlock ≠ some p := fun e => by
  obtain ⟨_, h2⟩ := h
  rcases h2 with ⟨rfl, _⟩ | ⟨g, cap, cur, rfl, _, hg, _⟩
  · cases e
  · simp only [Value.ownBlock, Option.some.injEq] at e
    subst e
    rw [hp] at hg
    simp only [Option.some.injEq, Obj.cells.injEq] at hg
    exact absurd hg.2.1 (by decide)
theorem OwnS.low {w : World} {B : Nat} {v : Value} {xs : List Value} (h : OwnS w B v xs) {a : Addr} (ha : a.block < B) (u : Value) : OwnS (w.setCell a u) B v xs :=
  ownsRow_setCell_below h ha u
/-- one block changes, which is none of those that hold the lists -/
theorem OwnS.but {w w' : World} {b p : Nat} {v : Value} {xs : List Value} (h : OwnS w b v xs) (hg : w.grownBy w' (some p)) (hp : v.ownBlock ≠ some p) : OwnS w' b v xs :=
  World.ownsRow.kept h hg (.inr hp)
theorem OwnL.but {w w' : World} {b p : Nat} {xs : List Value} {ls : List (List Int)} (h : OwnL w b xs ls) (hg : w.grownBy w' (some p)) (hp : ∀ v l, OwnI w b v l → v.ownBlock ≠ some p) : OwnL w' b xs ls :=
  ⟨h.1, fun k hk => by obtain ⟨A, c, h1, h2⟩ := h.2 k hk; exact ⟨A, c, h1, World.ownsRow.kept h2 hg (.inr (hp _ _ h2))⟩⟩
theorem setCell_grown (w : World) (q : Addr) (u : Value) : w.grownBy (w.setCell q u) (some q.block) :=
  ⟨rfl, rfl, rfl, by simp [World.setCell], fun k _ hk => Below.heap_setCell w q u k (fun e => hk (by rw [e]))⟩
theorem OwnS.forms3 {w : World} {b b' : Nat} {v : Value} {xs : List Value} {ls : List (List Int)} (h : OwnS w b v xs) (hl : OwnL w b' xs ls) : ∃ A c, v = .slice A ls.length c ∧ RSo w A ls ∧ (A = none → ls = [] ∧ c = 0) := by
  obtain ⟨A, c, e, hr⟩ := OwnS.forms h hl
  refine ⟨A, c, e, hr, fun hA => ?_⟩
  obtain ⟨_, h2⟩ := h
  rcases h2 with ⟨e2, hn⟩ | ⟨g, cap, cur, e2, _⟩
  · rw [e] at e2
    injection e2 with _ e3 e4
    exact ⟨List.eq_nil_of_length_eq_zero e3, e4⟩
  · rw [e, hA] at e2; injection e2 with e3; cases e3

/-- the sets that were found, behind the slice u -/
def FS (p gI : Nat) (w : World) (u : Value) (F : List Nat) : Prop := (u = .slice none 0 0 ∧ F = []) ∨ ∃ g c, u = .slice (some ⟨g, 0, none⟩) F.length c ∧ p < g ∧ g < gI ∧ F.length ≤ c ∧ c ≤ maxLen ∧ HU w g F
theorem FS.keep {p gI : Nat} {w w' : World} {u : Value} {F : List Nat} (h : FS p gI w u F) (hk : ∀ g, g < gI → w'.heap[g]? = w.heap[g]?) : FS p gI w' u F := by
  rcases h with h | ⟨g, c, e, h1, h2, h3, h4, h5⟩
  · exact .inl h
  · exact .inr ⟨g, c, e, h1, h2, h3, h4, h5.block (hk g h2)⟩
/-- only the found sets change -/
def FSo (w : World) (u : Value) (w' : World) : Prop := w.grownBy w' u.ownBlock
set_option maxRecDepth 100000 in
theorem sortFS_any {p gI : Nat} {u : Value} {F : List Nat} {w : World} (h : FS p gI w u F) (hF : ∀ f ∈ F, f ≠ 0 ∧ f < 18446744073709551616) (hl : F.length ≤ 1000) (hgI : gI ≤ w.heap.size) (hT : Tab w) (hp : 0 ≤ p) :
    Calls Tryd.prog 50 #[u, .func (.func 51) #[] #[]] w (fun e w' => e = .returned (.tuple #[]) ∧ ∃ F' : List Nat, F'.Perm F ∧ (F'.Pairwise fun x y => Lib.ctz 64 x ≤ Lib.ctz 64 y) ∧ FS p gI w' u F' ∧ FSo w u w') := by
  rcases h with ⟨rfl, rfl⟩ | ⟨g, c, rfl, h1, h2, h3, h4, h5⟩
  · refine (sortU_none none 0 w).mono ?_
    rintro e w' ⟨rfl, rfl⟩
    exact ⟨rfl, [], List.Perm.refl _, .nil, .inl ⟨rfl, rfl⟩, ⟨rfl, rfl, rfl, Nat.le_refl _, fun _ _ _ => rfl⟩⟩
  · refine (sortU_any (c := c) h5 hF hl (by omega) hT (by omega)).mono ?_
    rintro e w' ⟨rfl, F', hp, hs, hH, hg⟩
    have hlen := hp.length_eq
    exact ⟨rfl, F', hp, hs, .inr ⟨g, c, by rw [hlen], h1, h2, by omega, h4, hH⟩, hg⟩

/-- the loop that takes one component after another -/
structure CLp (n : Nat) (l : List (Int × Int)) (w : World) (B p gI p5 : Nat) (c0 c1 c2 c3 c4 c5 : Value) (F : List Nat) (rest p7 f : Nat) (v6 u : Value) (xs : List Value) (ls : List (List Int)) (wr : World) : Prop where
  inv : CInv n l F rest
  hd : Blk wr p 72 #[c0, c1, c2, c3, c4, c5, u]
  fs : FS p gI wr u F
  cap : Cap2 wr gI p5 p7 n (mkM (revL l)) rest
  b7 : Blk wr p7 70 #[.int .u64 (rest : Nat)]
  own : OwnS wr B v6 xs
  lists : OwnL wr B xs ls
  fuel : F.length ≤ f
  flen : F.length ≤ n
  sum : ls ++ (compsF n l f rest).map (fun m => nodesB 64 m.testBit) = compsL n l
  o1 : w.heap.size ≤ p
  o2 : p < gI
  o3 : gI < p5
  o4 : p5 < p7
  o5 : p5 < B
  o6 : B ≤ wr.heap.size
  bel : Below w.heap.size w wr
section
variable {n : Nat} {l : List (Int × Int)} {w : World} {B p gI p5 : Nat} {c0 c1 c2 c3 c4 c5 : Value} {F : List Nat} {rest p7 f : Nat} {v6 u : Value} {xs : List Value} {ls : List (List Int)} {wr : World}
theorem CLp.below (h : CLp n l w B p gI p5 c0 c1 c2 c3 c4 c5 F rest p7 f v6 u xs ls wr) {w' : World} (hb : Below wr.heap.size wr w') : CLp n l w B p gI p5 c0 c1 c2 c3 c4 c5 F rest p7 f v6 u xs ls w' :=
  { h with
    hd := h.hd.below hb h.hd.lt
    fs := h.fs.keep fun g hg => hb.block g (by have h1 : p5 < wr.heap.size := lt_of_cell h.cap.c1; have := h.o3; omega)
    cap := h.cap.below hb
    b7 := h.b7.below hb h.b7.lt
    own := World.ownsRow.kept h.own (row := none) ⟨hb.os, hb.tape, hb.output, hb.size, fun k hk _ => hb.block k hk⟩ (by cases v6.ownBlock <;> simp)
    lists := h.lists.below hb
    o6 := Nat.le_trans h.o6 hb.size
    bel := endB h.bel hb }
/-- the next set is put behind the others -/
theorem CLp.push (h : CLp n l w B p gI p5 c0 c1 c2 c3 c4 c5 F rest p7 f v6 u xs ls wr) {k : Nat} (hk : k < F.length) {g c : Nat} (hpg : p < g) (hgI : g < gI) (hc : F.length ≤ c) (hm : c ≤ maxLen) (hv : Vld n l)
    (h0 : rest ≠ 0) (hok : okC l rest F[k] = true) (hno : ∀ j (hj : j < k), okC l rest F[j] = false)
    {A : Option Addr} {ca : Nat} (hr : OwnI wr B (.slice A (nodesB 64 F[k].testBit).length ca) (nodesB 64 F[k].testBit)) {v' : Value} {X : World} (hs : OwnS X B v' (xs ++ [.slice A (nodesB 64 F[k].testBit).length ca])) (hb : Below B wr X) (hg : wr.grownBy X v6.ownBlock)
    {X2 : World} (hH : HU X2 g (F.eraseIdx k)) (hg2 : (X.setCell ⟨p7, 0, none⟩ (.int .u64 (minusN rest F[k] : Nat))).drew.grownBy X2 (some g)) :
    ∃ f', CLp n l w B p gI p5 c0 c1 c2 c3 c4 c5 (F.eraseIdx k) (minusN rest F[k]) X2.heap.size f' v' (.slice (some ⟨g, 0, none⟩) (F.length - 1) c) (xs ++ [.slice A (nodesB 64 F[k].testBit).length ca]) (ls ++ [nodesB 64 F[k].testBit])
      ((X2.setCell ⟨p, 6, none⟩ (.slice (some ⟨g, 0, none⟩) (F.length - 1) c)).alloc (.cells #[.int .u64 (minusN rest F[k] : Nat)] 70)) := by
  have hpw : p < wr.heap.size := h.hd.lt
  have h7w : p7 < wr.heap.size := h.b7.lt
  have o1 := h.o1; have o2 := h.o2; have o3 := h.o3; have o4 := h.o4; have o5 := h.o5; have o6 := h.o6
  have hXs := hg.size
  have h2s := hg2.size
  have hsz : (X.setCell ⟨p7, 0, none⟩ (.int .u64 (minusN rest F[k] : Nat))).drew.heap.size = X.heap.size := by simp [World.drew, World.setCell]
  rw [hsz] at h2s
  have hv6 : ∀ q, v6.ownBlock = some q → B ≤ q := fun q hq => (World.ownsRow.lt h.own q hq).1
  have hXk : ∀ q, q < B → X.heap[q]? = wr.heap[q]? := fun q hq => hb.block q hq
  have h2k : ∀ q, q < X.heap.size → q ≠ p7 → q ≠ g → X2.heap[q]? = X.heap[q]? := fun q hq h7 hgq =>
    (hg2.block q (by rw [hsz]; exact hq) (fun e => hgq (by injection e))).trans (Below.heap_setCell X ⟨p7, 0, none⟩ _ q h7)
  have h3k : ∀ q, q < X2.heap.size → q ≠ p → ((X2.setCell ⟨p, 6, none⟩ (.slice (some ⟨g, 0, none⟩) (F.length - 1) c)).alloc (.cells #[.int .u64 (minusN rest F[k] : Nat)] 70)).heap[q]? = X2.heap[q]? := fun q hq hqp =>
    (Below.heap_alloc _ _ q (by simpa [World.setCell] using hq)).trans (Below.heap_setCell X2 ⟨p, 6, none⟩ _ q hqp)
  have b7X : Blk X p7 70 #[.int .u64 (rest : Nat)] := h.b7.grown hg (fun e => h.own.farU (cs := [.int .u64 (rest : Nat)]) h.b7 e.symm)
  have hdX : Blk X p 72 #[c0, c1, c2, c3, c4, c5, u] := (hXk p (by omega)).trans h.hd
  have hd2 : Blk X2 p 72 #[c0, c1, c2, c3, c4, c5, u] := (h2k p (by omega) (by omega) (by omega)).trans hdX
  have hlt2 : (X2.setCell ⟨p, 6, none⟩ (.slice (some ⟨g, 0, none⟩) (F.length - 1) c)).heap.size = X2.heap.size := by simp [World.setCell]
  have hbl : Below w.heap.size w ((X2.setCell ⟨p, 6, none⟩ (.slice (some ⟨g, 0, none⟩) (F.length - 1) c)).alloc (.cells #[.int .u64 (minusN rest F[k] : Nat)] 70)) := by
    have hX : Below w.heap.size w X := h.bel.trans (hb.mono (by omega))
    have hX1 : Below w.heap.size w (X.setCell ⟨p7, 0, none⟩ (.int .u64 (minusN rest F[k] : Nat))).drew := (hX.setCell (p := ⟨p7, 0, none⟩) (by show w.heap.size ≤ p7; omega) _).drew
    have hX2 : Below w.heap.size w X2 := hX1.grown hg2 (by rw [hsz]; omega) (fun q hq => by injection hq with hq; omega)
    exact ((hX2.setCell (p := ⟨p, 6, none⟩) o1 _).alloc (by rw [hlt2]; exact hX2.size) _)
  have hown2 : OwnS X2 B v' (xs ++ [.slice A (nodesB 64 F[k].testBit).length ca]) := by
    have h1 := hs.but (setCell_grown X ⟨p7, 0, none⟩ (.int .u64 (minusN rest F[k] : Nat))) (hs.farU (cs := [.int .u64 (rest : Nat)]) b7X)
    exact OwnS.but (World.ownsRow.drew h1) hg2 (fun e => by have := (World.ownsRow.lt hs g e).1; omega)
  have hlis2 : OwnL X2 B (xs ++ [.slice A (nodesB 64 F[k].testBit).length ca]) (ls ++ [nodesB 64 F[k].testBit]) := by
    have h1 : OwnL X B (xs ++ [.slice A (nodesB 64 F[k].testBit).length ca]) (ls ++ [nodesB 64 F[k].testBit]) := OwnL.append (h.lists.snoc hr) h.own hg
    have h2 := h1.but (setCell_grown X ⟨p7, 0, none⟩ (.int .u64 (minusN rest F[k] : Nat))) (fun v l h => h.farU (cs := [.int .u64 (rest : Nat)]) b7X)
    have h3 : OwnL (X.setCell ⟨p7, 0, none⟩ (.int .u64 (minusN rest F[k] : Nat))).drew B (xs ++ [.slice A (nodesB 64 F[k].testBit).length ca]) (ls ++ [nodesB 64 F[k].testBit]) := h2.below (Below.refl _ _).drew
    exact h3.but hg2 (fun v l h e => by have := OwnI.block h g e; omega)
  obtain ⟨f', rfl⟩ : ∃ f', f = f' + 1 := ⟨f - 1, by have := h.fuel; omega⟩
  obtain ⟨k', hk', hok', hno', hco, hinv⟩ := h.inv.next hv h0 f'
  have hkk : k' = k := by
    rcases Nat.lt_trichotomy k' k with hlt | he | hlt
    · have := hno k' hlt; rw [hok'] at this; cases this
    · exact he
    · have := hno' k hlt; rw [hok] at this; cases this
  subst hkk
  refine ⟨f', {
    inv := hinv
    hd := (hd2.set_ 6 _).alloc _
    fs := .inr ⟨g, c, by rw [List.length_eraseIdx, if_pos hk], hpg, hgI, by rw [List.length_eraseIdx, if_pos hk]; omega, hm, hH.block (h3k g (by have := h.hd.lt; omega) (by omega))⟩
    cap := ⟨?_, ?_, ?_⟩
    b7 := by have := Blk.new (X2.setCell ⟨p, 6, none⟩ (.slice (some ⟨g, 0, none⟩) (F.length - 1) c)) 70 #[.int .u64 (minusN rest F[k'] : Nat)]; rw [hlt2] at this; exact this
    own := World.ownsRow.alloc (OwnS.low hown2 (a := ⟨p, 6, none⟩) (by show p < B; omega) _) _
    lists := (hlis2.but (setCell_grown X2 ⟨p, 6, none⟩ _) (fun v l h e => by have := OwnI.block h p e; omega)).below (newB _ _)
    fuel := by rw [List.length_eraseIdx, if_pos hk]; have := h.fuel; omega
    flen := by rw [List.length_eraseIdx, if_pos hk]; have := h.flen; omega
    sum := by have := h.sum; rw [hco] at this; rw [← this]; simp
    o1 := o1, o2 := o2, o3 := o3, o4 := by omega, o5 := o5, o6 := by simp [World.setCell]; omega
    bel := hbl }⟩
  · have e : ((X2.setCell ⟨p, 6, none⟩ (.slice (some ⟨g, 0, none⟩) (F.length - 1) c)).alloc (.cells #[.int .u64 (minusN rest F[k'] : Nat)] 70)).heap[p5]? = wr.heap[p5]? := (h3k p5 (by omega) (by omega)).trans ((h2k p5 (by omega) (by omega) (by omega)).trans (hXk p5 o5))
    exact (World.cell?_of_block (w := wr) (a := ⟨p5, 0, none⟩) e).trans h.cap.c1
  · have := Blk.new (X2.setCell ⟨p, 6, none⟩ (.slice (some ⟨g, 0, none⟩) (F.length - 1) c)) 70 #[.int .u64 (minusN rest F[k'] : Nat)]
    rw [hlt2] at this
    rw [this.cell]; rfl
  · exact rowIs_heap h.cap.row ((h3k gI (by omega) (by omega)).trans ((h2k gI (by omega) (by omega) (by omega)).trans (hXk gI (by omega))))
end

theorem TxtT.weakJ {P : Program} {ops : Array Oper} {Q : Exit → Act → World → Prop} {S : World → Prop} {es : List Nat} {J2 : World → Prop} : ∀ {n : Nat} {L : List Nat} {J : World → Prop} {a : Act}, (∀ w, J w → J2 w) → TxtT P ops Q S es n L J2 a → TxtT P ops Q S es n L J a
  | 0, L, J, a, hJ, h => ⟨h.1, fun w hS hw => h.2 w hS (hJ w hw)⟩
  | n + 1, L, J, a, hJ, h => by
    rcases h with ⟨i, o, h1, h2, h3, h4, v, h5, h6⟩ | ⟨h1, h2, h3⟩
    · exact .inl ⟨i, o, h1, h2, h3, h4, v, h5, TxtT.weakJ hJ h6⟩
    · refine .inr ⟨h1, h2, fun i hi hr => ?_⟩
      obtain ⟨o, ho, hw, Sh, J', h4, h5⟩ := h3 i hi hr
      exact ⟨o, ho, hw, Sh, J', fun w hS hw => h4 w hS (hJ w hw), h5⟩
/-- which of the three rows are there -/
structure JX (B n : Nat) (m : Nat → Nat) (a b c : Option Nat) (w : World) : Prop where
  fa : ∀ g, a = some g → B ≤ g ∧ w.rowIs g 70 n (fun i => .int .u64 (m i : Nat))
  fb : ∀ g, b = some g → B ≤ g ∧ Row w g n (fun _ => 0)
  fc : ∀ g, c = some g → B ≤ g ∧ Row w g n (fun _ => 0)
  ab : ∀ x y, a = some x → b = some y → x ≠ y
  ac : ∀ x y, a = some x → c = some y → x ≠ y
  bc : ∀ x y, b = some x → c = some y → x ≠ y
section
variable {B n : Nat} {m : Nat → Nat} {a b c : Option Nat} {w : World}
theorem JX.start : JX B n m none none none w := ⟨fun _ h => (by cases h), fun _ h => (by cases h), fun _ h => (by cases h), fun _ _ h => (by cases h), fun _ _ h => (by cases h), fun _ _ h => (by cases h)⟩
theorem JX.M (h : JX B n m none b c w) (hB : B ≤ w.heap.size) {w' : World} (hb : Below w.heap.size w w') {g : Nat} (hg : w.heap.size ≤ g) (hr : w'.rowIs g 70 n (fun i => .int .u64 (m i : Nat))) : JX B n m (some g) b c w' :=
  ⟨fun q e => by injection e with e; subst e; exact ⟨Nat.le_trans hB hg, hr⟩, fun q e => ⟨(h.fb q e).1, rowIs_new (h.fb q e).2 hb⟩, fun q e => ⟨(h.fc q e).1, rowIs_new (h.fc q e).2 hb⟩,
   fun x y e1 e2 => by injection e1 with e1; have := (h.fb y e2).2.lt; omega, fun x y e1 e2 => by injection e1 with e1; have := (h.fc y e2).2.lt; omega, h.bc⟩
theorem JX.O (h : JX B n m a none c w) (hB : B ≤ w.heap.size) : JX B n m a (some w.heap.size) c (w.alloc (.cells (madeCells #[.int .i64 0] n) 3)) :=
  ⟨fun q e => ⟨(h.fa q e).1, World.rowIs.alloc (h.fa q e).2 _⟩, fun q e => by injection e with e; subst e; exact ⟨hB, World.rowIs_made _ _ _ _⟩, fun q e => ⟨(h.fc q e).1, World.rowIs.alloc (h.fc q e).2 _⟩,
   fun x y e1 e2 => by injection e2 with e2; have := World.rowIs.lt (h.fa x e1).2; omega, h.ac, fun x y e1 e2 => by injection e1 with e1; have := (h.fc y e2).2.lt; omega⟩
theorem JX.L (h : JX B n m a b none w) (hB : B ≤ w.heap.size) : JX B n m a b (some w.heap.size) (w.alloc (.cells (madeCells #[.int .i64 0] n) 3)) :=
  ⟨fun q e => ⟨(h.fa q e).1, World.rowIs.alloc (h.fa q e).2 _⟩, fun q e => ⟨(h.fb q e).1, World.rowIs.alloc (h.fb q e).2 _⟩, fun q e => by injection e with e; subst e; exact ⟨hB, World.rowIs_made _ _ _ _⟩,
   h.ab, fun x y e1 e2 => by injection e2 with e2; have := World.rowIs.lt (h.fa x e1).2; omega, fun x y e1 e2 => by injection e2 with e2; have := (h.fb x e1).2.lt; omega⟩
/-- the search's memory at its start -/
def s00 : TS := ⟨fun _ => 0, fun _ => 0, 0, [], 0, []⟩
def JF (B n : Nat) (m : Nat → Nat) (p gN gO gL : Nat) (w : World) : Prop := B ≤ p ∧ B ≤ gN ∧ B ≤ gO ∧ B ≤ gL ∧ ∃ B', B ≤ B' ∧ TjSt B' n m p gN gO gL s00 (.slice none 0 0) (.slice none 0 0) w
theorem JX.F {gN gO gL : Nat} (h : JX B n m (some gN) (some gO) (some gL) w) (hB : B ≤ w.heap.size) :
    JF B n m w.heap.size gN gO gL (w.alloc (.cells #[.slice (some ⟨gN, 0, none⟩) n n, .slice (some ⟨gO, 0, none⟩) n n, .slice (some ⟨gL, 0, none⟩) n n, .int .i64 0, .slice none 0 0, .int .u64 0, .slice none 0 0] 72)) := by
  obtain ⟨a1, a2⟩ := h.fa gN rfl
  obtain ⟨b1, b2⟩ := h.fb gO rfl
  obtain ⟨c1, c2⟩ := h.fc gL rfl
  have la := World.rowIs.lt a2; have lb := b2.lt; have lc := c2.lt
  refine ⟨hB, a1, b1, c1, w.heap.size + 1, by omega, ?_⟩
  exact {
    hd := Blk.new w _ _
    nx := World.rowIs.alloc a2 _
    o := Row.congr (World.rowIs.alloc b2 _) (fun _ _ => rfl)
    lo := Row.congr (World.rowIs.alloc c2 _) (fun _ _ => rfl)
    st := OwnI.nil _ _, fd := OwnU.nil _ _, far := Far.nil _
    hp := by omega, hN := by omega, hO := by omega, hL := by omega, hB := by simp
    pN := by omega, pO := by omega, pL := by omega, NO := h.ab _ _ rfl rfl, NL := h.ac _ _ rfl rfl, OL := h.bc _ _ rfl rfl }
end

/-- the search goes through the nodes: those below i have been visited -/
structure CSr (n : Nat) (l : List (Int × Int)) (W2 : World) (B p gN gO gL i : Nat) (s : TS) (v u : Value) (wr : World) : Prop where
  st : TjSt B n (mkM l) p gN gO gL s v u wr
  inv : TInv n (att l) [] s
  vis : ∀ x, x < i → s.o x ≠ 0
  bel : Below W2.heap.size W2 wr
theorem CSr.next {n : Nat} {l : List (Int × Int)} {W2 : World} {B p gN gO gL i : Nat} {s s' : TS} {v u v' u' : Value} {wr w' : World} (h : CSr n l W2 B p gN gO gL i s v u wr) (hst : TjSt B n (mkM l) p gN gO gL s' v' u' w') (hp : TPost n (att l) [] s i s') (hm : Mut (TjHot p gO gL v u) wr w') (h1 : W2.heap.size ≤ p) (h2 : W2.heap.size ≤ gO) (h3 : W2.heap.size ≤ gL) (h4 : W2.heap.size ≤ B) : CSr n l W2 B p gN gO gL (i + 1) s' v' u' w' :=
  { st := hst, inv := hp.inv
    vis := fun x hx => by
      by_cases e : x = i
      · rw [e]; exact hp.vis
      · have := h.vis x (by omega)
        rw [hp.keepO x this]; exact this
    bel := h.bel.trans (hm.below h.bel.size fun k hk hh => by
      rcases hh with e | e | e | e | e
      · omega
      · omega
      · omega
      · have := (OwnI.blocks h.st.st k e).1; omega
      · have := (OwnU.block h.st.fd k e).1; omega) }
theorem FS.of_own {p gI B : Nat} {w w' : World} {u : Value} {F : List Nat} (h : OwnU w B u F) (hp : p < B) (hb : Below w.heap.size w w') (hg : w.heap.size ≤ gI) : FS p gI w' u F := by
  rcases OwnU.shape h with ⟨e, h0⟩ | ⟨g, c, rfl, h1, h2, h3, h4⟩
  · exact .inl ⟨e, h0⟩
  · exact .inr ⟨g, c, rfl, by omega, by omega, h3, h4, (OwnU.hu h).block (hb.block g h2)⟩

/-- the call returns lists -/
def RetLs (L : List (List Int)) (w : World) : Ending → World → Prop := fun e w' => ∃ A c, e = .returned (.slice A L.length c) ∧ RSo w' A L ∧ (A = none → L = [] ∧ c = 0) ∧ Below w.heap.size w w'
/-- the call returns lists, in new memory -/
def RetLo (L : List (List Int)) (w : World) : Ending → World → Prop := fun e w' => ∃ A c xs, e = .returned (.slice A L.length c) ∧ OwnS w' w.heap.size (.slice A L.length c) xs ∧ OwnL w' w.heap.size xs L ∧ RSo w' A L ∧ (A = none → L = [] ∧ c = 0) ∧ Below w.heap.size w w'
theorem RetLo.ls {L : List (List Int)} {w w' : World} {e : Ending} (h : RetLo L w e w') : RetLs L w e w' := by
  obtain ⟨A, c, xs, he, _, _, h1, h2, h3⟩ := h
  exact ⟨A, c, he, h1, h2, h3⟩
theorem OwnL.mono {w : World} {b b' : Nat} {xs : List Value} {ls : List (List Int)} (h : OwnL w b xs ls) (hb : b' ≤ b) : OwnL w b' xs ls :=
  ⟨h.1, fun k hk => by obtain ⟨A, c, h1, h2⟩ := h.2 k hk; exact ⟨A, c, h1, h2.mono hb⟩⟩
theorem OwnS.mono {w : World} {b b' : Nat} {v : Value} {xs : List Value} (h : OwnS w b v xs) (hb : b' ≤ b) : OwnS w b' v xs := ownsRow_mono h hb
theorem toNat_nat (n : Nat) : ((n : Int)).toNat = n := rfl

set_option maxRecDepth 100000 in
set_option maxHeartbeats 8000000 in
theorem gComponentsO_any (A : Option Addr) (N : Int) (l : List (Int × Int)) (c : Nat) (w : World) (hr : RP w A l) (hlen : l.length ≤ 100000) (hT : Tab w) :
    Calls Tryd.prog 15 #[.agg #[.int .i64 N, .slice A l.length c]] w (RetLo (compsL (nGn N l).toNat (nGl N l)) w) := by
  go_enter Tryd.func15, Tryd.ntmps15
  go_wp2_with fail
  obtain ⟨W0, hW, c0, c1, hb0, hlt0⟩ := boxed w 24 (.int .i64 N) (.slice A l.length c)
  have k0 : Blk W0 w.heap.size 24 #[.int .i64 N, .slice A l.length c] := by rw [← hW]; exact Blk.new w _ _
  rw [hW]
  have hr0 := hr.below hb0
  have hltA : ∀ b o, A = some ⟨b, o, none⟩ → 0 < (nGl N l).length → b ≠ w.heap.size := fun b o hA hl => by have := hr.lt hA (by unfold nGl at hl; split at hl <;> simp_all); omega
  clear hW hr c0 c1
  refine (proper_any _ _ _ _ _ hr0 hlen).mono ?_
  rintro e w1 ⟨A', c', rfl, hr1, hAA, hb⟩
  have hlen' := nGl_len (N := N) hlen
  have k1 := k0.below hb k0.lt
  obtain ⟨a0, a1, a2, a3⟩ := k1.two
  have hbb := endB hb0 hb
  obtain ⟨n, hn, hv⟩ := vld_proper N l hlen
  have Hnn := Lib.hid (show (nGn N l).toNat = n by rw [hn]; rfl)
  rw [hn]
  clear hn
  generalize nGl N l = l' at *
  have hltA' : ∀ b o, A' = some ⟨b, o, none⟩ → 0 < l'.length → b ≠ w.heap.size := fun b o hA hl => by
    rcases hAA with h | h
    · rw [h] at hA
      have := hltA b o hA
      omega
    · subst h; simp at hl
  have k2 : Blk _ w.heap.size 24 #[.int .i64 (n : Int), .slice A' l'.length c'] := (k1.set_ 0 (.int .i64 (n : Int))).set_ 1 (.slice A' l'.length c')
  have hr2 := hr1.far2 hltA' (.int .i64 (n : Int)) (.slice A' l'.length c')
  have hE : Below w.heap.size w ((w1.setCell ⟨w.heap.size, 0, none⟩ (.int .i64 (n : Int))).setCell ⟨w.heap.size, 1, none⟩ (.slice A' l'.length c')) := (hbb.setCell (p := ⟨w.heap.size, 0, none⟩) (Nat.le_refl _) _).setCell (p := ⟨w.heap.size, 1, none⟩) (Nat.le_refl _) _
  obtain ⟨W2, hW2⟩ : ∃ W2, (w1.setCell ⟨w.heap.size, 0, none⟩ (.int .i64 (n : Int))).setCell ⟨w.heap.size, 1, none⟩ (.slice A' l'.length c') = W2 := ⟨_, rfl⟩
  rw [hW2] at k2 hr2 hE
  have d0 : W2.cell? ⟨w.heap.size, 0, none⟩ = some (.int .i64 (n : Int)) := k2.two.1
  have d1 : W2.cell? ⟨w.heap.size, 1, none⟩ = some (.slice A' l'.length c') := k2.two.2.1
  have hTw := hT.below hE
  have hn40 := hv.1.1
  have hmk := run_make_row' (P := Tryd.prog) 25 3 (.int .i64 0) 8 Tryd.underlying25 info_int rfl .i64 .i64 n (by omega) (by omega)
  have htg : 0 < w.heap.size := lt_of_cell (hT 0 (by omega))
  go_upto_region 2 with fail
  clear hW2 a0 a1 a2 a3 k1
  have Hmk := Lib.hid hmk
  clear hmk
  go_cut [3] (fun s wx => ∃ p gN gO gL, s = Value.pointer (some ⟨p, 0, none⟩) ∧ JF W2.heap.size n (mkM l') p gN gO gL wx ∧ Below W2.heap.size W2 wx)
  case first =>
    refine wp_region_tree [1, 4, 7, 9] (fun w' => Below W2.heap.size W2 w') (fun w' => JX W2.heap.size n (mkM l') none none none w') 11 [0, 1, 2, 3, 4, 5, 6, 7, 8, 9, 10] (by rfl) (by decide) (by kernel_rfl) (by kernel_rfl) (Below.refl _ _).drew JX.start ?_
    refine TxtT.pure 0 (by rfl) (by rw [List.getElem?_toArray]; rfl) (by rfl) (by kernel_rfl) (by rfl) ?_; apply Exists.intro; refine ⟨fun w1 hS1 => ?_, ?_⟩; (focus ((have g0 := (hS1.cell (lt_of_cell d0)).trans d0); (have g1 := (hS1.cell (lt_of_cell d1)).trans d1); go_simp; with_reducible rfl))
    rw [show List.erase [0, 1, 2, 3, 4, 5, 6, 7, 8, 9, 10] 0 = [1, 2, 3, 4, 5, 6, 7, 8, 9, 10] from rfl]; simp only [Act.put, List.setIfInBounds_toArray, List.set_cons_zero, List.set_cons_succ]
    refine TxtT.pure 2 (by rfl) (by rw [List.getElem?_toArray]; rfl) (by rfl) (by kernel_rfl) (by rfl) ?_; apply Exists.intro; refine ⟨fun w1 hS1 => ?_, ?_⟩; (focus (skip; go_simp; with_reducible rfl))
    rw [show List.erase [1, 2, 3, 4, 5, 6, 7, 8, 9, 10] 2 = [1, 3, 4, 5, 6, 7, 8, 9, 10] from rfl]; simp only [Act.put, List.setIfInBounds_toArray, List.set_cons_zero, List.set_cons_succ]
    refine TxtT.pure 3 (by rfl) (by rw [List.getElem?_toArray]; rfl) (by rfl) (by kernel_rfl) (by rfl) ?_; apply Exists.intro; refine ⟨fun w1 hS1 => ?_, ?_⟩; (focus ((have g0 := (hS1.cell (lt_of_cell d0)).trans d0); go_simp; with_reducible rfl))
    rw [show List.erase [1, 3, 4, 5, 6, 7, 8, 9, 10] 3 = [1, 4, 5, 6, 7, 8, 9, 10] from rfl]; simp only [Act.put, List.setIfInBounds_toArray, List.set_cons_zero, List.set_cons_succ]
    refine TxtT.pure 5 (by rfl) (by rw [List.getElem?_toArray]; rfl) (by rfl) (by kernel_rfl) (by rfl) ?_; apply Exists.intro; refine ⟨fun w1 hS1 => ?_, ?_⟩; (focus (skip; go_simp; with_reducible rfl))
    rw [show List.erase [1, 4, 5, 6, 7, 8, 9, 10] 5 = [1, 4, 6, 7, 8, 9, 10] from rfl]; simp only [Act.put, List.setIfInBounds_toArray, List.set_cons_zero, List.set_cons_succ]
    refine TxtT.pure 6 (by rfl) (by rw [List.getElem?_toArray]; rfl) (by rfl) (by kernel_rfl) (by rfl) ?_; apply Exists.intro; refine ⟨fun w1 hS1 => ?_, ?_⟩; (focus ((have g0 := (hS1.cell (lt_of_cell d0)).trans d0); go_simp; with_reducible rfl))
    rw [show List.erase [1, 4, 6, 7, 8, 9, 10] 6 = [1, 4, 7, 8, 9, 10] from rfl]; simp only [Act.put, List.setIfInBounds_toArray, List.set_cons_zero, List.set_cons_succ]
    refine TxtT.three 1 4 7 (by kernel_rfl) (by rw [List.getElem?_toArray]; rfl) (by rw [List.getElem?_toArray]; rfl) (by rw [List.getElem?_toArray]; rfl) (by rfl) (by rfl) (by rfl) (by rfl) (by rfl) (by rfl) (fun v => ∃ g, v = Value.slice (some ⟨g, 0, none⟩) n n) (fun v w' => ∃ g, v = Value.slice (some ⟨g, 0, none⟩) n n ∧ JX W2.heap.size n (mkM l') (some g) none none w') (fun v => ∃ g, v = Value.slice (some ⟨g, 0, none⟩) n n) (fun v w' => ∃ g, v = Value.slice (some ⟨g, 0, none⟩) n n ∧ JX W2.heap.size n (mkM l') none (some g) none w') (fun v => ∃ g, v = Value.slice (some ⟨g, 0, none⟩) n n) (fun v w' => ∃ g, v = Value.slice (some ⟨g, 0, none⟩) n n ∧ JX W2.heap.size n (mkM l') none none (some g) w') (fun w1 hS1 hJ1 => ?_) (fun w1 hS1 hJ1 => ?_) (fun w1 hS1 hJ1 => ?_) ?_ ?_ ?_
    · refine Eff.call (f := 48) (args := #[.agg #[.int .i64 (n : Int), .slice A' l'.length c']]) (by go_simp) ((masks_any A' n l' c' w1 (hr2.below hS1) hv.1).mono ?_)
      rintro e w' ⟨g, rfl, hg, hrow, hb3⟩
      exact ⟨_, rfl, hS1.trans (hb3.mono hS1.size), ⟨g, rfl⟩, g, rfl, JX.M hJ1 hS1.size hb3 hg hrow⟩
    · have hmk := Hmk.out
      exact Eff.value (w' := w1.alloc (.cells (madeCells #[.int .i64 0] n) 3)) (v := .slice (some ⟨w1.heap.size, 0, none⟩) n n) (by go_simp) ⟨hS1.trans ((newB w1 _).mono hS1.size), ⟨_, rfl⟩, _, rfl, JX.O hJ1 hS1.size⟩
    · have hmk := Hmk.out
      exact Eff.value (w' := w1.alloc (.cells (madeCells #[.int .i64 0] n) 3)) (v := .slice (some ⟨w1.heap.size, 0, none⟩) n n) (by go_simp) ⟨hS1.trans ((newB w1 _).mono hS1.size), ⟨_, rfl⟩, _, rfl, JX.L hJ1 hS1.size⟩
    ·
      rintro _ ⟨gN, rfl⟩
      rw [show List.erase [1, 4, 7, 8, 9, 10] 1 = [4, 7, 8, 9, 10] from rfl]; simp only [Act.put, List.setIfInBounds_toArray, List.set_cons_zero, List.set_cons_succ]
      refine TxtT.weakJ (J2 := (fun w' => JX W2.heap.size n (mkM l') (some gN) none none w')) (fun w1 h => by obtain ⟨g, hg, h⟩ := h; injection hg with hg; injection hg with hg; injection hg with hg _ _; subst hg; exact h) ?_
      refine TxtT.two 4 7 (by kernel_rfl) (by rw [List.getElem?_toArray]; rfl) (by rw [List.getElem?_toArray]; rfl) (by rfl) (by rfl) (by rfl) (by rfl) (fun v => ∃ g, v = Value.slice (some ⟨g, 0, none⟩) n n) (fun v w' => ∃ g, v = Value.slice (some ⟨g, 0, none⟩) n n ∧ JX W2.heap.size n (mkM l') (some gN) (some g) none w') (fun v => ∃ g, v = Value.slice (some ⟨g, 0, none⟩) n n) (fun v w' => ∃ g, v = Value.slice (some ⟨g, 0, none⟩) n n ∧ JX W2.heap.size n (mkM l') (some gN) none (some g) w') (fun w1 hS1 hJ1 => ?_) (fun w1 hS1 hJ1 => ?_) ?_ ?_
      · have hmk := Hmk.out
        exact Eff.value (w' := w1.alloc (.cells (madeCells #[.int .i64 0] n) 3)) (v := .slice (some ⟨w1.heap.size, 0, none⟩) n n) (by go_simp) ⟨hS1.trans ((newB w1 _).mono hS1.size), ⟨_, rfl⟩, _, rfl, JX.O hJ1 hS1.size⟩
      · have hmk := Hmk.out
        exact Eff.value (w' := w1.alloc (.cells (madeCells #[.int .i64 0] n) 3)) (v := .slice (some ⟨w1.heap.size, 0, none⟩) n n) (by go_simp) ⟨hS1.trans ((newB w1 _).mono hS1.size), ⟨_, rfl⟩, _, rfl, JX.L hJ1 hS1.size⟩
      ·
        rintro _ ⟨gO, rfl⟩
        rw [show List.erase [4, 7, 8, 9, 10] 4 = [7, 8, 9, 10] from rfl]; simp only [Act.put, List.setIfInBounds_toArray, List.set_cons_zero, List.set_cons_succ]
        refine TxtT.weakJ (J2 := (fun w' => JX W2.heap.size n (mkM l') (some gN) (some gO) none w')) (fun w1 h => by obtain ⟨g, hg, h⟩ := h; injection hg with hg; injection hg with hg; injection hg with hg _ _; subst hg; exact h) ?_
        refine TxtT.one 7 (by kernel_rfl) (by rw [List.getElem?_toArray]; rfl) (by rfl) (by rfl) (fun v => ∃ g, v = Value.slice (some ⟨g, 0, none⟩) n n) (fun v w' => ∃ g, v = Value.slice (some ⟨g, 0, none⟩) n n ∧ JX W2.heap.size n (mkM l') (some gN) (some gO) (some g) w') (fun w1 hS1 hJ1 => ?_) ?_
        · have hmk := Hmk.out
          exact Eff.value (w' := w1.alloc (.cells (madeCells #[.int .i64 0] n) 3)) (v := .slice (some ⟨w1.heap.size, 0, none⟩) n n) (by go_simp) ⟨hS1.trans ((newB w1 _).mono hS1.size), ⟨_, rfl⟩, _, rfl, JX.L hJ1 hS1.size⟩
        rintro _ ⟨gL, rfl⟩
        rw [show List.erase [7, 8, 9, 10] 7 = [8, 9, 10] from rfl]; simp only [Act.put, List.setIfInBounds_toArray, List.set_cons_zero, List.set_cons_succ]
        refine TxtT.weakJ (J2 := (fun w' => JX W2.heap.size n (mkM l') (some gN) (some gO) (some gL) w')) (fun w1 h => by obtain ⟨g, hg, h⟩ := h; injection hg with hg; injection hg with hg; injection hg with hg _ _; subst hg; exact h) ?_
        refine TxtT.pure 8 (by rfl) (by rw [List.getElem?_toArray]; rfl) (by rfl) (by kernel_rfl) (by rfl) ?_; apply Exists.intro; refine ⟨fun w1 hS1 => ?_, ?_⟩; (focus (skip; go_simp; with_reducible rfl))
        rw [show List.erase [8, 9, 10] 8 = [9, 10] from rfl]; simp only [Act.put, List.setIfInBounds_toArray, List.set_cons_zero, List.set_cons_succ]
        refine TxtT.one 9 (by kernel_rfl) (by rw [List.getElem?_toArray]; rfl) (by rfl) (by rfl) (fun v => ∃ p, v = Value.pointer (some ⟨p, 0, none⟩)) (fun v w' => ∃ p, v = Value.pointer (some ⟨p, 0, none⟩) ∧ JF W2.heap.size n (mkM l') p gN gO gL w') (fun w1 hS1 hJ1 => ?_) ?_
        · exact Eff.value (w' := w1.alloc (.cells #[.slice (some ⟨gN, 0, none⟩) n n, .slice (some ⟨gO, 0, none⟩) n n, .slice (some ⟨gL, 0, none⟩) n n, .int .i64 0, .slice none 0 0, .int .u64 0, .slice none 0 0] 72)) (v := .pointer (some ⟨w1.heap.size, 0, none⟩)) (by go_simp) ⟨hS1.trans ((newB w1 _).mono hS1.size), ⟨_, rfl⟩, _, rfl, JX.F hJ1 hS1.size⟩
        rintro _ ⟨p, rfl⟩
        rw [show List.erase [9, 10] 9 = [10] from rfl]; simp only [Act.put, List.setIfInBounds_toArray, List.set_cons_zero, List.set_cons_succ]
        refine TxtT.pure 10 (by rfl) (by rw [List.getElem?_toArray]; rfl) (by rfl) (by kernel_rfl) (by rfl) ?_; apply Exists.intro; refine ⟨fun w1 hS1 => ?_, ?_⟩; (focus (skip; go_simp; with_reducible rfl))
        rw [show List.erase [10] 10 = [] from rfl]; simp only [Act.put, List.setIfInBounds_toArray, List.set_cons_zero, List.set_cons_succ]
        refine ⟨rfl, fun w1 hS1 hJ1 => ?_⟩
        obtain ⟨p', hp', hJ1⟩ := hJ1
        injection hp' with hp'; injection hp' with hp'; injection hp' with hp' _ _; subst hp'
        go_wp2_with fail
        go_meet
        exact ⟨_, gN, gO, gL, rfl, hJ1, hS1⟩
      ·
        rintro _ ⟨gL, rfl⟩
        rw [show List.erase [4, 7, 8, 9, 10] 7 = [4, 8, 9, 10] from rfl]; simp only [Act.put, List.setIfInBounds_toArray, List.set_cons_zero, List.set_cons_succ]
        refine TxtT.weakJ (J2 := (fun w' => JX W2.heap.size n (mkM l') (some gN) none (some gL) w')) (fun w1 h => by obtain ⟨g, hg, h⟩ := h; injection hg with hg; injection hg with hg; injection hg with hg _ _; subst hg; exact h) ?_
        refine TxtT.one 4 (by kernel_rfl) (by rw [List.getElem?_toArray]; rfl) (by rfl) (by rfl) (fun v => ∃ g, v = Value.slice (some ⟨g, 0, none⟩) n n) (fun v w' => ∃ g, v = Value.slice (some ⟨g, 0, none⟩) n n ∧ JX W2.heap.size n (mkM l') (some gN) (some g) (some gL) w') (fun w1 hS1 hJ1 => ?_) ?_
        · have hmk := Hmk.out
          exact Eff.value (w' := w1.alloc (.cells (madeCells #[.int .i64 0] n) 3)) (v := .slice (some ⟨w1.heap.size, 0, none⟩) n n) (by go_simp) ⟨hS1.trans ((newB w1 _).mono hS1.size), ⟨_, rfl⟩, _, rfl, JX.O hJ1 hS1.size⟩
        rintro _ ⟨gO, rfl⟩
        rw [show List.erase [4, 8, 9, 10] 4 = [8, 9, 10] from rfl]; simp only [Act.put, List.setIfInBounds_toArray, List.set_cons_zero, List.set_cons_succ]
        refine TxtT.weakJ (J2 := (fun w' => JX W2.heap.size n (mkM l') (some gN) (some gO) (some gL) w')) (fun w1 h => by obtain ⟨g, hg, h⟩ := h; injection hg with hg; injection hg with hg; injection hg with hg _ _; subst hg; exact h) ?_
        refine TxtT.pure 8 (by rfl) (by rw [List.getElem?_toArray]; rfl) (by rfl) (by kernel_rfl) (by rfl) ?_; apply Exists.intro; refine ⟨fun w1 hS1 => ?_, ?_⟩; (focus (skip; go_simp; with_reducible rfl))
        rw [show List.erase [8, 9, 10] 8 = [9, 10] from rfl]; simp only [Act.put, List.setIfInBounds_toArray, List.set_cons_zero, List.set_cons_succ]
        refine TxtT.one 9 (by kernel_rfl) (by rw [List.getElem?_toArray]; rfl) (by rfl) (by rfl) (fun v => ∃ p, v = Value.pointer (some ⟨p, 0, none⟩)) (fun v w' => ∃ p, v = Value.pointer (some ⟨p, 0, none⟩) ∧ JF W2.heap.size n (mkM l') p gN gO gL w') (fun w1 hS1 hJ1 => ?_) ?_
        · exact Eff.value (w' := w1.alloc (.cells #[.slice (some ⟨gN, 0, none⟩) n n, .slice (some ⟨gO, 0, none⟩) n n, .slice (some ⟨gL, 0, none⟩) n n, .int .i64 0, .slice none 0 0, .int .u64 0, .slice none 0 0] 72)) (v := .pointer (some ⟨w1.heap.size, 0, none⟩)) (by go_simp) ⟨hS1.trans ((newB w1 _).mono hS1.size), ⟨_, rfl⟩, _, rfl, JX.F hJ1 hS1.size⟩
        rintro _ ⟨p, rfl⟩
        rw [show List.erase [9, 10] 9 = [10] from rfl]; simp only [Act.put, List.setIfInBounds_toArray, List.set_cons_zero, List.set_cons_succ]
        refine TxtT.pure 10 (by rfl) (by rw [List.getElem?_toArray]; rfl) (by rfl) (by kernel_rfl) (by rfl) ?_; apply Exists.intro; refine ⟨fun w1 hS1 => ?_, ?_⟩; (focus (skip; go_simp; with_reducible rfl))
        rw [show List.erase [10] 10 = [] from rfl]; simp only [Act.put, List.setIfInBounds_toArray, List.set_cons_zero, List.set_cons_succ]
        refine ⟨rfl, fun w1 hS1 hJ1 => ?_⟩
        obtain ⟨p', hp', hJ1⟩ := hJ1
        injection hp' with hp'; injection hp' with hp'; injection hp' with hp' _ _; subst hp'
        go_wp2_with fail
        go_meet
        exact ⟨_, gN, gO, gL, rfl, hJ1, hS1⟩
    ·
      rintro _ ⟨gO, rfl⟩
      rw [show List.erase [1, 4, 7, 8, 9, 10] 4 = [1, 7, 8, 9, 10] from rfl]; simp only [Act.put, List.setIfInBounds_toArray, List.set_cons_zero, List.set_cons_succ]
      refine TxtT.weakJ (J2 := (fun w' => JX W2.heap.size n (mkM l') none (some gO) none w')) (fun w1 h => by obtain ⟨g, hg, h⟩ := h; injection hg with hg; injection hg with hg; injection hg with hg _ _; subst hg; exact h) ?_
      refine TxtT.two 1 7 (by kernel_rfl) (by rw [List.getElem?_toArray]; rfl) (by rw [List.getElem?_toArray]; rfl) (by rfl) (by rfl) (by rfl) (by rfl) (fun v => ∃ g, v = Value.slice (some ⟨g, 0, none⟩) n n) (fun v w' => ∃ g, v = Value.slice (some ⟨g, 0, none⟩) n n ∧ JX W2.heap.size n (mkM l') (some g) (some gO) none w') (fun v => ∃ g, v = Value.slice (some ⟨g, 0, none⟩) n n) (fun v w' => ∃ g, v = Value.slice (some ⟨g, 0, none⟩) n n ∧ JX W2.heap.size n (mkM l') none (some gO) (some g) w') (fun w1 hS1 hJ1 => ?_) (fun w1 hS1 hJ1 => ?_) ?_ ?_
      · refine Eff.call (f := 48) (args := #[.agg #[.int .i64 (n : Int), .slice A' l'.length c']]) (by go_simp) ((masks_any A' n l' c' w1 (hr2.below hS1) hv.1).mono ?_)
        rintro e w' ⟨g, rfl, hg, hrow, hb3⟩
        exact ⟨_, rfl, hS1.trans (hb3.mono hS1.size), ⟨g, rfl⟩, g, rfl, JX.M hJ1 hS1.size hb3 hg hrow⟩
      · have hmk := Hmk.out
        exact Eff.value (w' := w1.alloc (.cells (madeCells #[.int .i64 0] n) 3)) (v := .slice (some ⟨w1.heap.size, 0, none⟩) n n) (by go_simp) ⟨hS1.trans ((newB w1 _).mono hS1.size), ⟨_, rfl⟩, _, rfl, JX.L hJ1 hS1.size⟩
      ·
        rintro _ ⟨gN, rfl⟩
        rw [show List.erase [1, 7, 8, 9, 10] 1 = [7, 8, 9, 10] from rfl]; simp only [Act.put, List.setIfInBounds_toArray, List.set_cons_zero, List.set_cons_succ]
        refine TxtT.weakJ (J2 := (fun w' => JX W2.heap.size n (mkM l') (some gN) (some gO) none w')) (fun w1 h => by obtain ⟨g, hg, h⟩ := h; injection hg with hg; injection hg with hg; injection hg with hg _ _; subst hg; exact h) ?_
        refine TxtT.one 7 (by kernel_rfl) (by rw [List.getElem?_toArray]; rfl) (by rfl) (by rfl) (fun v => ∃ g, v = Value.slice (some ⟨g, 0, none⟩) n n) (fun v w' => ∃ g, v = Value.slice (some ⟨g, 0, none⟩) n n ∧ JX W2.heap.size n (mkM l') (some gN) (some gO) (some g) w') (fun w1 hS1 hJ1 => ?_) ?_
        · have hmk := Hmk.out
          exact Eff.value (w' := w1.alloc (.cells (madeCells #[.int .i64 0] n) 3)) (v := .slice (some ⟨w1.heap.size, 0, none⟩) n n) (by go_simp) ⟨hS1.trans ((newB w1 _).mono hS1.size), ⟨_, rfl⟩, _, rfl, JX.L hJ1 hS1.size⟩
        rintro _ ⟨gL, rfl⟩
        rw [show List.erase [7, 8, 9, 10] 7 = [8, 9, 10] from rfl]; simp only [Act.put, List.setIfInBounds_toArray, List.set_cons_zero, List.set_cons_succ]
        refine TxtT.weakJ (J2 := (fun w' => JX W2.heap.size n (mkM l') (some gN) (some gO) (some gL) w')) (fun w1 h => by obtain ⟨g, hg, h⟩ := h; injection hg with hg; injection hg with hg; injection hg with hg _ _; subst hg; exact h) ?_
        refine TxtT.pure 8 (by rfl) (by rw [List.getElem?_toArray]; rfl) (by rfl) (by kernel_rfl) (by rfl) ?_; apply Exists.intro; refine ⟨fun w1 hS1 => ?_, ?_⟩; (focus (skip; go_simp; with_reducible rfl))
        rw [show List.erase [8, 9, 10] 8 = [9, 10] from rfl]; simp only [Act.put, List.setIfInBounds_toArray, List.set_cons_zero, List.set_cons_succ]
        refine TxtT.one 9 (by kernel_rfl) (by rw [List.getElem?_toArray]; rfl) (by rfl) (by rfl) (fun v => ∃ p, v = Value.pointer (some ⟨p, 0, none⟩)) (fun v w' => ∃ p, v = Value.pointer (some ⟨p, 0, none⟩) ∧ JF W2.heap.size n (mkM l') p gN gO gL w') (fun w1 hS1 hJ1 => ?_) ?_
        · exact Eff.value (w' := w1.alloc (.cells #[.slice (some ⟨gN, 0, none⟩) n n, .slice (some ⟨gO, 0, none⟩) n n, .slice (some ⟨gL, 0, none⟩) n n, .int .i64 0, .slice none 0 0, .int .u64 0, .slice none 0 0] 72)) (v := .pointer (some ⟨w1.heap.size, 0, none⟩)) (by go_simp) ⟨hS1.trans ((newB w1 _).mono hS1.size), ⟨_, rfl⟩, _, rfl, JX.F hJ1 hS1.size⟩
        rintro _ ⟨p, rfl⟩
        rw [show List.erase [9, 10] 9 = [10] from rfl]; simp only [Act.put, List.setIfInBounds_toArray, List.set_cons_zero, List.set_cons_succ]
        refine TxtT.pure 10 (by rfl) (by rw [List.getElem?_toArray]; rfl) (by rfl) (by kernel_rfl) (by rfl) ?_; apply Exists.intro; refine ⟨fun w1 hS1 => ?_, ?_⟩; (focus (skip; go_simp; with_reducible rfl))
        rw [show List.erase [10] 10 = [] from rfl]; simp only [Act.put, List.setIfInBounds_toArray, List.set_cons_zero, List.set_cons_succ]
        refine ⟨rfl, fun w1 hS1 hJ1 => ?_⟩
        obtain ⟨p', hp', hJ1⟩ := hJ1
        injection hp' with hp'; injection hp' with hp'; injection hp' with hp' _ _; subst hp'
        go_wp2_with fail
        go_meet
        exact ⟨_, gN, gO, gL, rfl, hJ1, hS1⟩
      ·
        rintro _ ⟨gL, rfl⟩
        rw [show List.erase [1, 7, 8, 9, 10] 7 = [1, 8, 9, 10] from rfl]; simp only [Act.put, List.setIfInBounds_toArray, List.set_cons_zero, List.set_cons_succ]
        refine TxtT.weakJ (J2 := (fun w' => JX W2.heap.size n (mkM l') none (some gO) (some gL) w')) (fun w1 h => by obtain ⟨g, hg, h⟩ := h; injection hg with hg; injection hg with hg; injection hg with hg _ _; subst hg; exact h) ?_
        refine TxtT.one 1 (by kernel_rfl) (by rw [List.getElem?_toArray]; rfl) (by rfl) (by rfl) (fun v => ∃ g, v = Value.slice (some ⟨g, 0, none⟩) n n) (fun v w' => ∃ g, v = Value.slice (some ⟨g, 0, none⟩) n n ∧ JX W2.heap.size n (mkM l') (some g) (some gO) (some gL) w') (fun w1 hS1 hJ1 => ?_) ?_
        · refine Eff.call (f := 48) (args := #[.agg #[.int .i64 (n : Int), .slice A' l'.length c']]) (by go_simp) ((masks_any A' n l' c' w1 (hr2.below hS1) hv.1).mono ?_)
          rintro e w' ⟨g, rfl, hg, hrow, hb3⟩
          exact ⟨_, rfl, hS1.trans (hb3.mono hS1.size), ⟨g, rfl⟩, g, rfl, JX.M hJ1 hS1.size hb3 hg hrow⟩
        rintro _ ⟨gN, rfl⟩
        rw [show List.erase [1, 8, 9, 10] 1 = [8, 9, 10] from rfl]; simp only [Act.put, List.setIfInBounds_toArray, List.set_cons_zero, List.set_cons_succ]
        refine TxtT.weakJ (J2 := (fun w' => JX W2.heap.size n (mkM l') (some gN) (some gO) (some gL) w')) (fun w1 h => by obtain ⟨g, hg, h⟩ := h; injection hg with hg; injection hg with hg; injection hg with hg _ _; subst hg; exact h) ?_
        refine TxtT.pure 8 (by rfl) (by rw [List.getElem?_toArray]; rfl) (by rfl) (by kernel_rfl) (by rfl) ?_; apply Exists.intro; refine ⟨fun w1 hS1 => ?_, ?_⟩; (focus (skip; go_simp; with_reducible rfl))
        rw [show List.erase [8, 9, 10] 8 = [9, 10] from rfl]; simp only [Act.put, List.setIfInBounds_toArray, List.set_cons_zero, List.set_cons_succ]
        refine TxtT.one 9 (by kernel_rfl) (by rw [List.getElem?_toArray]; rfl) (by rfl) (by rfl) (fun v => ∃ p, v = Value.pointer (some ⟨p, 0, none⟩)) (fun v w' => ∃ p, v = Value.pointer (some ⟨p, 0, none⟩) ∧ JF W2.heap.size n (mkM l') p gN gO gL w') (fun w1 hS1 hJ1 => ?_) ?_
        · exact Eff.value (w' := w1.alloc (.cells #[.slice (some ⟨gN, 0, none⟩) n n, .slice (some ⟨gO, 0, none⟩) n n, .slice (some ⟨gL, 0, none⟩) n n, .int .i64 0, .slice none 0 0, .int .u64 0, .slice none 0 0] 72)) (v := .pointer (some ⟨w1.heap.size, 0, none⟩)) (by go_simp) ⟨hS1.trans ((newB w1 _).mono hS1.size), ⟨_, rfl⟩, _, rfl, JX.F hJ1 hS1.size⟩
        rintro _ ⟨p, rfl⟩
        rw [show List.erase [9, 10] 9 = [10] from rfl]; simp only [Act.put, List.setIfInBounds_toArray, List.set_cons_zero, List.set_cons_succ]
        refine TxtT.pure 10 (by rfl) (by rw [List.getElem?_toArray]; rfl) (by rfl) (by kernel_rfl) (by rfl) ?_; apply Exists.intro; refine ⟨fun w1 hS1 => ?_, ?_⟩; (focus (skip; go_simp; with_reducible rfl))
        rw [show List.erase [10] 10 = [] from rfl]; simp only [Act.put, List.setIfInBounds_toArray, List.set_cons_zero, List.set_cons_succ]
        refine ⟨rfl, fun w1 hS1 hJ1 => ?_⟩
        obtain ⟨p', hp', hJ1⟩ := hJ1
        injection hp' with hp'; injection hp' with hp'; injection hp' with hp' _ _; subst hp'
        go_wp2_with fail
        go_meet
        exact ⟨_, gN, gO, gL, rfl, hJ1, hS1⟩
    ·
      rintro _ ⟨gL, rfl⟩
      rw [show List.erase [1, 4, 7, 8, 9, 10] 7 = [1, 4, 8, 9, 10] from rfl]; simp only [Act.put, List.setIfInBounds_toArray, List.set_cons_zero, List.set_cons_succ]
      refine TxtT.weakJ (J2 := (fun w' => JX W2.heap.size n (mkM l') none none (some gL) w')) (fun w1 h => by obtain ⟨g, hg, h⟩ := h; injection hg with hg; injection hg with hg; injection hg with hg _ _; subst hg; exact h) ?_
      refine TxtT.two 1 4 (by kernel_rfl) (by rw [List.getElem?_toArray]; rfl) (by rw [List.getElem?_toArray]; rfl) (by rfl) (by rfl) (by rfl) (by rfl) (fun v => ∃ g, v = Value.slice (some ⟨g, 0, none⟩) n n) (fun v w' => ∃ g, v = Value.slice (some ⟨g, 0, none⟩) n n ∧ JX W2.heap.size n (mkM l') (some g) none (some gL) w') (fun v => ∃ g, v = Value.slice (some ⟨g, 0, none⟩) n n) (fun v w' => ∃ g, v = Value.slice (some ⟨g, 0, none⟩) n n ∧ JX W2.heap.size n (mkM l') none (some g) (some gL) w') (fun w1 hS1 hJ1 => ?_) (fun w1 hS1 hJ1 => ?_) ?_ ?_
      · refine Eff.call (f := 48) (args := #[.agg #[.int .i64 (n : Int), .slice A' l'.length c']]) (by go_simp) ((masks_any A' n l' c' w1 (hr2.below hS1) hv.1).mono ?_)
        rintro e w' ⟨g, rfl, hg, hrow, hb3⟩
        exact ⟨_, rfl, hS1.trans (hb3.mono hS1.size), ⟨g, rfl⟩, g, rfl, JX.M hJ1 hS1.size hb3 hg hrow⟩
      · have hmk := Hmk.out
        exact Eff.value (w' := w1.alloc (.cells (madeCells #[.int .i64 0] n) 3)) (v := .slice (some ⟨w1.heap.size, 0, none⟩) n n) (by go_simp) ⟨hS1.trans ((newB w1 _).mono hS1.size), ⟨_, rfl⟩, _, rfl, JX.O hJ1 hS1.size⟩
      ·
        rintro _ ⟨gN, rfl⟩
        rw [show List.erase [1, 4, 8, 9, 10] 1 = [4, 8, 9, 10] from rfl]; simp only [Act.put, List.setIfInBounds_toArray, List.set_cons_zero, List.set_cons_succ]
        refine TxtT.weakJ (J2 := (fun w' => JX W2.heap.size n (mkM l') (some gN) none (some gL) w')) (fun w1 h => by obtain ⟨g, hg, h⟩ := h; injection hg with hg; injection hg with hg; injection hg with hg _ _; subst hg; exact h) ?_
        refine TxtT.one 4 (by kernel_rfl) (by rw [List.getElem?_toArray]; rfl) (by rfl) (by rfl) (fun v => ∃ g, v = Value.slice (some ⟨g, 0, none⟩) n n) (fun v w' => ∃ g, v = Value.slice (some ⟨g, 0, none⟩) n n ∧ JX W2.heap.size n (mkM l') (some gN) (some g) (some gL) w') (fun w1 hS1 hJ1 => ?_) ?_
        · have hmk := Hmk.out
          exact Eff.value (w' := w1.alloc (.cells (madeCells #[.int .i64 0] n) 3)) (v := .slice (some ⟨w1.heap.size, 0, none⟩) n n) (by go_simp) ⟨hS1.trans ((newB w1 _).mono hS1.size), ⟨_, rfl⟩, _, rfl, JX.O hJ1 hS1.size⟩
        rintro _ ⟨gO, rfl⟩
        rw [show List.erase [4, 8, 9, 10] 4 = [8, 9, 10] from rfl]; simp only [Act.put, List.setIfInBounds_toArray, List.set_cons_zero, List.set_cons_succ]
        refine TxtT.weakJ (J2 := (fun w' => JX W2.heap.size n (mkM l') (some gN) (some gO) (some gL) w')) (fun w1 h => by obtain ⟨g, hg, h⟩ := h; injection hg with hg; injection hg with hg; injection hg with hg _ _; subst hg; exact h) ?_
        refine TxtT.pure 8 (by rfl) (by rw [List.getElem?_toArray]; rfl) (by rfl) (by kernel_rfl) (by rfl) ?_; apply Exists.intro; refine ⟨fun w1 hS1 => ?_, ?_⟩; (focus (skip; go_simp; with_reducible rfl))
        rw [show List.erase [8, 9, 10] 8 = [9, 10] from rfl]; simp only [Act.put, List.setIfInBounds_toArray, List.set_cons_zero, List.set_cons_succ]
        refine TxtT.one 9 (by kernel_rfl) (by rw [List.getElem?_toArray]; rfl) (by rfl) (by rfl) (fun v => ∃ p, v = Value.pointer (some ⟨p, 0, none⟩)) (fun v w' => ∃ p, v = Value.pointer (some ⟨p, 0, none⟩) ∧ JF W2.heap.size n (mkM l') p gN gO gL w') (fun w1 hS1 hJ1 => ?_) ?_
        · exact Eff.value (w' := w1.alloc (.cells #[.slice (some ⟨gN, 0, none⟩) n n, .slice (some ⟨gO, 0, none⟩) n n, .slice (some ⟨gL, 0, none⟩) n n, .int .i64 0, .slice none 0 0, .int .u64 0, .slice none 0 0] 72)) (v := .pointer (some ⟨w1.heap.size, 0, none⟩)) (by go_simp) ⟨hS1.trans ((newB w1 _).mono hS1.size), ⟨_, rfl⟩, _, rfl, JX.F hJ1 hS1.size⟩
        rintro _ ⟨p, rfl⟩
        rw [show List.erase [9, 10] 9 = [10] from rfl]; simp only [Act.put, List.setIfInBounds_toArray, List.set_cons_zero, List.set_cons_succ]
        refine TxtT.pure 10 (by rfl) (by rw [List.getElem?_toArray]; rfl) (by rfl) (by kernel_rfl) (by rfl) ?_; apply Exists.intro; refine ⟨fun w1 hS1 => ?_, ?_⟩; (focus (skip; go_simp; with_reducible rfl))
        rw [show List.erase [10] 10 = [] from rfl]; simp only [Act.put, List.setIfInBounds_toArray, List.set_cons_zero, List.set_cons_succ]
        refine ⟨rfl, fun w1 hS1 hJ1 => ?_⟩
        obtain ⟨p', hp', hJ1⟩ := hJ1
        injection hp' with hp'; injection hp' with hp'; injection hp' with hp' _ _; subst hp'
        go_wp2_with fail
        go_meet
        exact ⟨_, gN, gO, gL, rfl, hJ1, hS1⟩
      ·
        rintro _ ⟨gO, rfl⟩
        rw [show List.erase [1, 4, 8, 9, 10] 4 = [1, 8, 9, 10] from rfl]; simp only [Act.put, List.setIfInBounds_toArray, List.set_cons_zero, List.set_cons_succ]
        refine TxtT.weakJ (J2 := (fun w' => JX W2.heap.size n (mkM l') none (some gO) (some gL) w')) (fun w1 h => by obtain ⟨g, hg, h⟩ := h; injection hg with hg; injection hg with hg; injection hg with hg _ _; subst hg; exact h) ?_
        refine TxtT.one 1 (by kernel_rfl) (by rw [List.getElem?_toArray]; rfl) (by rfl) (by rfl) (fun v => ∃ g, v = Value.slice (some ⟨g, 0, none⟩) n n) (fun v w' => ∃ g, v = Value.slice (some ⟨g, 0, none⟩) n n ∧ JX W2.heap.size n (mkM l') (some g) (some gO) (some gL) w') (fun w1 hS1 hJ1 => ?_) ?_
        · refine Eff.call (f := 48) (args := #[.agg #[.int .i64 (n : Int), .slice A' l'.length c']]) (by go_simp) ((masks_any A' n l' c' w1 (hr2.below hS1) hv.1).mono ?_)
          rintro e w' ⟨g, rfl, hg, hrow, hb3⟩
          exact ⟨_, rfl, hS1.trans (hb3.mono hS1.size), ⟨g, rfl⟩, g, rfl, JX.M hJ1 hS1.size hb3 hg hrow⟩
        rintro _ ⟨gN, rfl⟩
        rw [show List.erase [1, 8, 9, 10] 1 = [8, 9, 10] from rfl]; simp only [Act.put, List.setIfInBounds_toArray, List.set_cons_zero, List.set_cons_succ]
        refine TxtT.weakJ (J2 := (fun w' => JX W2.heap.size n (mkM l') (some gN) (some gO) (some gL) w')) (fun w1 h => by obtain ⟨g, hg, h⟩ := h; injection hg with hg; injection hg with hg; injection hg with hg _ _; subst hg; exact h) ?_
        refine TxtT.pure 8 (by rfl) (by rw [List.getElem?_toArray]; rfl) (by rfl) (by kernel_rfl) (by rfl) ?_; apply Exists.intro; refine ⟨fun w1 hS1 => ?_, ?_⟩; (focus (skip; go_simp; with_reducible rfl))
        rw [show List.erase [8, 9, 10] 8 = [9, 10] from rfl]; simp only [Act.put, List.setIfInBounds_toArray, List.set_cons_zero, List.set_cons_succ]
        refine TxtT.one 9 (by kernel_rfl) (by rw [List.getElem?_toArray]; rfl) (by rfl) (by rfl) (fun v => ∃ p, v = Value.pointer (some ⟨p, 0, none⟩)) (fun v w' => ∃ p, v = Value.pointer (some ⟨p, 0, none⟩) ∧ JF W2.heap.size n (mkM l') p gN gO gL w') (fun w1 hS1 hJ1 => ?_) ?_
        · exact Eff.value (w' := w1.alloc (.cells #[.slice (some ⟨gN, 0, none⟩) n n, .slice (some ⟨gO, 0, none⟩) n n, .slice (some ⟨gL, 0, none⟩) n n, .int .i64 0, .slice none 0 0, .int .u64 0, .slice none 0 0] 72)) (v := .pointer (some ⟨w1.heap.size, 0, none⟩)) (by go_simp) ⟨hS1.trans ((newB w1 _).mono hS1.size), ⟨_, rfl⟩, _, rfl, JX.F hJ1 hS1.size⟩
        rintro _ ⟨p, rfl⟩
        rw [show List.erase [9, 10] 9 = [10] from rfl]; simp only [Act.put, List.setIfInBounds_toArray, List.set_cons_zero, List.set_cons_succ]
        refine TxtT.pure 10 (by rfl) (by rw [List.getElem?_toArray]; rfl) (by rfl) (by kernel_rfl) (by rfl) ?_; apply Exists.intro; refine ⟨fun w1 hS1 => ?_, ?_⟩; (focus (skip; go_simp; with_reducible rfl))
        rw [show List.erase [10] 10 = [] from rfl]; simp only [Act.put, List.setIfInBounds_toArray, List.set_cons_zero, List.set_cons_succ]
        refine ⟨rfl, fun w1 hS1 hJ1 => ?_⟩
        obtain ⟨p', hp', hJ1⟩ := hJ1
        injection hp' with hp'; injection hp' with hp'; injection hp' with hp' _ _; subst hp'
        go_wp2_with fail
        go_meet
        exact ⟨_, gN, gO, gL, rfl, hJ1, hS1⟩
  obtain ⟨p, gN, gO, gL, rfl, ⟨hBp, hBN, hBO, hBL, B, hWB, hst⟩, hS⟩ := hcut
  have hEc := hE.trans (hS.mono hE.size)
  have hW2 := hE.size
  have hr3 := hr2.below hS
  have hlr := hv.1.2.1
  have hgn : nGn n l' = n := by unfold nGn; rw [hv.valE]; rfl
  have hgl : nGl n l' = l' := by unfold nGl; rw [hv.valE]; rfl
  have hrev : ∀ wr, Below W2.heap.size W2 wr → Calls Tryd.prog 27 #[.agg #[.int .i64 (n : Int), .slice A' l'.length c']] wr (RetGN n (revL l') wr) := fun wr hb => by
    have h := gReverse_any A' (n : Int) l' c' wr (hr2.below hb) hlr
    rwa [hgn, hgl] at h
  have hcs : CSr n l' W2 B p gN gO gL 0 s00 (.slice none 0 0) (.slice none 0 0) wc := { st := hst, inv := t_start n (att l'), vis := fun x hx => absurd hx (Nat.not_lt_zero x), bel := hS }
  have d0c := (hS.cell (p := ⟨w.heap.size, 0, none⟩) (lt_of_cell d0)).trans d0
  have Hrev := Lib.hid hrev; have Hv := Lib.hid hv; have Hr2 := Lib.hid hr2; have HAA := Lib.hid hAA; have HltA := Lib.hid hltA; have HltA' := Lib.hid hltA'
  clear hrev hgn hgl hS hst hr0 hr1 hr2 hr3 hAA hltA hltA' hb hbb hb0 hlt0 hlen hlen' hEc Hmk k0 k2
  go_wp2_with fail
  clear d0c
  go_loopw [23] (fun t wr => ∃ (i : Nat) (s : TS) (v u : Value), i ≤ n ∧ t = .int .i64 i ∧ CSr n l' W2 B p gN gO gL i s v u wr) (fun t _ => n - (intOf t).toNat)
  case atStart => exact ⟨0, s00, _, _, Nat.zero_le _, rfl, hcs⟩
  case round =>
    clear hcs
    obtain ⟨i, s, v, u, hi, rfl, hcs⟩ := hrel
    by_cases hin : i < n
    case pos =>
      have f0 := hcs.st.facts
      have e1 := f0.2.1
      have co := hcs.st.o.cell hin
      have hi0 : (0 : Int) ≤ (i : Int) := by omega
      have hi1 : (i : Int) < (n : Int) := by omega
      by_cases h0 : s.o i = 0
      case pos =>
        have co0 : wr.cell? ⟨gO, i, none⟩ = some (.int .i64 0) := by rw [co, h0]; rfl
        have H0 := Lib.hid h0; have Hcs := Lib.hid hcs
        clear h0 co f0 hcs
        go_wp2_with fail
        refine (visit_any Hv.out (by omega) (by omega) (by omega) (by omega) n s v u [] i wr (by omega) (Hcs.out).st (Hcs.out).inv hin H0.out (by simp) (hTw.below (Hcs.out).bel)).mono ?_
        rintro e w6 ⟨rfl, s2, v2, u2, hst2, hpost, hm2, -, -⟩
        have hcs2 := (Hcs.out).next hst2 hpost hm2 hBp hBO hBL hWB
        clear hst2 hpost hm2 e1 co0
        go_wp2_with fail
        go_roundw
        case rel => exact ⟨i + 1, s2, v2, u2, by omega, by go_num, hcs2⟩
        case measure => simp [intOf]; omega
      case neg =>
        have hd0 : (((s.o i : Nat) : Int) == 0) = false := by rw [beq_eq_false_iff_ne]; omega
        have hvis : ∀ x, x < i + 1 → s.o x ≠ 0 := fun x hx => by
          by_cases e : x = i
          · rw [e]; exact h0
          · exact hcs.vis x (by omega)
        have hcs2 : CSr n l' W2 B p gN gO gL (i + 1) s v u wr := { hcs with vis := hvis }
        have Hcs := Lib.hid hcs2
        clear h0 f0 hcs hcs2 hvis
        generalize s.o i = x1 at *
        go_wp2_with fail
        go_roundw
        case rel => exact ⟨i + 1, s, v, u, by omega, by go_num, Hcs.out⟩
        case measure => simp [intOf]; omega
    case neg =>
      obtain rfl : n = i := by omega
      have hv := Hv.out
      have d0r := (hcs.bel.cell (p := ⟨w.heap.size, 0, none⟩) (lt_of_cell d0)).trans d0
      have d1r := (hcs.bel.cell (p := ⟨w.heap.size, 1, none⟩) (lt_of_cell d1)).trans d1
      have Hcs := Lib.hid hcs
      clear hcs hv
      go_wp2_with fail
      refine (Hrev.out wr (Hcs.out).bel).mono ?_
      rintro e w5 ⟨A5, c5, rfl, hr5, -, hb5⟩
      have hrv := (revL_vld Hv.out).1
      go_wp2_with fail
      refine (masks_any A5 n (revL l') c5 w5 hr5 hrv).mono ?_
      rintro e w6 ⟨gI, rfl, hgI, hrow, hb6⟩
      go_upto_region 10 with fail
      have k5 := Blk.new w6 68 #[.slice (some ⟨gI, 0, none⟩) n n]
      have hb7 := newB w6 (.cells #[.slice (some ⟨gI, 0, none⟩) n n] 68)
      have hrow7 := World.rowIs.alloc hrow (.cells #[.slice (some ⟨gI, 0, none⟩) n n] 68)
      have hs7 : w6.heap.size < (w6.alloc (.cells #[.slice (some ⟨gI, 0, none⟩) n n] 68)).heap.size := by simp
      generalize w6.alloc (.cells #[.slice (some ⟨gI, 0, none⟩) n n] 68) = W7 at *
      have hcs := Hcs.out
      have hbr7 : Below wr.heap.size wr W7 := endB (endB hb5 hb6) hb7
      have hst7 := hcs.st.below hbr7
      have hb27 : Below W2.heap.size W2 W7 := hcs.bel.trans (hbr7.mono hcs.bel.size)
      have hT7 := hTw.below hb27
      have hrw := hbr7.size
      have hr5w := hb5.size
      have hr6w := hb6.size
      have hBr := hcs.st.hB
      have hpB := hcs.st.hp
      have hgI6 := World.rowIs.lt hrow
      have hfs : FS p gI W7 u s.F := FS.of_own hcs.st.fd hpB hbr7 (by omega)
      have hF : ∀ f ∈ s.F, f ≠ 0 ∧ f < 18446744073709551616 := fun f hf => by
        obtain ⟨h1, r, h2, -⟩ := hcs.inv.fscc f hf
        refine ⟨fun e => ?_, u64_of hn40 h1⟩
        rw [e] at h2; simp [has] at h2
      have hFl : s.F.length ≤ n := by
        have h1 := hcs.inv.len
        have h2 := hcs.inv.num
        have h3 := List.countP_le_length (p := fun x => decide (s.o x ≠ 0)) (l := List.range n)
        rw [List.length_range] at h3
        omega
      have e6 : W7.cell? ⟨p, 6, none⟩ = some u := hst7.facts.2.2.2.2.2.2.1
      have hsort := sortFS_any hfs hF (by omega) (by omega) hT7 (by omega)
      have huB : ∀ k, u.ownBlock = some k → B ≤ k ∧ k < wr.heap.size := fun k hk => OwnU.block hcs.st.fd k hk
      have Hsort := Lib.hid hsort; have HuB := Lib.hid huB; have Hst7 := Lib.hid hst7
      clear hsort hfs hF huB hst7 hcs hT7
      go_wp2_with fail
      refine Hsort.out.mono ?_
      rintro e W8 ⟨rfl, F', hperm, hsrt, hfs8, hg8⟩
      have hinv := CInv.start Hv.out (Hcs.out).inv (fun x hx => (Hcs.out).vis x hx) hperm hsrt
      have hFl' : F'.length ≤ n := by rw [hperm.length_eq]; exact hFl
      have hk8 : ∀ q, q < W7.heap.size → (q < B ∨ wr.heap.size ≤ q) → W8.heap[q]? = W7.heap[q]? := fun q hq h => hg8.block q hq (fun e => by have := HuB.out q e.symm; omega)
      have hb28 : Below W2.heap.size W2 W8 := ⟨hg8.os.trans hb27.os, hg8.tape.trans hb27.tape, hg8.output.trans hb27.output, Nat.le_trans hb27.size hg8.size, fun q hq => (hk8 q (by have := hb27.size; omega) (by omega)).trans (hb27.block q hq)⟩
      have hd8 := (show Blk W8 p _ _ from (hk8 p (by omega) (by omega)).trans (Hst7.out).hd)
      have h58 := (show Blk W8 w6.heap.size _ _ from (hk8 w6.heap.size hs7 (by omega)).trans k5)
      have hrow8 := rowIs_heap hrow7 (hk8 gI (by omega) (by omega))
      have d08 := (hb28.cell (p := ⟨w.heap.size, 0, none⟩) (lt_of_cell d0)).trans d0
      have hall := allN_u64 n (by omega)
      rw [Int.one_mul] at hall
      have hsz8 := hg8.size
      clear e6 d0r d1r hg8 hk8 hperm hsrt
      go_upto_region 13 with fail
      have hb9 := newB W8 (.cells #[.int .u64 (allN n : Nat)] 70)
      have b79 := Blk.new W8 70 #[.int .u64 (allN n : Nat)]
      have hbw9 : Below w.heap.size w (W8.alloc (.cells #[.int .u64 (allN n : Nat)] 70)) := endB (hE.trans (hb28.mono hW2)) hb9
      have hsz9 : (W8.alloc (.cells #[.int .u64 (allN n : Nat)] 70)).heap.size = W8.heap.size + 1 := by simp
      have hcl : CLp n l' w (W8.heap.size + 1) p gI w6.heap.size (.slice (some ⟨gN, 0, none⟩) n n) (.slice (some ⟨gO, 0, none⟩) n n) (.slice (some ⟨gL, 0, none⟩) n n) (.int .i64 (s.ct : Nat)) v (.int .u64 (s.on : Nat)) F' (allN n) W8.heap.size n (.slice none 0 0) u [] [] (W8.alloc (.cells #[.int .u64 (allN n : Nat)] 70)) :=
        { inv := hinv
          hd := hd8.alloc _
          fs := hfs8.keep fun g hg => Below.heap_alloc _ _ g (by omega)
          cap := ⟨by rw [(h58.alloc _).cell]; rfl, by rw [b79.cell]; rfl, World.rowIs.alloc hrow8 _⟩
          b7 := b79
          own := OwnS.nil _ _, lists := OwnL.nil _ _
          fuel := hFl'
          flen := hFl'
          sum := rfl
          o1 := by omega, o2 := by omega, o3 := hgI6, o4 := by omega, o5 := by omega, o6 := by rw [hsz9]; exact Nat.le_refl _
          bel := hbw9 }
      have Hcl := Lib.hid hcl
      clear hcl hb9 b79 hd8 h58 hrow8 d08 hinv hfs8 hall hbw9 hsz9 hrow7 k5 hrow hr5 hrv hbr7 hb5 hb6 hb7 hs7 Hcs Hst7 Hsort HuB hb27
      have htW : ∀ X, Below w.heap.size w X → Tab X := fun X hX => hT.below hX
      have HtW := Lib.hid htW
      clear htW
      have hmk2 : ∀ i, mkM (revL l') i < 18446744073709551616 := fun i => u64_of hn40 (mkM_lt (n := n) (fun p hp => by have := (revL_vld Hv.out).1.2.2 p hp; omega) i)
      have Hmk2 := Lib.hid hmk2
      clear hmk2
      generalize (W8.alloc (.cells #[.int .u64 (allN n : Nat)] 70)) = W9 at *
      generalize W8.heap.size + 1 = B1 at *
      generalize w6.heap.size = p5 at *
      generalize W8.heap.size = p70 at *
      go_loopw [6, 7] (fun t6 t7 wr => ∃ (F : List Nat) (rest p7 f : Nat) (u : Value) (xs : List Value) (ls : List (List Int)), t7 = .pointer (some ⟨p7, 0, none⟩) ∧ CLp n l' w B1 p gI p5 (.slice (some ⟨gN, 0, none⟩) n n) (.slice (some ⟨gO, 0, none⟩) n n) (.slice (some ⟨gL, 0, none⟩) n n) (.int .i64 (s.ct : Nat)) v (.int .u64 (s.on : Nat)) F rest p7 f t6 u xs ls wr) (fun t6 _ _ => (compsL n l').length - lenV t6)
      case atStart => exact ⟨F', allN n, p70, n, u, [], [], rfl, Hcl.out⟩
      case round =>
        clear Hcl
        obtain ⟨F, rest, p7, f, u, xs, ls, rfl, hcl⟩ := hrel
        obtain ⟨A6, c6, rfl, hrs, hn6⟩ := hcl.own.forms3 hcl.lists
        have e7 : wr.cell? ⟨p7, 0, none⟩ = some (.int .u64 (rest : Nat)) := hcl.cap.c2
        have hrest : rest < 18446744073709551616 := u64_of hn40 hcl.inv.lt
        by_cases h0 : rest = 0
        case pos =>
          have hd : (((rest : Nat) : Int) != 0) = false := by subst h0; rfl
          have hfin : ls = compsL n l' := by
            have := hcl.sum
            rw [h0, compsF_zero] at this
            simpa using this
          have Hfin := Lib.hid hfin; have Hcl := Lib.hid hcl; have Hrs := Lib.hid hrs; have Hn6 := Lib.hid hn6
          clear h0 hcl hfin hrs hn6
          go_wp2_with fail
          go_ret
          rw [Hnn.out, ← Hfin.out]
          have hcl := Hcl.out
          have hB1 : w.heap.size ≤ B1 := by have := hcl.o1; have := hcl.o2; have := hcl.o3; have := hcl.o5; omega
          exact ⟨A6, c6, xs, rfl, hcl.own.mono hB1, hcl.lists.mono hB1, Hrs.out, Hn6.out, hcl.bel⟩
        case neg =>
          have hd : (((rest : Nat) : Int) != 0) = true := by rw [bne_iff_ne]; omega
          have Hcl := Lib.hid hcl
          have H0 := Lib.hid h0
          have hl' := Hv.out
          obtain ⟨k, hk, hok, hno, -, -⟩ := hcl.inv.next hl' h0 0
          have hflt : ∀ f ∈ F, f < 2 ^ n := fun f hf => hcl.inv.flt hf
          obtain ⟨g, cF, rfl, hpg, hgI', hFc, hcm, hH⟩ : ∃ g c, u = .slice (some ⟨g, 0, none⟩) F.length c ∧ p < g ∧ g < gI ∧ F.length ≤ c ∧ c ≤ maxLen ∧ HU wr g F := by
            rcases hcl.fs with ⟨_, e⟩ | h
            · subst e; exact absurd hk (Nat.not_lt_zero k)
            · exact h
          have hlN : ls.length < (compsL n l').length ∧ (compsL n l').length ≤ n := by
            obtain ⟨k2, hk2, _, _, hco, _⟩ := hcl.inv.next hl' h0 (f - 1)
            have hf1 : f - 1 + 1 = f := by have := hcl.fuel; omega
            rw [hf1] at hco
            refine ⟨?_, ?_⟩
            · have := congrArg List.length hcl.sum
              rw [List.length_append, List.length_map, hco, List.length_cons] at this
              omega
            · unfold compsL; rw [List.length_map]; exact compsF_len n l' n _
          have hFl3 : F.length ≤ n := hcl.flen
          have hxl : xs.length = ls.length := hcl.lists.1
          have e6 : wr.cell? ⟨p, 6, none⟩ = some (.slice (some ⟨g, 0, none⟩) F.length cF) := by rw [hcl.hd.cell]; rfl
          have hgw : g < wr.heap.size := by have h1 : p5 < wr.heap.size := lt_of_cell hcl.cap.c1; have := hcl.o3; omega
          have hidx := idxK_any (c := cF) hn40 hflt (by omega) hH hgw hcl.cap Hmk2.out hrest (HtW.out wr hcl.bel) hk hok hno
          have hmf : ∀ fn first cap w, (Instr.makeFunc fn first cap).run Tryd.prog w = .ok (.func fn first cap) w := fun _ _ _ _ => rfl
          have Hidx := Lib.hid hidx; have Hok := Lib.hid hok; have Hno := Lib.hid hno; have Hflt := Lib.hid hflt; have HlN := Lib.hid hlN; have Hxl := Lib.hid hxl; have Hrs := Lib.hid hrs; have Hn6 := Lib.hid hn6
          clear hidx hok hno hflt hlN hxl hrs hn6 hcl h0 hl' hH
          go_wp2_with fail
          refine Hidx.out.mono ?_
          rintro e w1 ⟨rfl, hb1⟩
          have hcl1 := (Hcl.out).below hb1
          have Hcl1 := Lib.hid hcl1
          have e61 : w1.cell? ⟨p, 6, none⟩ = some (.slice (some ⟨g, 0, none⟩) F.length cF) := by rw [hcl1.hd.cell]; rfl
          have hH1 : HU w1 g F := by
            rcases hcl1.fs with ⟨e, _⟩ | ⟨g2, c2, e, _, _, _, _, h⟩
            · cases e
            · injection e with e _ _; injection e with e; injection e with e _ _; subst e; exact h
          have ek1 := hH1.cell hk
          have hfk : F[k] < 18446744073709551616 := u64_of hn40 (Hflt.out _ (List.getElem_mem hk))
          have hkF : (k : Int) < (F.length : Int) := by omega
          have hT1 := HtW.out w1 hcl1.bel
          obtain ⟨fk, hfkE⟩ : ∃ y, F[k] = y := ⟨_, rfl⟩
          rw [hfkE] at ek1 hfk
          have Hfk := Lib.hid hfkE
          clear hfkE hcl1 hmf e6 e7 hd
          go_wp2_with fail
          refine (glist_any fk hfk w1 hT1).mono ?_
          rintro e w2 ⟨A5', c5', rfl, ho5, -, -, hb52⟩
          have hcl2 := (Hcl1.out).below hb52
          have hBw1 := (Hcl1.out).o6
          have ho5B := OwnI.mono ho5 hBw1
          have Hcl2 := Lib.hid hcl2
          have Ho5 := Lib.hid ho5B
          have hB2 := hcl2.o6
          have hown2 := hcl2.own
          have Hown2 := Lib.hid hown2
          have hxs : xs.length ≤ 1000000 := by rw [Hxl.out]; have := HlN.out; omega
          clear ho5 ho5B hcl2 hown2
          go_upto_region 16 with (at_builtin; refine wpList_appS (by rfl) _ _ (by rfl) w2 B1 _ xs A5' _ c5' Hown2.out (by rfl) (by rfl) hxs hB2 ?_; intro v6' w3 hown3 hb3 hg3; (obtain ⟨A7, n7, c7, rfl⟩ : ∃ A n c, v6' = .slice A n c := by (rcases hown3.2 with ⟨e, _⟩ | ⟨g, cap, cur, e, _⟩ <;> exact ⟨_, _, _, e⟩)))
          have hcl2 := Hcl2.out
          have o1 := hcl2.o1; have o2 := hcl2.o2; have o3 := hcl2.o3; have o4 := hcl2.o4; have o5 := hcl2.o5
          have b73 : Blk w3 p7 70 #[.int .u64 (rest : Nat)] := hcl2.b7.grown hg3 (fun e => hcl2.own.farU (cs := [.int .u64 (rest : Nat)]) hcl2.b7 e.symm)
          have hd3 := (show Blk w3 p _ _ from (hb3.block p (by omega)).trans hcl2.hd)
          have hH3 : HU w3 g F := by
            rcases hcl2.fs with ⟨e, _⟩ | ⟨g2, c2, e, _, _, _, _, h⟩
            · cases e
            · injection e with e _ _; injection e with e; injection e with e _ _; subst e
              exact h.block (hb3.block g (by omega))
          have e73 : w3.cell? ⟨p7, 0, none⟩ = some (.int .u64 (rest : Nat)) := by rw [b73.cell]; rfl
          have f73 := b73.frozen 0
          have e63 : w3.cell? ⟨p, 6, none⟩ = some (.slice (some ⟨g, 0, none⟩) F.length cF) := by rw [hd3.cell]; rfl
          have ek3 := hH3.cell hk
          rw [Hfk.out] at ek3
          have hmin := u64_minus rest fk hrest hfk
          have hk0 : (0 : Int) ≤ (k : Int) := by omega
          have hH4 : HU (w3.setCell ⟨p7, 0, none⟩ (.int .u64 (minusN rest fk : Nat))).drew g F := hH3.block (Below.heap_setCell w3 ⟨p7, 0, none⟩ _ g (by show g ≠ p7; omega))
          have hd4 : Blk (w3.setCell ⟨p7, 0, none⟩ (.int .u64 (minusN rest fk : Nat))).drew p 72 #[.slice (some ⟨gN, 0, none⟩) n n, .slice (some ⟨gO, 0, none⟩) n n, .slice (some ⟨gL, 0, none⟩) n n, .int .i64 (s.ct : Nat), v, .int .u64 (s.on : Nat), .slice (some ⟨g, 0, none⟩) F.length cF] := hd3.far (show p ≠ p7 by omega) _
          have b74 : Blk (w3.setCell ⟨p7, 0, none⟩ (.int .u64 (minusN rest fk : Nat))).drew p7 70 #[.int .u64 (minusN rest fk : Nat)] := b73.set_ 0 _
          have HH4 := Lib.hid hH4; have Hd4 := Lib.hid hd4; have B74 := Lib.hid b74; have Hhd3 := Lib.hid hd3
          clear hcl2 b73 hd3 hH3 hH4 hd4 b74 e61 ek1
          go_region
          generalize hW4 : (w3.setCell ⟨p7, 0, none⟩ (.int .u64 (minusN rest fk : Nat))).drew = W4 at *
          have HW4 := Lib.hid hW4
          clear hW4 e73 f73 e63 ek3 hmin
          have e64 : W4.cell? ⟨p, 6, none⟩ = some (.slice (some ⟨g, 0, none⟩) F.length cF) := by rw [(Hd4.out).cell]; rfl
          have hdel := delU_any HH4.out hFc hcm hk
          have Hdel := Lib.hid hdel
          clear hdel
          go_wp2_with fail
          refine Hdel.out.mono ?_
          rintro e X2 ⟨rfl, hH2, hg4⟩
          have hd2 : Blk X2 p _ _ := (Hd4.out).grown hg4 (fun e => by injection e with e; omega)
          have b72 : Blk X2 p7 _ _ := (B74.out).grown hg4 (fun e => by injection e with e; omega)
          have e62 : X2.cell? ⟨p, 6, none⟩ = some (.slice (some ⟨g, 0, none⟩) F.length cF) := by rw [hd2.cell]; rfl
          have f62 := hd2.frozen 6
          have e75 : (X2.setCell ⟨p, 6, none⟩ (.slice (some ⟨g, 0, none⟩) (F.length - 1) cF)).cell? ⟨p7, 0, none⟩ = some (.int .u64 (minusN rest fk : Nat)) := by rw [(b72.far (show p7 ≠ p by omega) _).cell]; rfl
          have hsz5 : (X2.setCell ⟨p, 6, none⟩ (.slice (some ⟨g, 0, none⟩) (F.length - 1) cF)).heap.size = X2.heap.size := by simp [World.setCell]
          clear e64 hd2 b72
          go_upto_region 18 with fail
          clear e62 f62
          generalize hW6 : X2.setCell ⟨p, 6, none⟩ (.slice (some ⟨g, 0, none⟩) (F.length - 1) cF) = W6 at *
          have HW6 := Lib.hid hW6; have Hsz5 := Lib.hid hsz5
          clear hW6 hsz5
          go_wp2_with fail
          have hX : ∃ f', CLp n l' w B1 p gI p5 (.slice (some ⟨gN, 0, none⟩) n n) (.slice (some ⟨gO, 0, none⟩) n n) (.slice (some ⟨gL, 0, none⟩) n n) (.int .i64 (s.ct : Nat)) v (.int .u64 (s.on : Nat)) (F.eraseIdx k) (minusN rest fk) W6.heap.size f' (.slice A7 n7 c7) (.slice (some ⟨g, 0, none⟩) (F.length - 1) cF) (xs ++ [.slice A5' (nodesB 64 fk.testBit).length c5']) (ls ++ [nodesB 64 fk.testBit]) (W6.alloc (.cells #[.int .u64 (minusN rest fk : Nat)] 70)) := by
            have h := (Hcl2.out).push hk hpg hgI' hFc hcm Hv.out H0.out Hok.out Hno.out (A := A5') (ca := c5') (v' := .slice A7 n7 c7) (X := w3) (by rw [Hfk.out]; exact Ho5.out) (by rw [Hfk.out]; exact hown3) hb3 hg3 (X2 := X2) hH2 (by rw [Hfk.out, HW4.out]; exact hg4)
            rw [Hfk.out, HW6.out] at h
            rw [Hsz5.out]
            exact h
          obtain ⟨f', hcf⟩ := hX
          have hlenv : lenV (.slice A7 n7 c7) = ls.length + 1 := by
            have h1 := (hcf.own.forms3 hcf.lists)
            obtain ⟨_, _, e, _⟩ := h1
            injection e with _ e _
            show n7 = _
            rw [e]; simp
          go_roundw
          case rel => exact ⟨_, _, _, f', _, _, _, rfl, hcf⟩
          case measure => have h1 := HlN.out; rw [hlenv]; show _ < (compsL n l').length - ls.length; omega
theorem gComponents_any (A : Option Addr) (N : Int) (l : List (Int × Int)) (c : Nat) (w : World) (hr : RP w A l) (hlen : l.length ≤ 100000) (hT : Tab w) :
    Calls Tryd.prog 15 #[.agg #[.int .i64 N, .slice A l.length c]] w (RetLs (compsL (nGn N l).toNat (nGl N l)) w) :=
  (gComponentsO_any A N l c w hr hlen hT).mono fun _ _ h => h.ls
end Go.Proofs.YtkflanjlnbdkmaaDoor
