/- layer 10, plain: a depth-first search finds the components (no program in sight). -/
import Derived.Test.YtkflanjlnbdkmaaGreatDoorRch
namespace Go.Proofs.YtkflanjlnbdkmaaGreatDoor
/-- i reaches a node -/
inductive Rc (E : Nat → Nat → Prop) (i : Nat) : Nat → Prop
  | refl : Rc E i i
  | tail {a b : Nat} : Rc E i a → E a b → Rc E i b
theorem Rc.trans {E : Nat → Nat → Prop} {a b c : Nat} (h : Rc E a b) (k : Rc E b c) : Rc E a c := by
  induction k with
  | refl => exact h
  | tail _ e ih => exact ih.tail e
theorem Rc.one {E : Nat → Nat → Prop} {a b : Nat} (e : E a b) : Rc E a b := Rc.refl.tail e
theorem Rc.stay {E : Nat → Nat → Prop} {z : Nat → Prop} (hz : ∀ a b, z a → E a b → z b) {a b : Nat} (h : Rc E a b) (ha : z a) : z b := by
  induction h with
  | refl => exact ha
  | tail _ e ih => exact hz _ _ ih e

/-- a value at one place -/
def updF (f : Nat → Nat) (i v : Nat) : Nat → Nat := fun x => if x = i then v else f x
@[simp] theorem updF_same (f : Nat → Nat) (i v : Nat) : updF f i v i = v := by simp [updF]
theorem updF_other (f : Nat → Nat) {i x : Nat} (v : Nat) (h : x ≠ i) : updF f i v x = f x := by simp [updF, h]

/-- the state of the depth-first search -/
structure TS where
  o : Nat → Nat
  lo : Nat → Nat
  ct : Nat
  S : List Nat
  on : Nat
  F : List Nat

structure TInv (n : Nat) (E : Nat → Nat → Prop) (G : List Nat) (s : TS) : Prop where
  ordS : s.S.Pairwise (fun x y => s.o x < s.o y)
  visS : ∀ x ∈ s.S, s.o x ≠ 0
  on : ∀ x, has s.on x ↔ x ∈ s.S
  onlt : s.on < 2 ^ n
  rng : ∀ x, s.o x ≠ 0 → x < n
  cnt : ∀ x, s.o x ≤ s.ct
  num : s.ct = (List.range n).countP fun x => decide (s.o x ≠ 0)
  len : s.S.length + s.F.length ≤ s.ct
  fnd : ∀ x, s.o x ≠ 0 → x ∈ s.S ∨ ∃ f ∈ s.F, has f x
  fvis : ∀ f ∈ s.F, ∀ x, has f x → s.o x ≠ 0 ∧ x ∉ s.S
  fscc : ∀ f ∈ s.F, f < 2 ^ n ∧ ∃ r, has f r ∧ ∀ x, has f x ↔ (Rc E r x ∧ Rc E x r)
  fdis : s.F.Pairwise (fun f g => ∀ x, has f x → ¬ has g x)
  fcl : ∀ f ∈ s.F, ∀ x, has f x → ∀ y, E x y → ∃ g ∈ s.F, has g y
  gS : ∀ g ∈ G, g ∈ s.S
  blk : ∀ x, s.o x ≠ 0 → x ∉ G → ∀ y, E x y → s.o y ≠ 0
  acc : ∀ x ∈ s.S, ∃ g ∈ G, s.o g ≤ s.o x ∧ Rc E x g
  fwd : ∀ x ∈ s.S, ∀ y ∈ s.S, s.o x ≤ s.o y → Rc E x y

structure TPost (n : Nat) (E : Nat → Nat → Prop) (G : List Nat) (s : TS) (i : Nat) (s' : TS) : Prop where
  inv : TInv n E G s'
  keepO : ∀ x, s.o x ≠ 0 → s'.o x = s.o x
  newO : ∀ x, s.o x = 0 → s'.o x ≠ 0 → s.ct < s'.o x
  keepL : ∀ x, s.o x ≠ 0 → s'.lo x = s.lo x
  vis : s'.o i ≠ 0
  stk : ∃ T, s'.S = s.S ++ T ∧ (∀ x ∈ T, s.o x = 0) ∧ ∀ x ∈ T, ∀ y ∈ s.S, E x y → s'.lo i ≤ s.o y
  low : s'.lo i = s'.o i ∨ ∃ y ∈ s.S, s.o y = s'.lo i ∧ Rc E i y
  ctle : s.ct < s'.ct

structure TLoop (n : Nat) (E : Nat → Nat → Prop) (G : List Nat) (s0 : TS) (i : Nat) (D : List Nat) (s : TS) : Prop where
  inv : TInv n E (i :: G) s
  keepO : ∀ x, s0.o x ≠ 0 → s.o x = s0.o x
  new : s0.o i = 0
  oi : s.o i = s0.ct + 1
  newO : ∀ x, s0.o x = 0 → s.o x ≠ 0 → x ≠ i → s0.ct + 1 < s.o x
  keepL : ∀ x, s0.o x ≠ 0 → s.lo x = s0.lo x
  stk : ∃ T, s.S = s0.S ++ i :: T ∧ (∀ x ∈ T, s0.o x = 0 ∧ x ≠ i) ∧ ∀ x ∈ T, ∀ y ∈ s0.S, E x y → s.lo i ≤ s0.o y
  low : s.lo i = s.o i ∨ ∃ y ∈ s0.S, s0.o y = s.lo i ∧ Rc E i y
  done : ∀ k ∈ D, s.o k ≠ 0 ∧ (k ∈ s0.S → s.lo i ≤ s0.o k)
  ctle : s0.ct + 1 ≤ s.ct
  old : TInv n E G s0
  gi : ∀ g ∈ G, Rc E g i

def TS.push (s : TS) (i : Nat) : TS := ⟨updF s.o i (s.ct + 1), updF s.lo i (s.ct + 1), s.ct + 1, s.S ++ [i], s.on ||| 1 <<< i, s.F⟩
def TS.setLo (s : TS) (i v : Nat) : TS := { s with lo := updF s.lo i v }
def TS.pop (s : TS) (S : List Nat) (set : Nat) : TS := { s with S := S, on := s.on &&& (s.on ^^^ set), F := s.F ++ [set] }

theorem countP_upd {n i : Nat} {f : Nat → Nat} {v : Nat} (hi : i < n) (h0 : f i = 0) (hv : v ≠ 0) :
    ((List.range n).countP fun x => decide (updF f i v x ≠ 0)) = ((List.range n).countP fun x => decide (f x ≠ 0)) + 1 := by
  induction n with
  | zero => omega
  | succ n ih =>
    rw [List.range_succ, List.countP_append, List.countP_append]
    by_cases h : i = n
    · subst h
      have : ∀ m, m ≤ i → ((List.range m).countP fun x => decide (updF f i v x ≠ 0)) = ((List.range m).countP fun x => decide (f x ≠ 0)) := by
        intro m hm
        apply List.countP_congr
        intro x hx
        have := List.mem_range.1 hx
        rw [updF_other _ _ (by omega)]
      rw [this i (Nat.le_refl _)]
      simp [h0, hv]
    · rw [ih (by omega)]
      have : updF f i v n = f n := updF_other _ _ (by omega)
      simp only [List.countP_singleton, this]
      omega

section
variable {n : Nat} {E : Nat → Nat → Prop}

/-- a white node is not counted yet -/
theorem TInv.room {G : List Nat} {s : TS} (h : TInv n E G s) {i : Nat} (hi : i < n) (h0 : s.o i = 0) : s.ct < n := by
  have h1 := countP_upd (v := 1) hi h0 (by decide)
  have h2 : ((List.range n).countP fun x => decide (updF s.o i 1 x ≠ 0)) ≤ n := by
    have := List.countP_le_length (p := fun x => decide (updF s.o i 1 x ≠ 0)) (l := List.range n)
    simpa using this
  have := h.num
  omega

theorem t_enter {G : List Nat} {s : TS} {i : Nat} (h : TInv n E G s) (hi : i < n) (h0 : s.o i = 0) (hg : ∀ g ∈ G, Rc E g i) : TLoop n E G s i [] (s.push i) := by
  have hiS : i ∉ s.S := fun hm => h.visS i hm h0
  have hne : ∀ x, s.o x ≠ 0 → x ≠ i := fun x hx e => hx (e ▸ h0)
  have ho : ∀ x, s.o x ≠ 0 → (s.push i).o x = s.o x := fun x hx => updF_other _ _ (hne x hx)
  have hoS : ∀ x ∈ s.S, (s.push i).o x = s.o x := fun x hx => ho x (h.visS x hx)
  have hoi : (s.push i).o i = s.ct + 1 := updF_same _ _ _
  have hvis : ∀ x, (s.push i).o x ≠ 0 → x = i ∨ s.o x ≠ 0 := fun x hx => by
    by_cases e : x = i
    · exact Or.inl e
    · exact Or.inr (by rwa [show (s.push i).o x = s.o x from updF_other _ _ e] at hx)
  have hkeep : ∀ x, s.o x ≠ 0 → (s.push i).o x ≠ 0 := fun x hx => by rw [ho x hx]; exact hx
  refine ⟨⟨?_, ?_, ?_, ?_, ?_, ?_, ?_, ?_, ?_, ?_, h.fscc, h.fdis, h.fcl, ?_, ?_, ?_, ?_⟩, ho, h0, hoi, ?_, ?_, ⟨[], rfl, ?_, ?_⟩, Or.inl ?_, ?_, Nat.le_refl _, h, hg⟩
  · refine List.pairwise_append.2 ⟨h.ordS.imp_of_mem fun {a b} ha hb hab => ?_, List.pairwise_singleton .., fun a ha b hb => ?_⟩
    · rw [hoS a ha, hoS b hb]; exact hab
    · rw [List.mem_singleton] at hb; subst hb
      rw [hoS a ha, hoi]; have := h.cnt a; omega
  · intro x hx
    rcases List.mem_append.1 hx with hx | hx
    · exact hkeep x (h.visS x hx)
    · rw [List.mem_singleton] at hx; subst hx; rw [hoi]; omega
  · intro x
    show has (s.on ||| 1 <<< i) x ↔ x ∈ s.S ++ [i]
    rw [has_or, h.on, has_one, List.mem_append, List.mem_singleton]
  · exact or_lt h.onlt (one_lt hi)
  · intro x hx
    rcases hvis x hx with rfl | hx
    · exact hi
    · exact h.rng x hx
  · intro x
    show updF s.o i (s.ct + 1) x ≤ s.ct + 1
    unfold updF; split
    · omega
    · have := h.cnt x; omega
  · show s.ct + 1 = _
    rw [show (s.push i).o = updF s.o i (s.ct + 1) from rfl, countP_upd hi h0 (by omega), ← h.num]
  · show (s.S ++ [i]).length + s.F.length ≤ s.ct + 1
    have := h.len; simp; omega
  · intro x hx
    rcases hvis x hx with rfl | hx
    · exact Or.inl (by show x ∈ s.S ++ [x]; simp)
    · rcases h.fnd x hx with hx | hx
      · exact Or.inl (by show x ∈ s.S ++ [i]; simp [hx])
      · exact Or.inr hx
  · intro f hf x hx
    obtain ⟨h1, h2⟩ := h.fvis f hf x hx
    refine ⟨hkeep x h1, fun hm => ?_⟩
    rcases List.mem_append.1 hm with hm | hm
    · exact h2 hm
    · exact hne x h1 (List.mem_singleton.1 hm)
  · intro g hg'
    show g ∈ s.S ++ [i]
    rcases List.mem_cons.1 hg' with rfl | hg'
    · simp
    · simp [h.gS g hg']
  · intro x hx hxG y e
    rcases hvis x hx with rfl | hx
    · exact absurd (List.mem_cons_self) hxG
    · exact hkeep y (h.blk x hx (fun hm => hxG (List.mem_cons_of_mem _ hm)) y e)
  · intro x hx
    rcases List.mem_append.1 hx with hx | hx
    · obtain ⟨g, hgG, h1, h2⟩ := h.acc x hx
      exact ⟨g, List.mem_cons_of_mem _ hgG, by rw [hoS g (h.gS g hgG), hoS x hx]; exact h1, h2⟩
    · rw [List.mem_singleton] at hx; subst hx
      exact ⟨x, List.mem_cons_self, Nat.le_refl _, Rc.refl⟩
  · intro x hx y hy hxy
    rcases List.mem_append.1 hx with hx1 | hx
    · rcases List.mem_append.1 hy with hy | hy
      · rw [hoS x hx1, hoS y hy] at hxy
        exact h.fwd x hx1 y hy hxy
      · rw [List.mem_singleton] at hy; subst hy
        obtain ⟨g, hgG, _, h2⟩ := h.acc x hx1
        exact h2.trans (hg g hgG)
    · rw [List.mem_singleton] at hx; subst hx
      rcases List.mem_append.1 hy with hy | hy
      · rw [hoi, hoS y hy] at hxy; have := h.cnt y; omega
      · rw [List.mem_singleton] at hy; subst hy; exact Rc.refl
  · intro x hx hx' hxi
    rcases hvis x hx' with rfl | h1
    · exact absurd rfl hxi
    · exact absurd hx h1
  · intro x hx
    exact updF_other _ _ (hne x hx)
  · simp
  · simp
  · show updF s.lo i _ i = updF s.o i _ i
    rw [updF_same, updF_same]
  · simp

/-- only the row of low changes -/
theorem TInv.setLo {G : List Nat} {s : TS} (h : TInv n E G s) (i v : Nat) : TInv n E G (s.setLo i v) :=
  ⟨h.ordS, h.visS, h.on, h.onlt, h.rng, h.cnt, h.num, h.len, h.fnd, h.fvis, h.fscc, h.fdis, h.fcl, h.gS, h.blk, h.acc, h.fwd⟩

theorem t_child {G : List Nat} {s0 s s' : TS} {i k : Nat} {D : List Nat} (h : TLoop n E G s0 i D s) (p : TPost n E (i :: G) s k s') (hk : s.o k = 0) (e : E i k) :
    TLoop n E G s0 i (D ++ [k]) (s'.setLo i (min (s'.lo i) (s'.lo k))) := by
  obtain ⟨T, hS, hT1, hT2⟩ := h.stk
  obtain ⟨U, hS', hU1, hU2⟩ := p.stk
  have hoi0 : s.o i ≠ 0 := by rw [h.oi]; omega
  have hki : k ≠ i := fun e => hoi0 (e ▸ hk)
  have hli : s'.lo i = s.lo i := p.keepL i hoi0
  have hle : s.lo i ≤ s.o i := by
    rcases h.low with hl | ⟨y, hy, hl, _⟩
    · omega
    · have := h.old.cnt y; have := h.oi; omega
  have hvis0 : ∀ x, s0.o x ≠ 0 → s.o x ≠ 0 := fun x hx => by rw [h.keepO x hx]; exact hx
  have hmem0 : ∀ y ∈ s0.S, y ∈ s.S := fun y hy => by rw [hS]; simp [hy]
  have hlo : (s'.setLo i (min (s'.lo i) (s'.lo k))).lo i = min (s.lo i) (s'.lo k) := by
    show updF _ _ _ _ = _
    rw [updF_same, hli]
  have hok : s.ct < s'.o k := p.newO k hk p.vis
  refine ⟨p.inv.setLo _ _, ?_, h.new, ?_, ?_, ?_, ⟨T ++ U, ?_, ?_, ?_⟩, ?_, ?_, ?_, h.old, h.gi⟩
  · intro x hx
    show s'.o x = _
    rw [p.keepO x (hvis0 x hx), h.keepO x hx]
  · show s'.o i = _
    rw [p.keepO i hoi0, h.oi]
  · intro x hx hx' hxi
    show s0.ct + 1 < s'.o x
    by_cases hsx : s.o x = 0
    · have := p.newO x hsx hx'; have := h.ctle; omega
    · rw [p.keepO x hsx]; exact h.newO x hx hsx hxi
  · intro x hx
    have hxi : x ≠ i := fun e => hx (e ▸ h.new)
    show updF _ _ _ x = _
    rw [updF_other _ _ hxi, p.keepL x (hvis0 x hx), h.keepL x hx]
  · show s'.S = _
    rw [hS', hS]; simp
  · intro x hx
    rcases List.mem_append.1 hx with hx | hx
    · exact hT1 x hx
    · have h1 := hU1 x hx
      exact ⟨Classical.byContradiction fun h2 => hvis0 x h2 h1, fun e => hoi0 (e ▸ h1)⟩
  · intro x hx y hy exy
    rw [hlo]
    rcases List.mem_append.1 hx with hx | hx
    · exact Nat.le_trans (Nat.min_le_left ..) (hT2 x hx y hy exy)
    · have := hU2 x hx y (hmem0 y hy) exy
      rw [h.keepO y (h.old.visS y hy)] at this
      exact Nat.le_trans (Nat.min_le_right ..) this
  · rw [hlo]
    have hoi' : (s'.setLo i (min (s'.lo i) (s'.lo k))).o i = s.o i := p.keepO i hoi0
    rw [hoi']
    have hstay : s.lo i ≤ s'.lo k → (min (s.lo i) (s'.lo k) = s.o i ∨ ∃ y ∈ s0.S, s0.o y = min (s.lo i) (s'.lo k) ∧ Rc E i y) := fun hm => by
      rw [Nat.min_eq_left hm]; exact h.low
    rcases p.low with hl | ⟨y, hy, hl, hr⟩
    · refine hstay ?_
      have := h.inv.cnt i; omega
    · by_cases hm : s.lo i ≤ s'.lo k
      · exact hstay hm
      · rw [Nat.min_eq_right (by omega)]
        rw [hS] at hy
        rcases List.mem_append.1 hy with hy | hy
        · refine Or.inr ⟨y, hy, ?_, (Rc.one e).trans hr⟩
          rw [← h.keepO y (h.old.visS y hy)]; exact hl
        · rcases List.mem_cons.1 hy with rfl | hy
          · omega
          · have h1 := h.newO y (hT1 y hy).1 (h.inv.visS y (by rw [hS]; simp [hy])) (hT1 y hy).2
            have := h.oi
            omega
  · intro x hx
    rw [hlo]
    rcases List.mem_append.1 hx with hx | hx
    · obtain ⟨h1, h2⟩ := h.done x hx
      refine ⟨by show s'.o x ≠ 0; rw [p.keepO x h1]; exact h1, fun hm => Nat.le_trans (Nat.min_le_left ..) (h2 hm)⟩
    · rw [List.mem_singleton] at hx; subst hx
      exact ⟨p.vis, fun hm => absurd hk (hvis0 x (h.old.visS x hm))⟩
  · have := h.ctle; have := p.ctle; show _ ≤ s'.ct; omega

theorem t_stack {G : List Nat} {s0 s : TS} {i k : Nat} {D : List Nat} (h : TLoop n E G s0 i D s) (hk : s.o k ≠ 0) (hon : has s.on k) (e : E i k) :
    TLoop n E G s0 i (D ++ [k]) (s.setLo i (min (s.lo i) (s.o k))) := by
  obtain ⟨T, hS, hT1, hT2⟩ := h.stk
  have hle : s.lo i ≤ s.o i := by
    rcases h.low with hl | ⟨y, hy, hl, _⟩
    · omega
    · have := h.old.cnt y; have := h.oi; omega
  have hlo : (s.setLo i (min (s.lo i) (s.o k))).lo i = min (s.lo i) (s.o k) := updF_same _ _ _
  refine ⟨h.inv.setLo _ _, h.keepO, h.new, h.oi, h.newO, ?_, ⟨T, hS, hT1, ?_⟩, ?_, ?_, h.ctle, h.old, h.gi⟩
  · intro x hx
    have hxi : x ≠ i := fun e => hx (e ▸ h.new)
    show updF _ _ _ x = _
    rw [updF_other _ _ hxi, h.keepL x hx]
  · intro x hx y hy exy
    rw [hlo]
    exact Nat.le_trans (Nat.min_le_left ..) (hT2 x hx y hy exy)
  · rw [hlo]
    show _ = s.o i ∨ _
    by_cases hm : s.lo i ≤ s.o k
    · rw [Nat.min_eq_left hm]; exact h.low
    · rw [Nat.min_eq_right (by omega)]
      have hy := (h.inv.on k).1 hon
      rw [hS] at hy
      rcases List.mem_append.1 hy with hy | hy
      · exact Or.inr ⟨k, hy, (h.keepO k (h.old.visS k hy)).symm, Rc.one e⟩
      · rcases List.mem_cons.1 hy with rfl | hy
        · exact Or.inl rfl
        · have h1 := h.newO k (hT1 k hy).1 hk (hT1 k hy).2
          have := h.oi
          omega
  · intro x hx
    rw [hlo]
    rcases List.mem_append.1 hx with hx | hx
    · obtain ⟨h1, h2⟩ := h.done x hx
      exact ⟨h1, fun hm => Nat.le_trans (Nat.min_le_left ..) (h2 hm)⟩
    · rw [List.mem_singleton] at hx; subst hx
      exact ⟨hk, fun hm => by rw [← h.keepO x (h.old.visS x hm)]; exact Nat.min_le_right ..⟩

theorem t_other {G : List Nat} {s0 s : TS} {i k : Nat} {D : List Nat} (h : TLoop n E G s0 i D s) (hk : s.o k ≠ 0) (hon : ¬ has s.on k) :
    TLoop n E G s0 i (D ++ [k]) s := by
  obtain ⟨T, hS, _⟩ := h.stk
  refine { h with done := fun x hx => ?_ }
  rcases List.mem_append.1 hx with hx | hx
  · exact h.done x hx
  · rw [List.mem_singleton] at hx; subst hx
    exact ⟨hk, fun hm => absurd ((h.inv.on x).2 (by rw [hS]; simp [hm])) hon⟩

theorem t_keep {G : List Nat} {s0 s : TS} {i : Nat} {D : List Nat} (h : TLoop n E G s0 i D s) (hD : ∀ y, E i y → y ∈ D) (hlt : s.lo i < s.o i) : TPost n E G s0 i s := by
  obtain ⟨T, hS, hT1, hT2⟩ := h.stk
  have hoi0 : s.o i ≠ 0 := by rw [h.oi]; omega
  have hG0 : ∀ g ∈ G, g ∈ s0.S := h.old.gS
  have hmem0 : ∀ y ∈ s0.S, y ∈ s.S := fun y hy => by rw [hS]; simp [hy]
  obtain ⟨y, hy, hl, hr⟩ : ∃ y ∈ s0.S, s0.o y = s.lo i ∧ Rc E i y := by
    rcases h.low with hl | hl
    · omega
    · exact hl
  have hygi : s.o y < s.o i := by rw [h.keepO y (h.old.visS y hy)]; omega
  obtain ⟨g0, hg0, hgo, hgr⟩ := h.old.acc y hy
  have hg0o : s.o g0 = s0.o g0 := h.keepO g0 (h.old.visS g0 (hG0 g0 hg0))
  have hyo : s.o y = s0.o y := h.keepO y (h.old.visS y hy)
  refine ⟨⟨h.inv.ordS, h.inv.visS, h.inv.on, h.inv.onlt, h.inv.rng, h.inv.cnt, h.inv.num, h.inv.len, h.inv.fnd, h.inv.fvis, h.inv.fscc, h.inv.fdis, h.inv.fcl, fun g hg => h.inv.gS g (List.mem_cons_of_mem _ hg), ?_, ?_, h.inv.fwd⟩, h.keepO, ?_, h.keepL, hoi0, ⟨i :: T, hS, ?_, ?_⟩, Or.inr ⟨y, hy, hl, hr⟩, by have := h.ctle; omega⟩
  · intro x hx hxG z e
    by_cases hxi : x = i
    · subst hxi; exact (h.done z (hD z e)).1
    · exact h.inv.blk x hx (fun hm => by
        rcases List.mem_cons.1 hm with hm | hm
        · exact hxi hm
        · exact hxG hm) z e
  · intro x hx
    obtain ⟨g, hg, h1, h2⟩ := h.inv.acc x hx
    rcases List.mem_cons.1 hg with rfl | hg
    · exact ⟨g0, hg0, by omega, h2.trans (hr.trans hgr)⟩
    · exact ⟨g, hg, h1, h2⟩
  · intro x hx hx'
    by_cases hxi : x = i
    · subst hxi; rw [h.oi]; omega
    · have := h.newO x hx hx' hxi; omega
  · intro x hx
    rcases List.mem_cons.1 hx with rfl | hx
    · exact h.new
    · exact (hT1 x hx).1
  · intro x hx z hz e
    rcases List.mem_cons.1 hx with rfl | hx
    · exact (h.done z (hD z e)).2 hz
    · exact hT2 x hx z hz e

theorem t_pop {G : List Nat} {s0 s : TS} {i : Nat} {D : List Nat} (h : TLoop n E G s0 i D s) (hD : ∀ y, E i y → y ∈ D) (hge : ¬ s.lo i < s.o i) {T : List Nat} (hS : s.S = s0.S ++ i :: T) {set : Nat} (hset : ∀ x, has set x ↔ x ∈ i :: T) (hlt : set < 2 ^ n) (on' : Nat) (hon : ∀ x, has on' x ↔ has s.on x ∧ ¬ has set x) (honl : on' < 2 ^ n) :
    TPost n E G s0 i { s with S := s0.S, on := on', F := s.F ++ [set] } := by
  obtain ⟨T', hS', hT1, hT2⟩ := h.stk
  obtain rfl : T' = T := by
    have := hS'.symm.trans hS
    have := List.append_cancel_left this
    injection this
  have hoi0 : s.o i ≠ 0 := by rw [h.oi]; omega
  have hli : s.lo i = s.o i := by
    rcases h.low with hl | ⟨y, hy, hl, _⟩
    · exact hl
    · have := h.old.cnt y; have := h.oi; omega
  have hmem0 : ∀ y ∈ s0.S, y ∈ s.S := fun y hy => by rw [hS]; simp [hy]
  have hmemC : ∀ y ∈ i :: T', y ∈ s.S := fun y hy => by rw [hS]; exact List.mem_append.2 (Or.inr hy)
  have hpw := h.inv.ordS
  rw [hS] at hpw
  obtain ⟨hpw0, hpwC, hpwX⟩ := List.pairwise_append.1 hpw
  have hdisj : ∀ x ∈ i :: T', x ∉ s0.S := fun x hx h0 => by have := hpwX x h0 x hx; omega
  have hiS : ∀ x ∈ i :: T', s.o i ≤ s.o x := fun x hx => by
    rcases List.mem_cons.1 hx with rfl | hx
    · exact Nat.le_refl _
    · exact Nat.le_of_lt ((List.pairwise_cons.1 hpwC).1 x hx)
  have hto : ∀ x ∈ i :: T', Rc E i x := fun x hx => h.inv.fwd i (hmemC i List.mem_cons_self) x (hmemC x hx) (hiS x hx)
  have hfrom : ∀ x ∈ i :: T', Rc E x i := fun x hx => by
    obtain ⟨g, hg, _, hr⟩ := h.inv.acc x (hmemC x hx)
    rcases List.mem_cons.1 hg with rfl | hg
    · exact hr
    · exact hr.trans (h.gi g hg)
  have hvisE : ∀ x ∈ i :: T', ∀ y, E x y → s.o y ≠ 0 := fun x hx y e => by
    by_cases hxi : x = i
    · subst hxi; exact (h.done y (hD y e)).1
    · refine h.inv.blk x (h.inv.visS x (hmemC x hx)) (fun hm => ?_) y e
      rcases List.mem_cons.1 hm with hm | hm
      · exact hxi hm
      · exact hdisj x hx (h.old.gS x hm)
  have hclo : ∀ x ∈ i :: T', ∀ y, E x y → y ∈ i :: T' ∨ ∃ f ∈ s.F, has f y := fun x hx y e => by
    rcases h.inv.fnd y (hvisE x hx y e) with hy | hy
    · rw [hS] at hy
      rcases List.mem_append.1 hy with hy1 | hy
      · exfalso
        have h1 : s.lo i ≤ s0.o y := by
          rcases List.mem_cons.1 hx with rfl | hx
          · exact (h.done y (hD y e)).2 hy1
          · exact hT2 x hx y hy1 e
        have := h.old.cnt y; have := h.oi; omega
      · exact Or.inl hy
    · exact Or.inr hy
  have hscc : ∀ x, x ∈ i :: T' ↔ Rc E i x ∧ Rc E x i := fun x => by
    refine ⟨fun hx => ⟨hto x hx, hfrom x hx⟩, fun ⟨h1, h2⟩ => ?_⟩
    have := Rc.stay (z := fun y => y ∈ i :: T' ∨ ∃ f ∈ s.F, has f y) (fun a b ha e => by
      rcases ha with ha | ⟨f, hf, ha⟩
      · exact hclo a ha b e
      · exact Or.inr (h.inv.fcl f hf a ha b e)) h1 (Or.inl List.mem_cons_self)
    rcases this with hx | ⟨f, hf, hx⟩
    · exact hx
    · exfalso
      have := Rc.stay (z := fun y => ∃ f ∈ s.F, has f y) (fun a b ⟨f, hf, ha⟩ e => h.inv.fcl f hf a ha b e) h2 ⟨f, hf, hx⟩
      obtain ⟨f, hf, hi⟩ := this
      exact (h.inv.fvis f hf i hi).2 (hmemC i List.mem_cons_self)
  have hlast : ∀ x ∈ s.F ++ [set], x ∈ s.F ∨ x = set := fun x hx => by
    rcases List.mem_append.1 hx with hx | hx
    · exact Or.inl hx
    · exact Or.inr (List.mem_singleton.1 hx)
  have hG0 : ∀ g ∈ G, g ∈ s0.S := h.old.gS
  refine ⟨⟨hpw0, fun x hx => h.inv.visS x (hmem0 x hx), ?_, honl, h.inv.rng, h.inv.cnt, h.inv.num, ?_, ?_, ?_, ?_, ?_, ?_, hG0, ?_, ?_, fun x hx y hy hxy => h.inv.fwd x (hmem0 x hx) y (hmem0 y hy) hxy⟩, h.keepO, ?_, h.keepL, hoi0, ⟨[], by simp, by simp, by simp⟩, Or.inl hli, by have := h.ctle; show s0.ct < s.ct; omega⟩
  · intro x
    show has on' x ↔ x ∈ s0.S
    rw [hon, h.inv.on, hset, hS, List.mem_append]
    constructor
    · rintro ⟨h1 | h1, h2⟩
      · exact h1
      · exact absurd h1 h2
    · intro h1; exact ⟨Or.inl h1, fun h2 => hdisj x h2 h1⟩
  · have := h.inv.len
    rw [hS] at this
    show s0.S.length + (s.F ++ [set]).length ≤ s.ct
    simp at this ⊢
    omega
  · intro x hx
    rcases h.inv.fnd x hx with hx | ⟨f, hf, hx⟩
    · rw [hS] at hx
      rcases List.mem_append.1 hx with hx | hx
      · exact Or.inl hx
      · exact Or.inr ⟨set, by simp, (hset x).2 hx⟩
    · exact Or.inr ⟨f, by simp [hf], hx⟩
  · intro f hf x hx
    rcases hlast f hf with hf | rfl
    · obtain ⟨h1, h2⟩ := h.inv.fvis f hf x hx
      exact ⟨h1, fun hm => h2 (hmem0 x hm)⟩
    · have := (hset x).1 hx
      exact ⟨h.inv.visS x (hmemC x this), hdisj x this⟩
  · intro f hf
    rcases hlast f hf with hf | rfl
    · exact h.inv.fscc f hf
    · exact ⟨hlt, i, (hset i).2 List.mem_cons_self, fun x => (hset x).trans (hscc x)⟩
  · refine List.pairwise_append.2 ⟨h.inv.fdis, List.pairwise_singleton .., fun f hf g hg x hx hx' => ?_⟩
    rw [List.mem_singleton] at hg; subst hg
    exact (h.inv.fvis f hf x hx).2 (hmemC x ((hset x).1 hx'))
  · intro f hf x hx y e
    rcases hlast f hf with hf | rfl
    · obtain ⟨g, hg, hy⟩ := h.inv.fcl f hf x hx y e
      exact ⟨g, by simp [hg], hy⟩
    · rcases hclo x ((hset x).1 hx) y e with hy | ⟨g, hg, hy⟩
      · exact ⟨f, by simp, (hset y).2 hy⟩
      · exact ⟨g, by simp [hg], hy⟩
  · intro x hx hxG y e
    by_cases hxi : x = i
    · subst hxi; exact hvisE x List.mem_cons_self y e
    · exact h.inv.blk x hx (fun hm => by
        rcases List.mem_cons.1 hm with hm | hm
        · exact hxi hm
        · exact hxG hm) y e
  · intro x hx
    obtain ⟨g, hg, h1, h2⟩ := h.inv.acc x (hmem0 x hx)
    rcases List.mem_cons.1 hg with rfl | hg
    · exact absurd (hpwX x hx g List.mem_cons_self) (by show ¬ s.o x < s.o g; omega)
    · exact ⟨g, hg, h1, h2⟩
  · intro x hx hx'
    by_cases hxi : x = i
    · subst hxi; show s0.ct < s.o x; rw [h.oi]; omega
    · have := h.newO x hx hx' hxi; show s0.ct < s.o x; omega
end
end Go.Proofs.YtkflanjlnbdkmaaGreatDoor
