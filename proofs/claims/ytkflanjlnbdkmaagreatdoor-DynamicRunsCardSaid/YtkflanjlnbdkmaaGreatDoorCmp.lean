/- layer 10, plain: the components in their order. -/
import Derived.Test.YtkflanjlnbdkmaaGreatDoorTar
namespace Go.Proofs.YtkflanjlnbdkmaaGreatDoor

/-- whether a node reaches another one -/
def rchB (n : Nat) (l : List (Int × Int)) (i j : Nat) : Bool := (reachM n l i).testBit j
theorem rch_iff {n : Nat} {l : List (Int × Int)} (hv : InR n l) {i j : Nat} (hi : i < n) : rchB n l i j = true ↔ Rc (att l) i j :=
  ⟨fun h => reach_least hv (z := Rc (att l) i) (fun _ _ ha e => ha.tail e) Rc.refl j h,
   fun h => Rc.stay (z := fun y => has (reachM n l i) y) (fun _ _ ha e => reach_step hv hi ha e) h (reach_self hv i)⟩
theorem rch_lt {n : Nat} {l : List (Int × Int)} (hv : InR n l) {i j : Nat} (hi : i < n) (h : Rc (att l) i j) : j < n :=
  Rc.stay (z := fun y => y < n) (fun _ _ _ e => (att_lt hv e).2) h hi
/-- the component of a node -/
def sccM (n : Nat) (l : List (Int × Int)) (i : Nat) : Nat := maskN (nodesB n fun j => rchB n l i j && rchB n l j i)
theorem has_scc {n : Nat} {l : List (Int × Int)} (hv : InR n l) {i j : Nat} (hi : i < n) : has (sccM n l i) j ↔ Rc (att l) i j ∧ Rc (att l) j i := by
  unfold sccM
  rw [mask_nodesB]
  constructor
  · rintro ⟨hj, h⟩
    rw [Bool.and_eq_true] at h
    exact ⟨(rch_iff hv hi).1 h.1, (rch_iff hv hj).1 h.2⟩
  · rintro ⟨h1, h2⟩
    have hj := rch_lt hv hi h1
    exact ⟨hj, by rw [(rch_iff hv hi).2 h1, (rch_iff hv hj).2 h2]; rfl⟩
theorem scc_lt {n : Nat} {l : List (Int × Int)} (i : Nat) : sccM n l i < 2 ^ n := Nat.lt_pow_two_of_testBit _ fun j hj => by
  cases h : (sccM n l i).testBit j
  · rfl
  · have : has (sccM n l i) j := h
    unfold sccM at this
    have := (mask_nodesB.1 this).1
    omega
theorem scc_self {n : Nat} {l : List (Int × Int)} (hv : InR n l) {i : Nat} (hi : i < n) : has (sccM n l i) i := (has_scc hv hi).2 ⟨Rc.refl, Rc.refl⟩
theorem scc_same {n : Nat} {l : List (Int × Int)} (hv : InR n l) {i j : Nat} (hi : i < n) (h : has (sccM n l i) j) : sccM n l j = sccM n l i := by
  obtain ⟨h1, h2⟩ := (has_scc hv hi).1 h
  have hj := rch_lt hv hi h1
  exact has_ext fun x => by
    rw [has_scc hv hi, has_scc hv hj]
    exact ⟨fun ⟨a, b⟩ => ⟨h1.trans a, b.trans h2⟩, fun ⟨a, b⟩ => ⟨h2.trans a, b.trans h1⟩⟩

/-- whether the component of a node may be the next one, where 'rest' is left -/
def freeI (n : Nat) (l : List (Int × Int)) (rest i : Nat) : Bool := rest.testBit i && (List.range n).all fun k => !rest.testBit k || !rchB n l k i || rchB n l i k
theorem freeI_iff {n : Nat} {l : List (Int × Int)} (hv : InR n l) {rest i : Nat} (hr : rest < 2 ^ n) : freeI n l rest i = true ↔ has rest i ∧ ∀ k, has rest k → Rc (att l) k i → Rc (att l) i k := by
  unfold freeI
  rw [Bool.and_eq_true, List.all_eq_true]
  refine and_congr_right fun hi => ?_
  have hi' := has_lt hr hi
  constructor
  · intro h k hk hki
    have hk' := has_lt hr hk
    have := h k (List.mem_range.2 hk')
    rw [show rest.testBit k = true from hk, (rch_iff hv hk').2 hki] at this
    exact (rch_iff hv hi').1 (by simpa using this)
  · intro h k hk
    have hk' := List.mem_range.1 hk
    by_cases h1 : rest.testBit k = true
    · by_cases h2 : rchB n l k i = true
      · rw [(rch_iff hv hi').2 (h k h1 ((rch_iff hv hk').1 h2))]; simp
      · simp [h2]
    · simp [h1]

/-- the components in their order, as sets -/
def compsF (n : Nat) (l : List (Int × Int)) : Nat → Nat → List Nat
  | 0, _ => []
  | f + 1, rest => match (List.range n).find? (freeI n l rest) with
    | none => []
    | some i => sccM n l i :: compsF n l f (minusN rest (sccM n l i))
/-- the components in their order -/
def compsL (n : Nat) (l : List (Int × Int)) : List (List Int) := (compsF n l n (2 ^ n - 1)).map fun m => nodesB 64 m.testBit

/-- no node of what is left attacks a set from outside -/
def okC (l : List (Int × Int)) (rest set : Nat) : Bool := !(nodesB 64 set.testBit).any fun i => minusN (mkM (revL l) i.toNat &&& rest) set != 0

structure CInv (n : Nat) (l : List (Int × Int)) (F : List Nat) (rest : Nat) : Prop where
  lt : rest < 2 ^ n
  scc : ∀ f ∈ F, ∃ r, r < n ∧ f = sccM n l r
  cov : ∀ x, has rest x ↔ ∃ f ∈ F, has f x
  srt : F.Pairwise fun f g => Lib.ctz 64 f < Lib.ctz 64 g
  dis : F.Pairwise fun f g => ∀ x, has f x → ¬ has g x
  clo : ∀ a b, has rest a → att l a b → has rest b

section
variable {n : Nat} {l : List (Int × Int)}
theorem p40 (hn : n ≤ 40) {m : Nat} (h : m < 2 ^ n) : m < 18446744073709551616 :=
  Nat.lt_of_lt_of_le h (Nat.le_trans (Nat.pow_le_pow_right (by omega) hn) (by decide))
theorem CInv.flt {F : List Nat} {rest : Nat} (h : CInv n l F rest) {f : Nat} (hf : f ∈ F) : f < 2 ^ n := by
  obtain ⟨r, _, rfl⟩ := h.scc f hf; exact scc_lt r
theorem CInv.fne (hv : InR n l) {F : List Nat} {rest : Nat} (h : CInv n l F rest) {f : Nat} (hf : f ∈ F) : f ≠ 0 := by
  obtain ⟨r, hr, rfl⟩ := h.scc f hf
  intro e
  have := scc_self hv hr
  rw [e] at this
  simp [has] at this
theorem CInv.sub {F : List Nat} {rest : Nat} (h : CInv n l F rest) {f : Nat} (hf : f ∈ F) {x : Nat} (hx : has f x) : has rest x := (h.cov x).2 ⟨f, hf, hx⟩

theorem okC_iff (hv : Vld n l) {rest set : Nat} (hr : rest < 2 ^ n) (hs : set < 2 ^ n) : okC l rest set = true ↔ ∀ i a, has set i → att l a i → has rest a → has set a := by
  have hr64 := p40 hv.1.1 hr
  have hs64 := p40 hv.1.1 hs
  have hand : ∀ m, m &&& rest < 18446744073709551616 := fun m => Nat.lt_of_le_of_lt Nat.and_le_right hr64
  unfold okC
  rw [Bool.not_eq_true', Bool.eq_false_iff, ne_eq, List.any_eq_true]
  constructor
  · intro h i a hi e ha
    refine Classical.byContradiction fun hna => h ⟨(i : Int), mem_nodesB.2 ⟨i, ?_, hi, rfl⟩, ?_⟩
    · have := has_lt hs hi; have := hv.1.1; omega
    · rw [bne_iff_ne]
      intro e0
      have : has (minusN (mkM (revL l) (i : Int).toNat &&& rest) set) a := (has_minusN (hand _) hs64).2 ⟨has_and.2 ⟨(has_mkM (revL_vld hv).1 _ _).2 (by rw [Int.toNat_natCast]; exact att_revL.2 e), ha⟩, hna⟩
      rw [e0] at this
      simp [has] at this
  · rintro h ⟨x, hx, hne⟩
    obtain ⟨i, hi, hb, rfl⟩ := mem_nodesB.1 hx
    rw [bne_iff_ne] at hne
    apply hne
    refine has_ext fun a => ?_
    rw [has_minusN (hand _) hs64, has_and, has_mkM (revL_vld hv).1, Int.toNat_natCast]
    constructor
    · rintro ⟨⟨e, ha⟩, hna⟩
      exact absurd (h i a hb (att_revL.1 e) ha) hna
    · intro h0; simp [has] at h0

theorem CInv.free_of_ok (hv : Vld n l) {F : List Nat} {rest : Nat} (h : CInv n l F rest) {f : Nat} (hf : f ∈ F) (hok : okC l rest f = true) {i : Nat} (hi : has f i) : freeI n l rest i = true := by
  rw [okC_iff hv h.lt (h.flt hf)] at hok
  refine (freeI_iff hv.1 h.lt).2 ⟨h.sub hf hi, fun k hk hki => ?_⟩
  obtain ⟨r, hr, rfl⟩ := h.scc f hf
  refine Classical.byContradiction fun hno => ?_
  have hkf : ¬ has (sccM n l r) k := fun hkf => hno (((has_scc hv.1 hr).1 hi).2.trans ((has_scc hv.1 hr).1 hkf).1)
  have := Rc.stay (z := fun y => has rest y ∧ ¬ has (sccM n l r) y) (fun a b ⟨ha, hb⟩ e => ⟨h.clo a b ha e, fun hm => hb (hok b a hm e ha)⟩) hki ⟨hk, hkf⟩
  exact this.2 hi
theorem CInv.ok_of_free (hv : Vld n l) {F : List Nat} {rest : Nat} (h : CInv n l F rest) {f : Nat} (hf : f ∈ F) {i : Nat} (hi : has f i) (hfr : freeI n l rest i = true) : okC l rest f = true := by
  obtain ⟨_, h2⟩ := (freeI_iff hv.1 h.lt).1 hfr
  refine (okC_iff hv h.lt (h.flt hf)).2 fun j a hj e ha => ?_
  obtain ⟨r, hr, rfl⟩ := h.scc f hf
  have hji := ((has_scc hv.1 hr).1 hj).2.trans ((has_scc hv.1 hr).1 hi).1
  have hai := (Rc.one e).trans hji
  have hia := h2 a ha hai
  exact (has_scc hv.1 hr).2 ⟨((has_scc hv.1 hr).1 hi).1.trans hia, hai.trans ((has_scc hv.1 hr).1 hi).2⟩

/-- something is free as long as something is left -/
theorem CInv.some (hv : InR n l) {F : List Nat} {rest : Nat} (h : CInv n l F rest) (h0 : rest ≠ 0) : ∃ i, freeI n l rest i = true := by
  have key : ∀ (c x : Nat), has rest x → ((List.range n).countP fun j => rchB n l j x) ≤ c → ∃ i, freeI n l rest i = true := by
    intro c
    induction c with
    | zero =>
      intro x hx hc
      exfalso
      have := (List.countP_pos_iff (p := fun j => rchB n l j x) (l := List.range n)).2 ⟨x, List.mem_range.2 (has_lt h.lt hx), (rch_iff hv (has_lt h.lt hx)).2 Rc.refl⟩
      have h2 : (List.countP (fun j => rchB n l j x) (List.range n)) ≤ 0 := hc
      omega
    | succ c ih =>
      intro x hx hc
      by_cases hf : freeI n l rest x = true
      · exact ⟨x, hf⟩
      · rw [freeI_iff hv h.lt] at hf
        obtain ⟨k, hk, hkx, hxk⟩ : ∃ k, has rest k ∧ Rc (att l) k x ∧ ¬ Rc (att l) x k := Classical.byContradiction fun hno => hf ⟨hx, fun k hk hkx => Classical.byContradiction fun hxk => hno ⟨k, hk, hkx, hxk⟩⟩
        refine ih k hk ?_
        have hxn := has_lt h.lt hx; have hkn := has_lt h.lt hk
        have hlt : ((List.range n).countP fun j => rchB n l j k) < ((List.range n).countP fun j => rchB n l j x) := by
          have hsub : ∀ j ∈ List.range n, rchB n l j k = true → rchB n l j x = true := fun j hj h1 => (rch_iff hv (List.mem_range.1 hj)).2 (((rch_iff hv (List.mem_range.1 hj)).1 h1).trans hkx)
          rw [List.countP_eq_length_filter, List.countP_eq_length_filter]
          have hss : ((List.range n).filter fun j => rchB n l j k).Sublist ((List.range n).filter fun j => rchB n l j x) := by
            have : ((List.range n).filter fun j => rchB n l j k) = (((List.range n).filter fun j => rchB n l j x).filter fun j => rchB n l j k) := by
              rw [List.filter_filter]
              refine List.filter_congr fun j hj => ?_
              cases hjk : rchB n l j k
              · rfl
              · rw [hsub j hj hjk]; rfl
            rw [this]; exact List.filter_sublist
          refine Nat.lt_of_le_of_ne hss.length_le fun e => ?_
          have := hss.eq_of_length e
          have hm : x ∈ (List.range n).filter fun j => rchB n l j x := List.mem_filter.2 ⟨List.mem_range.2 hxn, (rch_iff hv hxn).2 Rc.refl⟩
          rw [← this] at hm
          exact hxk ((rch_iff hv hxn).1 (List.mem_filter.1 hm).2)
        omega
  have : ∃ x, has rest x := Classical.byContradiction fun hno => h0 (has_ext fun j => ⟨fun hj => absurd ⟨j, hj⟩ hno, fun hj => by simp [has] at hj⟩)
  obtain ⟨x, hx⟩ := this
  exact key _ x hx (Nat.le_refl _)

/-- one step of the list: the first set that may be next -/
theorem CInv.next (hv : Vld n l) {F : List Nat} {rest : Nat} (h : CInv n l F rest) (h0 : rest ≠ 0) (f : Nat) :
    ∃ (k : Nat) (hk : k < F.length), okC l rest F[k] = true ∧ (∀ j (hj : j < k), okC l rest F[j] = false) ∧
      compsF n l (f + 1) rest = F[k] :: compsF n l f (minusN rest F[k]) ∧ CInv n l (F.eraseIdx k) (minusN rest F[k]) := by
  obtain ⟨i, hi⟩ := h.some hv.1 h0
  have hin : i < n := has_lt h.lt ((freeI_iff hv.1 h.lt).1 hi).1
  obtain ⟨i0, hi0⟩ : ∃ i0, (List.range n).find? (freeI n l rest) = Option.some i0 := Option.isSome_iff_exists.1 (List.find?_isSome.2 ⟨i, List.mem_range.2 hin, hi⟩)
  have hfree0 : freeI n l rest i0 = true := List.find?_some hi0
  have hin0 : i0 < n := List.mem_range.1 (List.mem_of_find?_eq_some hi0)
  have hleast : ∀ j, j < i0 → freeI n l rest j = false := fun j hj => by
    obtain ⟨_, q, hq, e, hno⟩ := List.find?_eq_some_iff_getElem.1 hi0
    rw [List.getElem_range] at e
    subst e
    have := hno j hj
    rw [List.getElem_range] at this
    simpa using this
  obtain ⟨g, hg, hgi⟩ := (h.cov i0).1 ((freeI_iff hv.1 h.lt).1 hfree0).1
  have hgok := h.ok_of_free hv hg hgi hfree0
  obtain ⟨k', hk', rfl⟩ := List.mem_iff_getElem.1 hg
  have hex : ∃ k, ∃ hk : k < F.length, okC l rest F[k] = true := ⟨k', hk', hgok⟩
  obtain ⟨k, ⟨hk, hkok⟩, hkmin⟩ : ∃ k, (∃ hk : k < F.length, okC l rest F[k] = true) ∧ ∀ j, j < k → ¬ ∃ hj : j < F.length, okC l rest F[j] = true := by
    have : ∀ m, (∃ k, k ≤ m ∧ ∃ hk : k < F.length, okC l rest F[k] = true) → ∃ k, (∃ hk : k < F.length, okC l rest F[k] = true) ∧ ∀ j, j < k → ¬ ∃ hj : j < F.length, okC l rest F[j] = true := by
      intro m
      induction m with
      | zero => rintro ⟨k, hk, hh⟩; obtain rfl : k = 0 := by omega
                exact ⟨0, hh, fun j hj => by omega⟩
      | succ m ih =>
        rintro ⟨k, hk, hh⟩
        by_cases hm : ∃ k, k ≤ m ∧ ∃ hk : k < F.length, okC l rest F[k] = true
        · exact ih hm
        · exact ⟨k, hh, fun j hj hjj => hm ⟨j, by omega, hjj⟩⟩
    exact this k' ⟨k', Nat.le_refl _, hk', hgok⟩
  have hf64 : ∀ x ∈ F, x ≠ 0 ∧ x < 18446744073709551616 := fun x hx => ⟨h.fne hv.1 hx, p40 hv.1.1 (h.flt hx)⟩
  have hkm := List.getElem_mem hk
  have hmin := low_bit F[k] (hf64 _ hkm).1 (hf64 _ hkm).2
  have hminf := h.free_of_ok hv hkm hkok (i := Lib.ctz 64 F[k]) hmin.2.1
  have hle : i0 ≤ Lib.ctz 64 F[k] := Classical.byContradiction fun hno => by
    have := hleast _ (Nat.lt_of_not_le hno)
    rw [this] at hminf; cases hminf
  have hkk : k = k' := by
    rcases Nat.lt_trichotomy k k' with hlt | he | hlt
    · exfalso
      have h1 := List.pairwise_iff_getElem.1 h.srt k k' hk hk' hlt
      have h2 := low_bit F[k'] (hf64 _ hg).1 (hf64 _ hg).2
      have h3 : ¬ i0 < Lib.ctz 64 F[k'] := fun hlt => by
        have := h2.2.2 i0 hlt
        rw [show F[k'].testBit i0 = true from hgi] at this; cases this
      omega
    · exact he
    · exact absurd ⟨hk', hgok⟩ (hkmin k' hlt)
  subst hkk
  have hscc : F[k] = sccM n l i0 := by
    obtain ⟨r, hr, e⟩ := h.scc _ hkm
    rw [e] at hgi ⊢
    exact (scc_same hv.1 hr hgi).symm
  have hr64 := p40 hv.1.1 h.lt
  have hk64 := (hf64 _ hkm).2
  refine ⟨k, hk, hkok, fun j hj => ?_, ?_, ?_, ?_, ?_, ?_, ?_, ?_⟩
  · have := hkmin j hj
    cases hh : okC l rest F[j]
    · rfl
    · exact absurd ⟨by omega, hh⟩ this
  · rw [compsF, hi0, hscc]
  · exact Nat.lt_of_le_of_lt (minusN_le _ _) h.lt
  · intro f hf
    exact h.scc f ((List.eraseIdx_sublist _ _).subset hf)
  · intro x
    rw [has_minusN hr64 hk64, h.cov]
    constructor
    · rintro ⟨⟨f, hf, hx⟩, hno⟩
      refine ⟨f, ?_, hx⟩
      obtain ⟨j, hj, rfl⟩ := List.mem_iff_getElem.1 hf
      rw [List.mem_eraseIdx_iff_getElem]
      exact ⟨j, hj, fun e => hno (by subst e; exact hx), rfl⟩
    · rintro ⟨f, hf, hx⟩
      obtain ⟨j, hj, hne, rfl⟩ := List.mem_eraseIdx_iff_getElem.1 hf
      refine ⟨⟨_, List.getElem_mem hj, hx⟩, fun hx' => ?_⟩
      rcases Nat.lt_trichotomy j k with hlt | he | hlt
      · exact List.pairwise_iff_getElem.1 h.dis j k hj hk hlt x hx hx'
      · exact hne he
      · exact List.pairwise_iff_getElem.1 h.dis k j hk hj hlt x hx' hx
  · exact h.srt.sublist (List.eraseIdx_sublist _ _)
  · exact h.dis.sublist (List.eraseIdx_sublist _ _)
  · intro a b ha e
    obtain ⟨h1, h2⟩ := (has_minusN hr64 hk64).1 ha
    refine (has_minusN hr64 hk64).2 ⟨h.clo a b h1 e, fun hb => h2 ?_⟩
    exact (okC_iff hv h.lt (h.flt hkm)).1 hkok b a hb e h1

/-- a search that is over has found the components -/
theorem CInv.start (hv : Vld n l) {s : TS} (h : TInv n (att l) [] s) (hall : ∀ x, x < n → s.o x ≠ 0) {F : List Nat} (hp : F.Perm s.F) (hs : F.Pairwise fun f g => Lib.ctz 64 f ≤ Lib.ctz 64 g) : CInv n l F (2 ^ n - 1) := by
  have hS : ∀ x, x ∉ s.S := fun x hx => by obtain ⟨g, hg, _⟩ := h.acc x hx; cases hg
  have hfull : ∀ x, has (2 ^ n - 1) x ↔ x < n := fun x => by unfold has; rw [Nat.testBit_two_pow_sub_one]; simp
  have hscc : ∀ f ∈ F, ∃ r, r < n ∧ f = sccM n l r := fun f hf => by
    obtain ⟨hlt, r, hr, hx⟩ := h.fscc f (hp.mem_iff.1 hf)
    have hrn := has_lt hlt hr
    exact ⟨r, hrn, has_ext fun x => (hx x).trans (has_scc hv.1 hrn).symm⟩
  have hdis : F.Pairwise fun f g => ∀ x, has f x → ¬ has g x := (hp.pairwise_iff (fun {a b} hab x hb ha => hab x ha hb)).2 h.fdis
  have hpos : 0 < 2 ^ n := Nat.two_pow_pos n
  refine ⟨by omega, hscc, fun x => ?_, ?_, hdis, fun a b _ e => (hfull b).2 (att_lt hv.1 e).2⟩
  · rw [hfull]
    constructor
    · intro hx
      rcases h.fnd x (hall x hx) with hm | ⟨f, hf, hx⟩
      · exact absurd hm (hS x)
      · exact ⟨f, hp.mem_iff.2 hf, hx⟩
    · rintro ⟨f, hf, hx⟩
      exact h.rng x (h.fvis f (hp.mem_iff.1 hf) x hx).1
  · refine (List.Pairwise.and hs hdis).imp_of_mem fun {f g} hf hg ⟨h1, h2⟩ => ?_
    refine Nat.lt_of_le_of_ne h1 fun e => ?_
    obtain ⟨r, hr, rfl⟩ := hscc f hf
    obtain ⟨q, hq, rfl⟩ := hscc g hg
    have hne : ∀ r, r < n → sccM n l r ≠ 0 := fun r hr e => by
      have := scc_self hv.1 hr; rw [e] at this; simp [has] at this
    have a1 := low_bit _ (hne r hr) (p40 hv.1.1 (scc_lt r))
    have a2 := low_bit _ (hne q hq) (p40 hv.1.1 (scc_lt q))
    rw [← e] at a2
    exact h2 _ a1.2.1 a2.2.1
end
end Go.Proofs.YtkflanjlnbdkmaaGreatDoor
