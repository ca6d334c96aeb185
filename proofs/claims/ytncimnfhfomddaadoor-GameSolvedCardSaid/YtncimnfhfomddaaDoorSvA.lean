/- Package game: Solve, of both games, in one contract. -/
import Derived.Test.YtncimnfhfomddaaDoorMv
import Derived.Test.YtncimnfhfomddaaDoorCk
namespace Go.Proofs.YtncimnfhfomddaaDoor
open Go.ChangeShapes Go.WideShapes Go.ChangeAt Go.RowKit

/-- who wins -/
def byW (n : Nat) (l : List (Int × Int)) (k root : Nat) : Nat := if k = 1 then (if gsB n l root = true then 1 else 2) else (if (srS n (attQ l) (n + 1) (1 <<< root)).isSome = true then 1 else 2)
/-- Solve returns a strategy of the one who wins; every check accepts it -/
def RetSv (n : Nat) (l : List (Int × Int)) (k root : Nat) (w : World) : Ending → World → Prop := fun e w' => ∃ (OO : List (Nat × Nat)) (A : Option Addr) (c : Nat), e = .returned (.tuple #[.agg #[.int .i64 (k : Int), .int .i64 (root : Int), .int .i64 (byW n l k root : Int), .slice A OO.length c], .int .i64 0]) ∧
  OO.length ≤ n ∧ RP w' A (OO.map toI) ∧ AscR OO ∧ (∀ b o, A = some ⟨b, o, none⟩ → w.heap.size ≤ b) ∧ (∀ q ∈ OO, q.1 < n ∧ q.2 < n) ∧ (∀ b, WPost n l k (byW n l k root) root OO b → b = true) ∧ (k = 2 → byW n l k root = 2 → OO = []) ∧
  ((k = 1 ∧ byW n l k root = 1 ∧ ∃ R K, (∀ i, gsF n l K i = gsB n l i) ∧ AnOk n (attQ l) (pickG n l K) (fun a => gsB n l a = true) root R OO) ∨ (k = 1 ∧ byW n l k root = 2 ∧ ∃ R, OgOk n l root R OO) ∨
   (k = 2 ∧ byW n l k root = 1 ∧ ∃ R s, s < 2 ^ n ∧ AdmS n (attQ l) s ∧ AnOk n (attQ l) (pickS n (attQ l) s) (fun a => s.testBit a = true) root R OO) ∨ (k = 2 ∧ byW n l k root = 2)) ∧ Below w.heap.size w w'
theorem gSolveU_any (A : Option Addr) {n : Nat} {l : List (Int × Int)} (c k root : Nat) (hk : k = 1 ∨ k = 2) (hv : Vld n l) (hroot : root < n) (hn10 : n ≤ 10) (w : World) (hr : RP w A l) (hT : Tab w) :
    Calls Tryd.prog 35 #[.agg #[.int .i64 (n : Int), .slice A l.length c], .int .i64 (k : Int), .int .i64 (root : Int)] w (RetSv n l k root w) := by
  have hI := hv.1
  rcases hk with rfl | rfl
  · refine (gSolveG_any A c root hv hroot w hr hT).mono ?_
    rintro e w' ⟨hb, R, OO, A', c', hl, hrp, hloc, h⟩
    rcases h with ⟨hg, rfl, K, hK, hok⟩ | ⟨hg, rfl, hok⟩
    · have hby : byW n l 1 root = 1 := by unfold byW; rw [if_pos rfl, if_pos hg]
      refine ⟨OO, A', c', by rw [hby]; rfl, hl, hrp, hok.asc, hloc, hok.rng, ?_, (fun e => by cases e), .inl ⟨rfl, hby, R, K, hK, hok⟩, hb⟩
      rw [hby]; intro b hp; exact hok.winsG hI hK hp
    · have hby : byW n l 1 root = 2 := by unfold byW; rw [if_pos rfl, if_neg (by rw [hg]; decide)]
      refine ⟨OO, A', c', by rw [hby]; rfl, hl, hrp, hok.asc, hloc, hok.rng hI, ?_, (fun e => by cases e), .inr (.inl ⟨rfl, hby, R, hok⟩), hb⟩
      rw [hby]; intro b hp; exact hok.wins hI hp
  · have hsn : ∀ r, srS n (attQ l) (n + 1) (1 <<< root) = some r → AdmS n (attQ l) r ∧ r < 2 ^ n := fun r h => ⟨(srS_sound h).1, srS_lt (by rw [Nat.one_shiftLeft]; exact Nat.pow_lt_pow_right (by omega) hroot) h⟩
    refine (gSolveC_any A c root hv hroot hn10 w hr hT).mono ?_
    rintro e w' ⟨hb, h⟩
    cases hs : srS n (attQ l) (n + 1) (1 <<< root) with
    | none =>
      rw [hs] at h
      have hby : byW n l 2 root = 2 := by unfold byW; rw [if_neg (by decide), hs]; rfl
      refine ⟨[], none, 0, by rw [hby]; exact h, Nat.zero_le _, (fun j hj => by cases hj), List.Pairwise.nil, (fun b o e => by cases e), (fun q hq => by cases hq), ?_, fun _ _ => rfl, .inr (.inr (.inr ⟨rfl, hby⟩)), hb⟩
      rw [hby]; intro b hp
      rw [hp.2.2.1 rfl rfl rfl, hs]; rfl
    | some s =>
      rw [hs] at h
      obtain ⟨R, OO, A', c', rfl, hok, hl, hrp, hloc⟩ := h
      obtain ⟨ha, hlt⟩ := hsn s hs
      have hby : byW n l 2 root = 1 := by unfold byW; rw [if_neg (by decide), hs]; rfl
      refine ⟨OO, A', c', by rw [hby]; rfl, hl, hrp, hok.asc, hloc, hok.rng, ?_, (fun _ e => by rw [hby] at e; cases e), .inr (.inr (.inl ⟨rfl, hby, R, s, hlt, ha, hok⟩)), hb⟩
      rw [hby]; intro b hp; exact hok.winsC hI ha hp
theorem gCheckU_any (A : Option Addr) {n : Nat} {l : List (Int × Int)} (c : Nat) (hv : Vld n l) (hn10 : n ≤ 10) (hn0 : 0 < n) (k root b : Nat) (hk : k = 1 ∨ k = 2) (hb : b = 1 ∨ b = 2) (hroot : root < n) (A2 : Option Addr) (OO : List (Nat × Nat)) (c2 : Nat) (ho : ∀ q ∈ OO, q.1 < n ∧ q.2 < n) (hasc : AscR OO) (hlo : OO.length ≤ 100000) (w : World) (hr : RP w A l) (hr2 : RP w A2 (OO.map toI)) (hT : Tab w) :
    Calls Tryd.prog 38 #[.agg #[.int .i64 (n : Int), .slice A l.length c], .agg #[.int .i64 (k : Int), .int .i64 (root : Int), .int .i64 (b : Int), .slice A2 OO.length c2]] w (RetGc n l k b root OO w) := by
  rcases hb with rfl | rfl
  · exact gCheckP_any A c hv hn10 hn0 k root hk hroot A2 OO c2 ho hasc hlo w hr hr2 hT
  · exact gCheckO_any A c hv hn10 hn0 k root hk hroot A2 OO c2 ho hasc hlo w hr hr2 hT
theorem byW_two {n : Nat} {l : List (Int × Int)} {k root : Nat} : byW n l k root = 1 ∨ byW n l k root = 2 := by
  unfold byW
  split <;> split <;> simp
/-- a node that attacks itself is won by the opponent -/
theorem byW_self {n : Nat} {l : List (Int × Int)} {root : Nat} (hroot : root < n) (h : attQ l root root = true) : byW n l 2 root = 2 := by
  unfold byW
  rw [if_neg (by decide), if_neg]
  intro hs
  obtain ⟨s, hs⟩ := Option.isSome_iff_exists.1 hs
  obtain ⟨h1, h2⟩ := srS_sound hs
  have hb := h2 root (by rw [Nat.one_shiftLeft, Nat.testBit_two_pow]; simp)
  have := freeS_iff.1 h1.free root root hroot hroot hb hb
  rw [h] at this; cases this
/-- the tree's value is the answer -/
theorem Val.byW {n : Nat} {l : List (Int × Int)} {k root r : Nat} (hk : k = 1 ∨ k = 2) (hI : InR n l) (hroot : root < n) (hs : k = 2 → attQ l root root = false) (h : Val n k (attQ l) [root] r) : r = byW n l k root := by
  refine h.one (f1 := 2 * n + 2) fun f hf => ?_
  unfold Go.Proofs.YtncimnfhfomddaaDoor.byW
  rcases hk with rfl | rfl
  · rw [if_pos rfl]; exact best_gr hI hroot hf
  · rw [if_neg (by decide)]; exact best_cr hI hroot (hs rfl) hf
end Go.Proofs.YtncimnfhfomddaaDoor
