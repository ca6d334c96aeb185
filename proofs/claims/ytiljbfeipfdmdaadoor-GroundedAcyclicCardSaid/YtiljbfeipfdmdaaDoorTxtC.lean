/- The chained region with calls that return one value, or a new slice of numbers. -/
import Derived.Test.YtiljbfeipfdmdaaDoorTxtB
import Derived.Test.YtiljbfeipfdmdaaDoorOwn
namespace Go.Proofs.YtiljbfeipfdmdaaDoor
open Go.ChangeShapes Go.WideShapes Go.ChangeAt Go.RowKit
section
variable {P : Program} {ops : Array Oper} {Q : Exit → Act → World → Prop} {W0 : World} {es : List Nat}

/-- the lists that can be read -/
def RIs (Js : List (Option Addr × List Int)) (w : World) : Prop := ∀ q ∈ Js, RI w q.1 q.2
theorem RIs.below {Js : List (Option Addr × List Int)} {w w' : World} (h : RIs Js w) (hb : Below w.heap.size w w') : RIs Js w' := fun q hq => (h q hq).below hb
theorem RIs.nil (w : World) : RIs [] w := fun _ h => by cases h
theorem RIs.head {Js : List (Option Addr × List Int)} {w : World} {A : Option Addr} {l : List Int} (h : RIs ((A, l) :: Js) w) : RI w A l := h (A, l) (List.mem_cons_self ..)
theorem RIs.tail {Js : List (Option Addr × List Int)} {w : World} {q : Option Addr × List Int} (h : RIs (q :: Js) w) : RIs Js w := fun r hr => h r (List.mem_cons_of_mem _ hr)

abbrev SB (W0 : World) : World → Prop := fun w' => Below W0.heap.size W0 w'

theorem TxtBL.callB {k : Nat} {Js : List (Option Addr × List Int)} {o : Oper} {rest : List Oper} {a : Act} (hk : es.contains k = true) (hw : Region.wanted o (yielded ops a.tmps) = true)
    (h : ∃ f args, (∀ w, SB W0 w → (execOp a.eval o).run P w = .ok (.enter f args) w) ∧ ∃ b, (∀ w, SB W0 w → RIs Js w → Calls P f args w (RetB b w)) ∧ TxtBL P ops Q (SB W0) es (k + 1) rest (RIs Js) (a.put o.dst b)) :
    TxtBL P ops Q (SB W0) es k (o :: rest) (RIs Js) a := by
  obtain ⟨f, args, h1, b, h2, h3⟩ := h
  refine TxtBL.call (fun v => v = b) (fun _ => RIs Js) hk hw ⟨b, rfl⟩ (fun w hS _ => h1 w hS) (fun w hS hJ => (h2 w hS hJ).mono ?_) (fun v hv => by subst hv; exact h3)
  rintro e w' ⟨rfl, hb⟩
  exact ⟨b, rfl, hS.trans (hb.mono hS.size), rfl, hJ.below hb⟩
theorem TxtBL.callI {k : Nat} {Js : List (Option Addr × List Int)} {o : Oper} {rest : List Oper} {a : Act} (hk : es.contains k = true) (hw : Region.wanted o (yielded ops a.tmps) = true)
    (h : ∃ f args, (∀ w, SB W0 w → (execOp a.eval o).run P w = .ok (.enter f args) w) ∧ ∃ l, (∀ w, SB W0 w → RIs Js w → Calls P f args w (RetI l w)) ∧ ∀ A c, TxtBL P ops Q (SB W0) es (k + 1) rest (RIs ((A, l) :: Js)) (a.put o.dst (.slice A l.length c))) :
    TxtBL P ops Q (SB W0) es k (o :: rest) (RIs Js) a := by
  obtain ⟨f, args, h1, l, h2, h3⟩ := h
  refine TxtBL.call (fun v => ∃ A c, v = .slice A l.length c) (fun v w => RIs Js w ∧ ∀ A c, v = .slice A l.length c → RI w A l) hk hw ⟨_, none, 0, rfl⟩ (fun w hS _ => h1 w hS) (fun w hS hJ => (h2 w hS hJ).mono ?_) ?_
  · rintro e w' ⟨A, c, rfl, _, hri, _, hb⟩
    exact ⟨_, rfl, hS.trans (hb.mono hS.size), ⟨A, c, rfl⟩, hJ.below hb, fun A' c' e => by injection e with e1; subst e1; exact hri⟩
  · rintro v ⟨A, c, rfl⟩
    exact TxtBL.imp (fun w h => fun q hq => by
      rcases List.mem_cons.1 hq with rfl | hq
      · exact h.2 A c rfl
      · exact h.1 q hq) _ _ _ (h3 A c)
end
end Go.Proofs.YtiljbfeipfdmdaaDoor
