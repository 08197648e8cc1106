/- A region that draws its order, whose operations read and whose callees leave all old blocks as they were, is walked once, for any program. Conditions: those that each law names. -/
import Derived.Test.YtlkknekflgclgaaGreatDoorZBase
import Derived.Deep.QuietTactic
namespace Go.Proofs.YtlkknekflgclgaaGreatDoor
open Go.RowKit

/-- A world that has grown out of w: of the old blocks each is as it was. -/
structure Grew (w : World) where
  u : World
  h : Only (fun _ => False) w u

instance (w : World) : Inhabited (Grew w) := ⟨⟨w, Only.refl _ w⟩⟩
theorem Grew.cell {w : World} (p : Grew w) {b o : Nat} {v : Value} (hc : w.cell? ⟨b, o, none⟩ = some v) : p.u.cell? ⟨b, o, none⟩ = some v := (p.h.cell (p := ⟨b, o, none⟩) (lt_of_cell hc) id).trans hc
theorem Grew.calls {P : Program} {f : FuncId} {args : Array Value} {w : World} (p : Grew w) {v : Value} (h : Calls P f args p.u fun e w' => e = .returned v ∧ Only (fun _ => False) p.u w') :
    Calls P f args p.u fun e w'' => e = .returned v ∧ ∃ p : Grew w, w'' = p.u :=
  h.mono fun _ w' ⟨he, ho⟩ => ⟨he, ⟨w', p.h.trans ho (fun _ _ q => q)⟩, rfl⟩

/-- The walk of the region, what is left of it behind a variable (so that nothing unfolds it). -/
theorem wp_region_grew {P : Program} {id : Nat} {Q : Exit → Act → World → Prop} {a : Act} {w : World} {l : List Oper} (hm : P.follows .mixedOrders = true) (hB : Region.lexB .any l.toArray = true)
    (h : ∀ W : List Oper → Act → Prop, (∀ a', (∀ p : Grew w, Q .normal a' p.u) → W [] a') →
      (∀ o rest a, (∀ K : Act → Prop, (∀ a, W rest a → K a) → if Region.wanted o (yielded l.toArray a.tmps) then o.quiet P a (fun w' => ∃ p : Grew w, w' = p.u) K else K (a.put o.dst undef)) → W (o :: rest) a) → W l a) :
    (Code.region id l.toArray true).wp P Q a w :=
  wp_region_quiet (C := fun w' => ∃ p : Grew w, w' = p.u) hm hB ⟨⟨_, (Only.refl _ w).drew⟩, rfl⟩
    (h (wpQuiet P l.toArray (fun w' => ∃ p : Grew w, w' = p.u) (fun a' => ∀ w', (∃ p : Grew w, w' = p.u) → Q .normal a' w')) (fun _ hq _ ⟨p, e⟩ => e ▸ hq p) fun _ _ _ h => wpQuiet_step h)
end Go.Proofs.YtlkknekflgclgaaGreatDoor
