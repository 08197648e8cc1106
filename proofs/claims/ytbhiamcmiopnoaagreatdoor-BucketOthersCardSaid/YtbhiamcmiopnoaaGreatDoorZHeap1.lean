/- A block's cells, for any program. -/
import Derived.Test.YtbhiamcmiopnoaaGreatDoorZBase
namespace Go.Proofs.YtbhiamcmiopnoaaGreatDoor
open Go.RowKit
theorem ou {w:World} {b:Nat} {cs:Array Value} {t:TypeId} {f:Nat×Nat} (h:w.heap[b]? = some (.cells cs t f)) (o:Nat) (u:Value):(w.setCell ⟨b,o,none⟩ u).heap[b]? = some (.cells (cs.setIfInBounds o u) t f):=by
 simp [World.setCell,Array.getElem?_modify,h]
theorem aj {w:World} {b:Nat} {cs:Array Value} {t:TypeId} {f:Nat×Nat} (h:w.heap[b]? = some (.cells cs t f)) (o:Nat):w.cell? ⟨b,o,none⟩=cs[o]?:=by
 simp [World.cell?,h]
theorem aC {w:World} {b:Nat} {cs:Array Value} {t:TypeId} (h:w.heap[b]? = some (.cells cs t (0,0))) (o:Nat):w.frozen? ⟨b,o,none⟩=false:=by
 simp [World.frozen?,h]
theorem jU {w:World} {b:Nat} {B:Obj} (h:w.heap[b]? = some B):b<w.heap.size:=(Array.getElem?_eq_some_iff.1 h).1
theorem dw (w:World) (B:Obj):(w.alloc B).heap[w.heap.size]? = some B:=by
 exact heap_alloc_new w B
end Go.Proofs.YtbhiamcmiopnoaaGreatDoor
