/- TreeOrder: the law's walk in the words of the closing text. Conditions: none but the statement's own. -/
import Derived.Test.YtcjaokmodicikaaZOrder12
import Derived.Test.YtcjaokmodicikaaZArgs14
namespace Go.Proofs.Ytcjaokmodicikaa.treeOrder
open Go.RowKit
theorem walk (a : Option Addr) (len cap : Nat) (l : List Item) (a2 : Option Addr) (len2 cap2 : Nat) (ns : List Int) (w : World) (h : IsItems w a len cap l) (h2 : IsInts w a2 len2 cap2 ns) :
    Calls Try.prog 7 #[.slice a len cap, .slice a2 len2 cap2] w fun e w' => e = .returned (.bool true) ∧ Below w.heap.size w w' :=
  (Order12_is w (.slice a len cap) (.slice a2 len2 cap2) l ns h.row h2.row (by have := h.many; have := h.few; omega) (by have := h2.many; have := h2.few; omega) h.short h2.bounds).mono fun _ w' h => (⟨h.1, h.2.below (Nat.le_refl _) fun _ _ q => q⟩ : _ = _ ∧ Below w.heap.size w w')
end Go.Proofs.Ytcjaokmodicikaa.treeOrder
