/- WalkBoth: the law's walk in the words of the closing text. Conditions: none but the statement's own. -/
import Derived.Test.YtcjaokmodicikaaZLaw10
namespace Go.Proofs.Ytcjaokmodicikaa.walkBoth
open Go.RowKit
theorem walk (a : Option Addr) (len cap : Nat) (l : List Item) (w : World) (h : IsItems w a len cap l) :
    Calls Try.prog 5 #[.slice a len cap] w fun e w' => e = .returned (.bool true) ∧ Below w.heap.size w w' :=
  (Both_is w a len cap l h).mono fun _ _ ⟨h1, h2⟩ => ⟨h1, h2.below (Nat.le_refl _) fun _ _ q => q⟩
end Go.Proofs.Ytcjaokmodicikaa.walkBoth
