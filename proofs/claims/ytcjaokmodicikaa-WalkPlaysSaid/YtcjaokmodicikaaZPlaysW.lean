/- WalkPlays: the law's walk in the words of the closing text. Conditions: none but the statement's own. -/
import Derived.Test.YtcjaokmodicikaaZLaw6
namespace Go.Proofs.Ytcjaokmodicikaa.walkPlays
open Go.RowKit
theorem walk (a : Option Addr) (len cap : Nat) (l : List Item) (a2 : Option Addr) (len2 cap2 : Nat) (ops : List Mv) (w : World) (h : IsItems w a len cap l) (h2 : IsMoves w a2 len2 cap2 ops) :
    Calls Try.prog 3 #[.slice a len cap, .slice a2 len2 cap2] w fun e w' => e = .returned (.bool true) ∧ Below w.heap.size w w' :=
  (Plays_is w a len cap l a2 len2 cap2 ops h h2).mono fun _ _ ⟨h1, h2⟩ => ⟨h1, h2.below (Nat.le_refl _) fun _ _ q => q⟩
end Go.Proofs.Ytcjaokmodicikaa.walkPlays
