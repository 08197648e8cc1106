/- Rows of things of k cells each, to be read. For any program. Conditions: none. -/
import Derived.Test.YtbhiamcmiopnoaaGreatDoorZBase
namespace Go.Proofs.YtbhiamcmiopnoaaGreatDoor
open Go.RowKit
inductive bL {α:Type} (enc:α→List Value) (k:Nat) (w:World):Value→List α→Prop
 | none:bL enc k w (.slice none 0 0) []
 | some (g off cap:Nat) (xs:List α) (h:∀(i:Nat) (x:α) (j:Nat) (u:Value),xs[i]? = some x→(enc x)[j]? = some u→w.cell? ⟨g,off+(i * k+j),none⟩=some u):bL enc k w (.slice (some ⟨g,off,none⟩) xs.length cap) xs
def bI:Value→Option Nat
 | .slice (some p) _ _=>some p.block
 | _=>none
theorem aU {α:Type} {enc:α→List Value} {k:Nat} {w w':World} {v:Value} {xs:List α} {S:Nat→Prop} (h:bL enc k w v xs) (ho:Only S w w') (hs:∀b,bI v=some b→¬S b):bL enc k w' v xs:=by
 cases h with
 | none=>exact .none
 | some g off cap _ hc=>exact .some g off cap xs fun i x j u hx hu=>(ho.cell (p:=⟨g,off+(i * k+j),none⟩) (lt_of_cell (hc i x j u hx hu)) (hs g rfl)).trans (hc i x j u hx hu)
def KG:Value→Prop
 | .slice _ n c=>n≤c∧c≤maxLen
 | _=>False
structure gN {α:Type} (enc:α→List Value) (k:Nat) (w:World) (v:Value) (xs:List α):Prop where
 row:bL enc k w v xs
 cap:KG v
theorem gN.only {α:Type} {enc:α→List Value} {k:Nat} {w w':World} {v:Value} {xs:List α} {S:Nat→Prop} (h:gN enc k w v xs) (ho:Only S w w') (hs:∀b,bI v=some b→¬S b):gN enc k w' v xs:=⟨aU h.row ho hs,h.cap⟩
theorem dQ {w:World} {base:Nat} {e:TypeId} {size n:Nat} {v:Value} {xs:List Value} (h:w.ownsRow base e size v n xs):KG v:=by
 rcases h.2 with ⟨rfl,_⟩ |⟨g,cap,cur,rfl,_,_,h1,h2,_⟩
 ·exact⟨Nat.le_refl _,Nat.zero_le _⟩
 ·exact⟨h1,h2⟩
end Go.Proofs.YtbhiamcmiopnoaaGreatDoor
