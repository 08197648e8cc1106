/- Maps of texts, with how many stand in them; what a loop over one meets. For any program. Conditions: one goroutine. -/
import Derived.Test.YtlkknekflgclgaaGreatDoorZMap1
import Derived.Maps.OwnSet
import Derived.Maps.RangeWalk
namespace Go.Proofs.YtlkknekflgclgaaGreatDoor
open Go.RowKit Go.ChangeMaps Go.MapKept

/-- As MapIs; s stand in it. -/
def MapSz {P : Program} {e : TypeId} {α : Type} (C : Coded P e α) (k : TypeId) (w : World) (b n : Nat) (M : Bytes → Option α) (s : Nat) : Prop :=
  ∃ D : DataW Unit, w.ownsMap P k C.R b n D ∧ (∀ (x : Bytes) (zd : DataW Unit), D.atKey (.string x) zd = match M x with | some y => C.code y | none => zd) ∧ Go.Maps.size D = s
section
variable {P : Program} {k e t : TypeId} {α : Type} {C : Coded P e α} {w w' : World} {b n s : Nat} {M : Bytes → Option α}
theorem MapSz.is (h : MapSz C k w b n M s) : MapIs C k w b n M := by
  obtain ⟨D, h1, h2, _⟩ := h
  exact ⟨D, h1, h2⟩
theorem MapSz.made (C : Coded P e α) (k : TypeId) (w : World) : MapSz C k (w.alloc (.map #[] 0)) w.heap.size 0 (fun _ => none) 0 :=
  ⟨.map [], World.ownsMap_made _ _ _ _, fun _ _ => rfl, rfl⟩
theorem MapSz.only {F : Nat → Prop} (h : MapSz C k w b n M s) (ho : Only F w w') (hF : ¬ F b) : MapSz C k w' b n M s := by
  have hlt := h.is.lt
  obtain ⟨D, ⟨es, clock, hb, r⟩, hA, hs⟩ := h
  exact ⟨D, ⟨es, clock, (ho.block b hlt hF).trans hb, r⟩, hA, hs⟩
theorem has_of {D : DataW Unit} (hA : ∀ (x : Bytes) (zd : DataW Unit), D.atKey (.string x) zd = match M x with | some y => C.code y | none => zd) (x : Bytes) : Go.Maps.has D (.string x) = (M x).isSome := by
  cases hm : M x with
  | none => exact Go.Maps.has_false_of_atKey fun z => by rw [hA, hm]
  | some y => exact Go.Maps.has_true_of_atKey (y := C.code y) fun z => by rw [hA, hm]
variable (hk : P.underlying k = some .string) (ht : P.underlying t = some (.map k e))
include hk ht
theorem MapSz.put (h : MapSz C k w b n M s) (x : Bytes) (y : α) (hx : x.length ≤ maxLen) (hn : n < maxLen) :
    ∃ w', (Instr.mapUpdate t (.map (some b)) (str x) (C.val y)).run P w = .ok () w' ∧ MapSz C k w' b (n + 1) (upM M x y) (if (M x).isSome then s else s + 1) ∧ Only (fun j => j = b) w w' := by
  obtain ⟨D, h, hA, hs⟩ := h
  have hkey : keyOf P k (str x) = some (.string x) := by
    have h5 := Go.WideMaps.keyOf_string_mk hk (s := ⟨x.toArray⟩) (by show x.toArray.size ≤ maxLen; simpa using hx)
    simpa [str] using h5
  have K := Maps.string_keyed hk
  obtain ⟨w', hrun, ho, hg⟩ := h.update K ht hn hkey (C.reads y)
  have hm : Go.Maps.IsMap D := h.isMap
  refine ⟨w', hrun, ⟨_, ho, fun z zd => ?_, ?_⟩, (Only.refl (fun j => j = b) w).grown hg (fun j _ q => (Option.some.inj q).symm)⟩
  · unfold upM
    by_cases hz : z = x
    · subst hz
      rw [Go.Maps.atKey_put_same hm (K.key hkey), if_pos rfl]
    · rw [Go.Maps.atKey_put_other (by intro q; injection q with q; exact hz q), hA z, if_neg hz]
  · rw [Go.Maps.size_put (h.tidy K), has_of hA x, hs]
omit hk in
theorem MapSz.len (h : MapSz C k w b n M s) (ty : TypeId) : (Builtin.len_ #[t] ty #[.map (some b)]).run P w = .ok (.int .i64 s) w := by
  obtain ⟨D, h, hA, rfl⟩ := h
  exact h.len ht ty
end
end Go.Proofs.YtlkknekflgclgaaGreatDoor
