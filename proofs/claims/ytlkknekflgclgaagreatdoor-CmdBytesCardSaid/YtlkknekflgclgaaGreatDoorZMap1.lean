/- Maps of texts in memory, each the call's own, for any program and any kind of element: look-up, store, deletion. Conditions: one goroutine. -/
import Derived.Test.YtlkknekflgclgaaGreatDoorZBase
import Derived.Maps.OwnOps
import Derived.Maps.Views
import Derived.StringKeys
import Derived.MapViews
namespace Go.Proofs.YtlkknekflgclgaaGreatDoor
open Go.RowKit Go.ChangeMaps Go.MapKept

/-- A kind of element: how one is spelt as a value, what it reads as. -/
structure Coded (P : Program) (e : TypeId) (α : Type) where
  val : α → Value
  code : α → DataW Unit
  R : Value → Option (DataW Unit × List MemPlace)
  reads : ∀ x, R (val x) = some (code x, [])
  back : ∀ v z, R v = some z → ∃ x, v = val x ∧ z = (code x, [])
  inj : ∀ x y, code x = code y → x = y
  zero : α
  zeroIs : ∀ w, (zeroValue e).run P w = .ok (val zero) w
/-- Block b is a map in which just these texts stand, each with its element. -/
def MapIs {P : Program} {e : TypeId} {α : Type} (C : Coded P e α) (k : TypeId) (w : World) (b n : Nat) (M : Bytes → Option α) : Prop :=
  ∃ D : DataW Unit, w.ownsMap P k C.R b n D ∧ ∀ (x : Bytes) (zd : DataW Unit), D.atKey (.string x) zd = match M x with | some y => C.code y | none => zd
/-- One more, one less. -/
def upM {α : Type} (M : Bytes → Option α) (x : Bytes) (y : α) : Bytes → Option α := fun z => if z = x then some y else M z
def offM {α : Type} (M : Bytes → Option α) (x : Bytes) : Bytes → Option α := fun z => if z = x then none else M z
section
variable {P : Program} {k e t : TypeId} {α : Type} {C : Coded P e α} {w w' : World} {b n : Nat} {M : Bytes → Option α}
theorem MapIs.made (C : Coded P e α) (k : TypeId) (w : World) : MapIs C k (w.alloc (.map #[] 0)) w.heap.size 0 (fun _ => none) :=
  ⟨.map [], World.ownsMap_made _ _ _ _, fun _ _ => rfl⟩
theorem MapIs.lt (h : MapIs C k w b n M) : b < w.heap.size := by
  obtain ⟨D, h, _⟩ := h
  exact h.lt
theorem MapIs.only {F : Nat → Prop} (h : MapIs C k w b n M) (ho : Only F w w') (hF : ¬ F b) : MapIs C k w' b n M := by
  have hlt := h.lt
  obtain ⟨D, ⟨es, clock, hb, r⟩, hA⟩ := h
  exact ⟨D, ⟨es, clock, (ho.block b hlt hF).trans hb, r⟩, hA⟩
variable (hk : P.underlying k = some .string) (ht : P.underlying t = some (.map k e))
include hk ht
theorem MapIs.look (h : MapIs C k w b n M) (c : Bool) (x : Bytes) (hx : x.length ≤ maxLen) :
    (Instr.lookup t (.map (some b)) (str x) c).run P w = .ok (if c then .tuple #[C.val ((M x).getD C.zero), .bool (M x).isSome] else C.val ((M x).getD C.zero)) w := by
  obtain ⟨D, ⟨es, clock, hb, F, _, rfl⟩, hA⟩ := h
  have hkey : keyOf P k (str x) = some (.string x) := by
    have h5 := Go.WideMaps.keyOf_string_mk hk (s := ⟨x.toArray⟩) (by show x.toArray.size ≤ maxLen; simpa using hx)
    simpa [str] using h5
  have hne : ∀ (m : DataW Unit), ∃ z, m ≠ z := fun m => by
    by_cases q : m = .lit (.bool true)
    · exact ⟨.lit (.bool false), by rw [q]; simp⟩
    · exact ⟨_, q⟩
  rcases Maps.fit_look c (Maps.string_keyed hk) ht (C.zeroIs w) hb F hkey with ⟨hrun, _, hat⟩ | ⟨e0, y, _, _, hrun, hRv, hat, _⟩
  · have hM : M x = none := by
      cases hm : M x with
      | none => rfl
      | some z =>
        obtain ⟨zd, hz⟩ := hne (C.code z)
        have h6 := hA x zd
        rw [hm, hat zd] at h6
        exact absurd h6.symm hz
    rw [hM, hrun]
    rfl
  · obtain ⟨v, hv, hy⟩ := C.back _ _ hRv
    have hM : M x = some v := by
      cases hm : M x with
      | none =>
        obtain ⟨zd, hz⟩ := hne y.1
        have h6 := hA x zd
        rw [hm, hat zd] at h6
        exact absurd h6 hz
      | some z =>
        have h6 := hA x y.1
        rw [hm, hat, hy] at h6
        rw [C.inj _ _ h6]
    rw [hM, hrun, hv]
    rfl
theorem MapIs.put (h : MapIs C k w b n M) (x : Bytes) (y : α) (hx : x.length ≤ maxLen) (hn : n < maxLen) :
    ∃ w', (Instr.mapUpdate t (.map (some b)) (str x) (C.val y)).run P w = .ok () w' ∧ MapIs C k w' b (n + 1) (upM M x y) ∧ Only (fun j => j = b) w w' := by
  obtain ⟨D, h, hA⟩ := h
  have hkey : keyOf P k (str x) = some (.string x) := by
    have h5 := Go.WideMaps.keyOf_string_mk hk (s := ⟨x.toArray⟩) (by show x.toArray.size ≤ maxLen; simpa using hx)
    simpa [str] using h5
  have K := Maps.string_keyed hk
  obtain ⟨w', hrun, ho, hg⟩ := h.update K ht hn hkey (C.reads y)
  have hm : Go.Maps.IsMap D := by
    obtain ⟨es, clock, _, _, _, rfl⟩ := h
    exact ⟨_, rfl⟩
  refine ⟨w', hrun, ⟨_, ho, fun z zd => ?_⟩, (Only.refl (fun j => j = b) w).grown hg (fun j _ q => (Option.some.inj q).symm)⟩
  unfold upM
  by_cases hz : z = x
  · subst hz
    rw [Go.Maps.atKey_put_same hm (K.key hkey), if_pos rfl]
  · rw [Go.Maps.atKey_put_other (by intro q; injection q with q; exact hz q), hA z, if_neg hz]
theorem MapIs.off (h : MapIs C k w b n M) (x : Bytes) (hx : x.length ≤ maxLen) (ty : TypeId) :
    ∃ w', (Builtin.delete_ #[t, k] ty #[.map (some b), str x]).run P w = .ok (.tuple #[]) w' ∧ MapIs C k w' b n (offM M x) ∧ Only (fun j => j = b) w w' := by
  obtain ⟨D, ⟨es, clock, hb, F, hs, rfl⟩, hA⟩ := h
  have hkey : keyOf P k (str x) = some (.string x) := by
    have h5 := Go.WideMaps.keyOf_string_mk hk (s := ⟨x.toArray⟩) (by show x.toArray.size ≤ maxLen; simpa using hx)
    simpa [str] using h5
  obtain ⟨es', hrun, F', hsz, hdel, _⟩ := Maps.fit_drop (ty := ty) (Maps.string_keyed hk) ht hb F hkey
  refine ⟨_, hrun, ⟨_, ⟨es', clock, heap_setBlock_same hb _, F', Nat.le_trans hsz hs, rfl⟩, fun z zd => ?_⟩, ⟨rfl, rfl, rfl, by simp [setBlock], fun i _ hi => heap_setBlock_other hb _ hi⟩⟩
  rw [hdel, ← DataW.del_eq]
  unfold offM
  by_cases hz : z = x
  · subst hz
    rw [Go.Maps.atKey_del_same, if_pos rfl]
  · rw [Go.Maps.atKey_del_other (by intro q; injection q with q; exact hz q), hA z, if_neg hz]
end
end Go.Proofs.YtlkknekflgclgaaGreatDoor
