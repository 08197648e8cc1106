/- A path's names, in plain words; what strings.Split makes of it. Conditions: none. -/
import Derived.Test.YtlkknekflgclgaaDoorZBase
import Derived.Lib.Split
import Derived.Lib.IndexLaws
import Derived.Lib.CountLaws
namespace Go.Proofs.YtlkknekflgclgaaDoor
open Go.RowKit

/-- What stands between the slashes. -/
def partsP : Bytes → List Bytes
  | [] => [[]]
  | c :: r => if c = 47 then [] :: partsP r else match partsP r with | p :: ps => (c :: p) :: ps | [] => [[c]]
theorem partsP_ne (s : Bytes) : partsP s ≠ [] := by
  cases s with
  | nil => simp [partsP]
  | cons c r =>
    unfold partsP
    split
    · simp
    · split <;> simp
theorem partsP_miss : ∀ {s : Bytes}, (∀ k : Nat, s[k]? ≠ some (47 : UInt8)) → partsP s = [s]
  | [], _ => rfl
  | c :: r, h => by
    have hc : c ≠ 47 := fun e => h 0 (by simp [e])
    unfold partsP
    rw [if_neg hc, partsP_miss (s := r) fun k => by simpa using h (k + 1)]
theorem partsP_hit : ∀ {s : Bytes} {i : Nat}, s[i]? = some (47 : UInt8) → (∀ k : Nat, k < i → s[k]? ≠ some (47 : UInt8)) → partsP s = s.take i :: partsP (s.drop (i + 1))
  | [], _, h, _ => by simp at h
  | c :: r, 0, h, _ => by
    have hc : c = 47 := by simpa using h
    subst hc
    simp [partsP]
  | c :: r, i + 1, h, hn => by
    have hc : c ≠ 47 := fun e => hn 0 (by omega) (by simp [e])
    have ih := partsP_hit (s := r) (i := i) (by simpa using h) fun k hk => by simpa using hn (k + 1) (by omega)
    conv => lhs; unfold partsP
    rw [if_neg hc, ih]
    simp
theorem splitK_parts : ∀ (n : Nat) (s : Bytes), s.length ≤ n → Lib.splitK [47] 0 (Lib.count s [47]) s = partsP s := by
  intro n
  induction n with
  | zero =>
    intro s hs
    cases s with
    | nil => decide
    | cons c r => simp at hs
  | succ n ih =>
    intro s hs
    have hi := Lib.index_one s 47
    by_cases hm : Lib.indexByte s 47 = -1
    · have h2 : Lib.count s [47] = 0 := Lib.count_miss (hi.trans hm)
      rw [h2, partsP_miss (Lib.indexByte_none hm)]
      rfl
    · have hge := Lib.indexByte_ge s 47
      obtain ⟨i, hi2⟩ : ∃ i : Nat, Lib.indexByte s 47 = i := ⟨(Lib.indexByte s 47).toNat, by omega⟩
      obtain ⟨h3, h4⟩ := Lib.indexByte_some hi2
      have hlt : i < s.length := (List.getElem?_eq_some_iff.1 h3).1
      have h5 : Lib.index s [47] = i := hi.trans hi2
      rw [Lib.count_hit (by simp) h5, partsP_hit h3 h4, ← ih (s.drop (i + 1)) (by rw [List.length_drop]; omega), Nat.add_comm 1]
      conv => lhs; unfold Lib.splitK
      have hb : ¬ (Lib.index s [47] == -1) = true := fun e => by have := beq_iff_eq.1 e; omega
      rw [if_neg hb, h5]
      simp
theorem count_parts (s : Bytes) : Lib.count s [47] + 1 = (partsP s).length := by
  have key : ∀ (n : Nat) (s : Bytes), s.length ≤ n → Lib.count s [47] + 1 = (partsP s).length := by
    intro n
    induction n with
    | zero =>
      intro s hs
      cases s with
      | nil => decide
      | cons c r => simp at hs
    | succ n ih =>
      intro s hs
      have hi := Lib.index_one s 47
      by_cases hm : Lib.indexByte s 47 = -1
      · rw [Lib.count_miss (hi.trans hm), partsP_miss (Lib.indexByte_none hm)]
        rfl
      · have hge := Lib.indexByte_ge s 47
        obtain ⟨i, hi2⟩ : ∃ i : Nat, Lib.indexByte s 47 = i := ⟨(Lib.indexByte s 47).toNat, by omega⟩
        obtain ⟨h3, h4⟩ := Lib.indexByte_some hi2
        have hlt : i < s.length := (List.getElem?_eq_some_iff.1 h3).1
        have h5 : Lib.index s [47] = i := hi.trans hi2
        have h7 := ih (s.drop (i + 1)) (by rw [List.length_drop]; omega)
        rw [Lib.count_hit (by simp) h5, partsP_hit h3 h4]
        show 1 + Lib.count (s.drop (i + 1)) [47] + 1 = (partsP (s.drop (i + 1))).length + 1
        omega
  exact key _ s (Nat.le_refl _)
/-- As Split lays it. -/
theorem split_cells (s : Bytes) : (Lib.splitB ⟨#[47]⟩ 0 (Lib.countB ⟨s.toArray⟩ ⟨#[47]⟩) ⟨s.toArray⟩).map Value.string = (partsP s).map str := by
  have h := Lib.splitB_data ⟨#[47]⟩ 0 (Lib.countB ⟨s.toArray⟩ ⟨#[47]⟩) ⟨s.toArray⟩
  have h2 : Lib.splitK (⟨#[47]⟩ : ByteArray).data.toList 0 (Lib.countB ⟨s.toArray⟩ ⟨#[47]⟩) (⟨s.toArray⟩ : ByteArray).data.toList = partsP s := splitK_parts _ s (Nat.le_refl _)
  rw [h2] at h
  rw [← h, List.map_map]
  refine List.map_congr_left fun x _ => ?_
  show Value.string x = str x.data.toList
  simp [str]
end Go.Proofs.YtlkknekflgclgaaDoor
