/- Plain laws: pages are kept one by one. No program in sight. -/
import Derived.Test.YtcjaokmodicikaaZPlain
namespace Go.Proofs.Ytcjaokmodicikaa
open Go.RowKit

/-! ### Pages are kept one by one -/

/-- What has been kept when so many pages have been gone through. -/
inductive KSt (S : PSt) (old : Int) (ns : List Node) : Nat → PSt → List Int → Int → Prop
  | zero : KSt S old ns 0 S [] old
  | set (n : Node) (h : ns[0]? = some n) (ho : old ≠ 0) (hm : isMine S old = true) : KSt S old ns 1 { S with L := S.L.set (old - 2).toNat n } [old] 0
  | new (k : Nat) (S' : PSt) (ids : List Int) (o : Int) (n : Node) (h : KSt S old ns k S' ids o) (hk : ns[k]? = some n) (hnot : k = 0 → ¬ (old ≠ 0 ∧ isMine S old = true)) :
      KSt S old ns (k + 1) { S' with L := S'.L ++ [n] } (ids ++ [((S'.L.length + 2 : Nat) : Int)]) o
theorem newIds_snoc (n k : Nat) : newIds n (k + 1) = newIds n k ++ [((n + 2 + k : Nat) : Int)] := by
  apply List.ext_getElem?
  intro i
  rw [List.getElem?_append, newIds_length]
  by_cases h : i < k
  · rw [if_pos h, newIds_get _ _ _ h, newIds_get _ _ _ (by omega)]
  · rw [if_neg h]
    by_cases h2 : i = k
    · subst h2; rw [newIds_get _ _ _ (by omega)]; simp
    · rw [List.getElem?_eq_none (by rw [newIds_length]; omega), List.getElem?_eq_none (by simp; omega)]
theorem KSt.form {S : PSt} {old : Int} {ns : List Node} {k : Nat} {S' : PSt} {ids : List Int} {o : Int} (h : KSt S old ns k S' ids o) : k ≤ ns.length ∧
    ((¬ (old ≠ 0 ∧ isMine S old = true) ∨ k = 0) ∧ S' = { S with L := S.L ++ ns.take k } ∧ ids = newIds S.L.length k ∧ o = old ∨
    (old ≠ 0 ∧ isMine S old = true) ∧ ∃ m n0 r, k = m + 1 ∧ ns = n0 :: r ∧ S' = { S with L := S.L.set (old - 2).toNat n0 ++ r.take m } ∧ ids = old :: newIds S.L.length m ∧ o = 0) := by
  induction h with
  | zero => exact ⟨Nat.zero_le _, .inl ⟨.inr rfl, by simp, rfl, rfl⟩⟩
  | set n h ho hm =>
    obtain ⟨hl, _⟩ := List.getElem?_eq_some_iff.1 h
    refine ⟨hl, .inr ⟨⟨ho, hm⟩, 0, n, ns.drop 1, rfl, ?_, by simp, rfl, rfl⟩⟩
    cases ns with
    | nil => simp at hl
    | cons a r => simp at h; subst h; rfl
  | new k S' ids o n h hk hnot ih =>
    obtain ⟨hl, _⟩ := List.getElem?_eq_some_iff.1 hk
    refine ⟨hl, ?_⟩
    rcases ih.2 with ⟨h1, rfl, rfl, rfl⟩ | ⟨h1, m, n0, r, rfl, rfl, rfl, rfl, rfl⟩
    · left
      refine ⟨.inl (h1.elim id hnot), ?_, ?_, rfl⟩
      · simp only [List.append_assoc]
        rw [List.take_add_one, hk]
        rfl
      · rw [newIds_snoc]
        simp only [List.length_append, List.length_take]
        congr 2
        have : min k ns.length = k := by omega
        rw [this]
        omega
    · right
      refine ⟨h1, m + 1, n0, r, rfl, rfl, ?_, ?_, rfl⟩
      · rw [List.getElem?_cons_succ] at hk
        simp only [List.append_assoc]
        rw [List.take_add_one, hk]
        rfl
      · rw [List.getElem?_cons_succ] at hk
        obtain ⟨hl2, _⟩ := List.getElem?_eq_some_iff.1 hk
        rw [newIds_snoc]
        simp only [List.length_append, List.length_set, List.length_take, List.cons_append]
        have : min m r.length = m := by omega
        rw [this]
        congr 3
        omega
theorem KSt.done {S : PSt} {old : Int} {ns : List Node} {S' : PSt} {ids : List Int} {o : Int} (h : KSt S old ns ns.length S' ids o) (hl : S.L.length + ns.length ≤ 3998) : keepP S old ns = (.ok ids, if o ≠ 0 then freeP S' o else S') := by
  rcases h.form.2 with ⟨h1, rfl, rfl, rfl⟩ | ⟨h1, m, n0, r, h2, rfl, rfl, rfl, rfl⟩
  · have e : keepP S o ns = keepNew S o ns := by
      cases ns with
      | nil => rfl
      | cons n r =>
        rw [keepP, if_neg (h1.resolve_right (by simp))]
    rw [e]
    unfold keepNew
    rw [newsP_is ns S hl, List.take_length]
  · rw [keepP, if_pos h1]
    have hm := h1.2
    simp only [isMine, decide_eq_true_eq] at hm
    rw [List.length_cons] at h2 hl
    rw [setP, if_neg (by omega)]
    simp only
    rw [newsP_is r _ (by simp; omega)]
    have hrm : m = r.length := by omega
    subst hrm
    simp only [List.length_set, List.take_length]
    rfl
theorem KSt.keeps {S : PSt} {old : Int} {ns : List Node} {k : Nat} {S' : PSt} {ids : List Int} {o : Int} (h : KSt S old ns k S' ids o) : S'.L.length ≤ S.L.length + k ∧ S'.stop = S.stop ∧ S'.given = S.given ∧ S'.mine = S.mine ∧ ids.length = k := by
  induction h with
  | zero => exact ⟨Nat.le_refl _, rfl, rfl, rfl, rfl⟩
  | set => exact ⟨by simp, rfl, rfl, rfl, rfl⟩
  | new k S' ids o n h hk hnot ih => exact ⟨by simp; omega, ih.2.1, ih.2.2.1, ih.2.2.2.1, by simp [ih.2.2.2.2]⟩
end Go.Proofs.Ytcjaokmodicikaa
