/- Plain laws on things with keys: which lists may be, how many bytes they need, where a key stands, how a list is cut into parts. No program in sight. -/
import Derived.Test.YtbhiamcmiopnoaaGreatDoorZBase
import Derived.Sort.Walk0
namespace Go.Proofs.YtbhiamcmiopnoaaGreatDoor
section
open Go.RowKit
class Keyed (α : Type) where
  key : α → Bytes
  cost : α → Nat
  ok : α → Bool
structure Item where
  key : Bytes
  val : Bytes
  kind : Int
deriving DecidableEq
def okItem (i : Item) : Bool := decide (1 ≤ (i.key.length : Int) ∧ (i.key.length : Int) ≤ 32 ∧ 0 ≤ i.kind ∧ i.kind ≤ 2 ∧ (i.val.length : Int) ≤ 96)
instance : Keyed Item := ⟨Item.key, fun i => 5 + i.key.length + i.val.length, okItem⟩
structure Kid where
  key : Bytes
  page : Int
deriving DecidableEq
def okKid (k : Kid) : Bool := decide ((k.key.length : Int) ≤ 32 ∧ 2 ≤ k.page ∧ k.page < 4000)
instance : Keyed Kid := ⟨Kid.key, fun k => 4 + k.key.length, okKid⟩
section
variable {α : Type} [Keyed α]
def sizeL (l : List α) : Nat := l.foldr (fun i n => Keyed.cost i + n) 1
theorem sizeL_cons (x : α) (l : List α) : sizeL (x :: l) = Keyed.cost x + sizeL l := rfl
theorem sizeL_pos (l : List α) : 1 ≤ sizeL l := by
  induction l with
  | nil => simp [sizeL]
  | cons a l ih => rw [sizeL_cons]; omega
theorem sizeL_app (l m : List α) : sizeL (l ++ m) + 1 = sizeL l + sizeL m := by
  induction l with
  | nil => simp [sizeL]; omega
  | cons a l ih => rw [List.cons_append, sizeL_cons, sizeL_cons]; omega
theorem sizeL_take (l : List α) (k : Nat) (hk : k < l.length) : sizeL (l.take (k + 1)) = sizeL (l.take k) + Keyed.cost l[k] := by
  have h := sizeL_app (l.take k) [l[k]]
  rw [← List.take_succ_eq_append_getElem hk] at h
  simp only [sizeL_cons] at h
  simp [sizeL] at h ⊢
  omega
theorem sizeL_le (l : List α) (k : Nat) : sizeL (l.take k) ≤ sizeL l := by
  have h := sizeL_app (l.take k) (l.drop k)
  rw [List.take_append_drop] at h
  have := sizeL_pos (l.drop k)
  omega
theorem sizeL_drop (l : List α) (k : Nat) : sizeL (l.drop k) ≤ sizeL l := by
  have h := sizeL_app (l.take k) (l.drop k)
  rw [List.take_append_drop] at h
  have := sizeL_pos (l.take k)
  omega
def okAt (l : List α) (k : Nat) : Bool :=
  match l[k]? with
  | none => true
  | some x => Keyed.ok x && (match k with
    | 0 => true
    | j + 1 => match l[j]? with
      | none => true
      | some y => !(Op.bytesLess (Keyed.key x) (Keyed.key y) || Keyed.key x == Keyed.key y))
def rightL (l : List α) : Bool := decide (∀ k, k < l.length → okAt l k = true)
theorem okAt_zero {l : List α} {x : α} (hx : l[0]? = some x) : okAt l 0 = Keyed.ok x := by simp [okAt, hx]
theorem okAt_succ {l : List α} {k : Nat} {x y : α} (hx : l[k + 1]? = some x) (hy : l[k]? = some y) : okAt l (k + 1) = (Keyed.ok x && !(Op.bytesLess (Keyed.key x) (Keyed.key y) || Keyed.key x == Keyed.key y)) := by simp [okAt, hx, hy]
theorem right_not {l : List α} {k : Nat} (hk : k < l.length) (h : okAt l k = false) : rightL l = false := decide_eq_false fun q => by rw [q k hk] at h; exact Bool.noConfusion h
def Rising (l : List α) : Prop := l.Pairwise fun a b => Keyed.key a < Keyed.key b
theorem less_or_eq (x y : Bytes) : (!(Op.bytesLess x y || x == y)) = decide (y < x) := by
  rw [bytesLess_eq]
  by_cases h1 : x < y
  · have : ¬ y < x := List.lt_asymm h1
    simp [h1, this]
  · by_cases h2 : x = y
    · subst h2; simp [List.lt_irrefl]
    · have : y < x := by
        apply Classical.byContradiction
        intro h3
        exact h2 (List.le_antisymm h3 h1)
      simp [h1, h2, this]
theorem rightL_nil : rightL ([] : List α) = true := decide_eq_true fun k hk => by simp at hk
theorem rightL_cons (x : α) (l : List α) : rightL (x :: l) = true ↔ Keyed.ok x = true ∧ (∀ y, l.head? = some y → Keyed.key x < Keyed.key y) ∧ rightL l = true := by
  simp only [rightL, decide_eq_true_eq]
  constructor
  · intro h
    refine ⟨by simpa [okAt] using h 0 (by simp), fun y hy => ?_, fun k hk => ?_⟩
    · have hl : 0 < l.length := by cases l <;> simp_all
      have h1 := h 1 (by simp; omega)
      rw [okAt_succ (x := y) (y := x) (by rw [List.getElem?_cons_succ, ← List.head?_eq_getElem?]; exact hy) rfl, less_or_eq] at h1
      simp only [Bool.and_eq_true, decide_eq_true_eq] at h1
      exact h1.2
    · have h1 := h (k + 1) (by simp; omega)
      cases k with
      | zero =>
        obtain ⟨y, hy⟩ : ∃ y, l[0]? = some y := ⟨l[0], List.getElem?_eq_getElem hk⟩
        rw [okAt_succ (x := y) (y := x) (by simpa using hy) rfl] at h1
        rw [okAt_zero hy]
        simp only [Bool.and_eq_true] at h1
        exact h1.1
      | succ j =>
        obtain ⟨y, hy⟩ : ∃ y, l[j + 1]? = some y := ⟨l[j + 1], List.getElem?_eq_getElem hk⟩
        obtain ⟨z, hz⟩ : ∃ z, l[j]? = some z := ⟨l[j], List.getElem?_eq_getElem (by omega)⟩
        rw [okAt_succ (x := y) (y := z) (by simpa using hy) (by simpa using hz)] at h1
        rw [okAt_succ hy hz]
        exact h1
  · rintro ⟨h0, h1, h2⟩ k hk
    cases k with
    | zero => simpa [okAt] using h0
    | succ k =>
      have hk' : k < l.length := by simpa using hk
      have h3 := h2 k hk'
      cases k with
      | zero =>
        obtain ⟨y, hy⟩ : ∃ y, l[0]? = some y := ⟨l[0], List.getElem?_eq_getElem hk'⟩
        rw [okAt_succ (x := y) (y := x) (by simpa using hy) rfl, less_or_eq]
        rw [okAt_zero hy] at h3
        simp [h3, h1 y (by rw [List.head?_eq_getElem?]; exact hy)]
      | succ j =>
        obtain ⟨y, hy⟩ : ∃ y, l[j + 1]? = some y := ⟨l[j + 1], List.getElem?_eq_getElem hk'⟩
        obtain ⟨z, hz⟩ : ∃ z, l[j]? = some z := ⟨l[j], List.getElem?_eq_getElem (by omega)⟩
        rw [okAt_succ (x := y) (y := z) (by simpa using hy) (by simpa using hz)]
        rw [okAt_succ hy hz] at h3
        exact h3
theorem rightL_iff (l : List α) : rightL l = true ↔ (∀ x ∈ l, Keyed.ok x = true) ∧ Rising l := by
  induction l with
  | nil => simp [rightL_nil, Rising]
  | cons x l ih =>
    rw [rightL_cons, ih]
    unfold Rising
    rw [List.pairwise_cons]
    constructor
    · rintro ⟨h0, h1, h2, h3⟩
      refine ⟨fun y hy => ?_, fun y hy => ?_, h3⟩
      · rcases List.mem_cons.1 hy with rfl | hy
        · exact h0
        · exact h2 y hy
      · cases l with
        | nil => simp at hy
        | cons z l =>
          have hz := h1 z rfl
          rcases List.mem_cons.1 hy with rfl | hy
          · exact hz
          · exact List.lt_trans hz ((List.pairwise_cons.1 h3).1 y hy)
    · rintro ⟨h0, h1, h2⟩
      exact ⟨h0 x (by simp), fun y hy => h1 y (List.mem_of_head? hy), fun y hy => h0 y (by simp [hy]), h2⟩
def Fits (d : List α) (c : Nat) : Prop := c < d.length ∧ c < 255 ∧ sizeL (d.take (c + 1)) ≤ 232
instance (d : List α) (c : Nat) : Decidable (Fits d c) := by unfold Fits; infer_instance
def cutFrom (d : List α) : Nat → Nat → Nat
  | 0, c => c
  | f + 1, c => if Fits d c then cutFrom d f (c + 1) else c
def cut1 (d : List α) : Nat := cutFrom d (d.length - 1) 1
theorem cutFrom_step {d : List α} {c : Nat} (h : Fits d c) : cutFrom d (d.length - c) c = cutFrom d (d.length - (c + 1)) (c + 1) := by
  have : d.length - c = (d.length - (c + 1)) + 1 := by have := h.1; omega
  rw [this, cutFrom, if_pos h]
theorem cutFrom_stop {d : List α} {c : Nat} (f : Nat) (h : ¬ Fits d c) : cutFrom d f c = c := by
  cases f with
  | zero => rfl
  | succ f => rw [cutFrom, if_neg h]
theorem cutFrom_le (d : List α) (f c : Nat) (h : c + f ≤ d.length) : c ≤ cutFrom d f c ∧ cutFrom d f c ≤ c + f := by
  induction f generalizing c with
  | zero => exact ⟨Nat.le_refl _, Nat.le_refl _⟩
  | succ f ih =>
    rw [cutFrom]
    split
    · have := ih (c + 1) (by omega); omega
    · omega
theorem cutFrom_ok (d : List α) (f c : Nat) (h1 : c ≤ 255) (h2 : sizeL (d.take c) ≤ 232) : cutFrom d f c ≤ 255 ∧ sizeL (d.take (cutFrom d f c)) ≤ 232 := by
  induction f generalizing c with
  | zero => exact ⟨h1, h2⟩
  | succ f ih =>
    rw [cutFrom]
    split
    · rename_i h; exact ih (c + 1) (by have := h.2.1; omega) h.2.2
    · exact ⟨h1, h2⟩
theorem cutFrom_max (d : List α) (f c : Nat) (h : d.length ≤ c + f) : ¬ Fits d (cutFrom d f c) := by
  induction f generalizing c with
  | zero => rintro ⟨q, _⟩; simp only [cutFrom] at q; omega
  | succ f ih =>
    rw [cutFrom]
    split
    · exact ih (c + 1) (by omega)
    · assumption
theorem cut1_le (d : List α) (h : d ≠ []) : 1 ≤ cut1 d ∧ cut1 d ≤ d.length := by
  have : 0 < d.length := List.length_pos_iff.2 h
  have := cutFrom_le d (d.length - 1) 1 (by omega)
  unfold cut1
  omega
theorem cut1_max (d : List α) : ¬ Fits d (cut1 d) := cutFrom_max d _ _ (by omega)
theorem cut1_ok (d : List α) (h : sizeL (d.take 1) ≤ 232) : cut1 d ≤ 255 ∧ sizeL (d.take (cut1 d)) ≤ 232 := cutFrom_ok d _ _ (by omega) h
def cutAll : Nat → List α → List (List α)
  | 0, _ => []
  | _ + 1, [] => []
  | f + 1, x :: d => (x :: d).take (cut1 (x :: d)) :: cutAll f ((x :: d).drop (cut1 (x :: d)))
theorem cutAll_fuel (f : Nat) (d : List α) (h : d.length ≤ f) : cutAll f d = cutAll d.length d := by
  induction f using Nat.strongRecOn generalizing d with
  | _ f ih =>
    cases d with
    | nil => cases f <;> rfl
    | cons x d =>
      cases f with
      | zero => simp at h
      | succ f =>
        have hc := cut1_le (x :: d) (by simp)
        rw [List.length_cons, cutAll, cutAll]
        have hl : ((x :: d).drop (cut1 (x :: d))).length ≤ d.length := by rw [List.length_drop, List.length_cons]; omega
        rw [List.length_cons] at h
        congr 1
        rw [ih f (by omega) _ (by omega), ← ih d.length (by omega) _ hl]
def cutL (l : List α) : List (List α) := cutAll l.length l
theorem cutL_nil : cutL ([] : List α) = [] := rfl
theorem cutL_step (d : List α) (h : d ≠ []) : cutL d = d.take (cut1 d) :: cutL (d.drop (cut1 d)) := by
  cases d with
  | nil => exact absurd rfl h
  | cons x d =>
    have hc := cut1_le (x :: d) (by simp)
    unfold cutL
    rw [List.length_cons, cutAll]
    congr 1
    exact cutAll_fuel _ _ (by rw [List.length_drop, List.length_cons]; omega)
theorem cutL_ind {P : List α → Prop} (h0 : P []) (h1 : ∀ d, d ≠ [] → P (d.drop (cut1 d)) → P d) (l : List α) : P l := by
  generalize hn : l.length = n
  induction n using Nat.strongRecOn generalizing l with
  | _ n ih =>
    by_cases h : l = []
    · subst h; exact h0
    · have hc := cut1_le l h
      exact h1 l h (ih _ (by rw [List.length_drop]; omega) _ rfl)
theorem cutL_flat (l : List α) : (cutL l).flatten = l := by
  induction l using cutL_ind with
  | h0 => rfl
  | h1 d h ih => rw [cutL_step d h, List.flatten_cons, ih, List.take_append_drop]
theorem cutL_ne (l : List α) : ∀ p ∈ cutL l, p ≠ [] := by
  induction l using cutL_ind with
  | h0 => intro p hp; cases hp
  | h1 d h ih =>
    intro p hp
    rw [cutL_step d h] at hp
    rcases List.mem_cons.1 hp with rfl | hp
    · have hc := cut1_le d h
      intro q
      have := congrArg List.length q
      rw [List.length_take, List.length_nil] at this
      omega
    · exact ih p hp
theorem cutL_fit (l : List α) (hl : ∀ x ∈ l, Keyed.cost x ≤ 231) : ∀ p ∈ cutL l, p.length ≤ 255 ∧ sizeL p ≤ 232 := by
  induction l using cutL_ind with
  | h0 => intro p hp; cases hp
  | h1 d h ih =>
    intro p hp
    rw [cutL_step d h] at hp
    rcases List.mem_cons.1 hp with rfl | hp
    · have h1 : sizeL (d.take 1) ≤ 232 := by
        cases d with
        | nil => exact absurd rfl h
        | cons x d => have := hl x (by simp); simp [sizeL]; omega
      have := cut1_ok d h1
      refine ⟨by rw [List.length_take]; omega, this.2⟩
    · exact ih (fun x hx => hl x (List.mem_of_mem_drop hx)) p hp
def ahead (l : List α) (k : Bytes) : List α := l.takeWhile fun x => decide (Keyed.key x < k)
def behind (l : List α) (k : Bytes) : List α := l.dropWhile fun x => decide (Keyed.key x < k)
def findAt (l : List α) (k : Bytes) : Nat := (ahead l k).length
theorem ahead_behind (l : List α) (k : Bytes) : ahead l k ++ behind l k = l := List.takeWhile_append_dropWhile
theorem findAt_le (l : List α) (k : Bytes) : findAt l k ≤ l.length := by
  have := congrArg List.length (ahead_behind l k)
  rw [List.length_append] at this
  unfold findAt
  omega
theorem take_find (l : List α) (k : Bytes) : l.take (findAt l k) = ahead l k := by
  have h := List.take_left (l₁ := ahead l k) (l₂ := behind l k)
  rwa [ahead_behind] at h
theorem drop_find (l : List α) (k : Bytes) : l.drop (findAt l k) = behind l k := by
  have h := List.drop_left (l₁ := ahead l k) (l₂ := behind l k)
  rwa [ahead_behind] at h
theorem ahead_lt (l : List α) (k : Bytes) : ∀ x ∈ ahead l k, Keyed.key x < k := by
  induction l with
  | nil => intro x hx; simp [ahead] at hx
  | cons y l ih =>
    intro x hx
    unfold ahead at hx ih
    rw [List.takeWhile_cons] at hx
    split at hx
    · rename_i hy
      rcases List.mem_cons.1 hx with rfl | hx
      · simpa using hy
      · exact ih x hx
    · cases hx
theorem behind_ge {l : List α} (hr : Rising l) (k : Bytes) : ∀ x ∈ behind l k, ¬ Keyed.key x < k := by
  intro x hx
  induction l with
  | nil => simp [behind] at hx
  | cons y l ih =>
    unfold behind at hx ih
    rw [List.dropWhile_cons] at hx
    unfold Rising at hr
    rw [List.pairwise_cons] at hr
    split at hx
    · exact ih hr.2 hx
    · rename_i hy
      simp only [decide_eq_true_eq] at hy
      rcases List.mem_cons.1 hx with rfl | hx
      · exact hy
      · exact fun q => hy (List.lt_trans (hr.1 x hx) q)
theorem lt_findAt {l : List α} (hr : Rising l) (k : Bytes) (i : Nat) (x : α) (hx : l[i]? = some x) : i < findAt l k ↔ Keyed.key x < k := by
  constructor
  · intro h
    refine ahead_lt l k x ?_
    rw [← take_find l k]
    exact List.mem_of_getElem? (i := i) (by rw [List.getElem?_take, if_pos h]; exact hx)
  · intro h
    apply Classical.byContradiction
    intro hn
    refine behind_ge hr k x ?_ h
    rw [← drop_find l k]
    exact List.mem_of_getElem? (i := i - findAt l k) (by rw [List.getElem?_drop, show findAt l k + (i - findAt l k) = i from by omega]; exact hx)
theorem count_find {l : List α} (hr : Rising l) (k : Bytes) (p : Nat → Bool) (hp : ∀ i x, l[i]? = some x → p i = !decide (Keyed.key x < k)) : (List.range l.length).countP (fun i => !p i) = findAt l k := by
  have hf := findAt_le l k
  have e : ∀ i, i < l.length → ((!p i) = true ↔ i < findAt l k) := fun i hi => by
    have hx : l[i]? = some l[i] := List.getElem?_eq_getElem hi
    rw [hp i _ hx, lt_findAt hr k i _ hx]
    simp
  have g : ∀ n m : Nat, m ≤ n → (List.range n).countP (fun i => decide (i < m)) = m := fun n => by
    induction n with
    | zero => intro m hm; simp; omega
    | succ n ih =>
      intro m hm
      rw [List.range_succ, List.countP_append]
      by_cases hmn : m ≤ n
      · rw [ih m hmn]; simp; omega
      · have : m = n + 1 := by omega
        subst this
        have h2 : (List.range n).countP (fun i => decide (i < n + 1)) = (List.range n).countP (fun i => decide (i < n)) := by
          refine List.countP_congr fun i hi => ?_
          rw [List.mem_range] at hi
          simp only [decide_eq_true_eq]
          omega
        rw [h2, ih n (Nat.le_refl _)]
        simp
  rw [← g l.length (findAt l k) hf]
  refine List.countP_congr fun i hi => ?_
  rw [List.mem_range] at hi
  simp only [decide_eq_true_eq]
  exact e i hi
end
end
section
open Go.RowKit
inductive Node
  | leaf (l : List Item)
  | twig (l : List Kid)
  | over (b : Bytes)
structure PSt where
  L : List Node
  mine : Int
  given : List Int
  bad : Bool
  twice : Bool
  stop : Int
abbrev Res (α : Type) := Except Int α × PSt
def nodeAt (L : List Node) (id : Int) : Option Node := if 2 ≤ id then L[(id - 2).toNat]? else none
def getP (p : PSt) (id : Int) : Res Node :=
  if p.stop = 0 then (.error 14, p) else
    match nodeAt p.L id with
    | some n => (.ok n, if 0 < p.stop then { p with stop := p.stop - 1 } else p)
    | none => (.error 8, if 0 < p.stop then { p with stop := p.stop - 1 } else p)
def loadP (p : PSt) (id : Int) (depth : Int) : Res Node := if 12 < depth then (.error 25, p) else getP p id
def newP (p : PSt) (n : Node) : Res Int := if 3998 ≤ p.L.length then (.error 20, p) else (.ok (p.L.length + 2 : Nat), { p with L := p.L ++ [n] })
def isMine (p : PSt) (id : Int) : Bool := decide (p.mine ≤ id ∧ id - 2 < (p.L.length : Int) ∧ 2 ≤ id)
def setP (p : PSt) (id : Int) (n : Node) : Res Unit :=
  if id < p.mine ∨ (p.L.length : Int) ≤ id - 2 ∨ id < 2 then (.error 1, { p with bad := true }) else (.ok (), { p with L := p.L.set (id - 2).toNat n })
def freeP (p : PSt) (id : Int) : PSt := { p with twice := p.twice || p.given.any (fun g => g == id), given := p.given ++ [id] }
def newsP (p : PSt) : List Node → Res (List Int)
  | [] => (.ok [], p)
  | n :: ns => match newP p n with
    | (.error e, p) => (.error e, p)
    | (.ok id, p) => match newsP p ns with
      | (.error e, p) => (.error e, p)
      | (.ok ids, p) => (.ok (id :: ids), p)
def keepNew (p : PSt) (old : Int) (ns : List Node) : Res (List Int) :=
  match newsP p ns with
  | (.error e, p) => (.error e, p)
  | (.ok ids, p) => (.ok ids, if old ≠ 0 then freeP p old else p)
def keepP (p : PSt) (old : Int) : List Node → Res (List Int)
  | [] => keepNew p old []
  | n :: ns =>
    if old ≠ 0 ∧ isMine p old = true then
      match setP p old n with
      | (.error e, p) => (.error e, p)
      | (.ok _, p) => match newsP p ns with
        | (.error e, p) => (.error e, p)
        | (.ok ids, p) => (.ok (old :: ids), p)
    else keepNew p old (n :: ns)
def kidsOf {α : Type} [Keyed α] (parts : List (List α)) (ids : List Int) : List Kid := List.zipWith (fun x id => ⟨(x.head?.map Keyed.key).getD [], id⟩) parts ids
def leavesP (p : PSt) (old : Int) (l : List Item) : Res (List Kid) :=
  if rightL l = true then
    match keepP p old ((cutL l).map Node.leaf) with
    | (.error e, p) => (.error e, p)
    | (.ok ids, p) => (.ok (kidsOf (cutL l) ids), p)
  else (.error 1, p)
def fixParts : List (List Kid) → List (List Kid)
  | [] => []
  | [a] => [a]
  | [a, b] => if b.length = 1 then [a.dropLast, a.getLast?.toList ++ b] else [a, b]
  | a :: b :: c :: l => a :: fixParts (b :: c :: l)
def cutT (l : List Kid) : List (List Kid) := fixParts (cutL l)
def twigsP (p : PSt) (old : Int) (l : List Kid) : Res (List Kid) :=
  if rightL l = true then
    match keepP p old ((cutT l).map Node.twig) with
    | (.error e, p) => (.error e, p)
    | (.ok ids, p) => (.ok (kidsOf (cutT l) ids), p)
  else (.error 25, p)
def findK (l : List Kid) (k : Bytes) : Nat := (l.takeWhile fun x => !decide (k < x.key)).length - 1
def putL (l : List Item) (i : Item) : List Item :=
  ahead l i.key ++ i :: (match behind l i.key with
    | [] => []
    | x :: r => if x.key = i.key then r else x :: r)
def dropL (l : List Item) (k : Bytes) : List Item × Bool :=
  match behind l k with
  | x :: r => if x.key = k then (ahead l k ++ r, true) else (l, false)
  | [] => (l, false)
def swapL (l : List Kid) (at_ : Nat) (w : List Kid) : List Kid := l.take at_ ++ w ++ l.drop (at_ + 1)
def minB (a b : Bytes) : Bytes := if b < a then b else a
def lowerHead (k : Bytes) : List Kid → List Kid
  | [] => []
  | x :: l => ⟨minB x.key k, x.page⟩ :: l
def putP : Nat → PSt → Int → Item → Int → Res (List Kid)
  | 0, p, _, _, _ => (.error 25, p)
  | f + 1, p, id, i, depth =>
    match loadP p id depth with
    | (.error e, p) => (.error e, p)
    | (.ok (.leaf l), p) => leavesP p id (putL l i)
    | (.ok (.twig kids), p) =>
      match kids[findK kids i.key]? with
      | none => (.error 0, p)
      | some k => match putP f p k.page i (depth + 1) with
        | (.error e, p) => (.error e, p)
        | (.ok w, p) => twigsP p id (swapL kids (findK kids i.key) (lowerHead k.key w))
    | (.ok (.over _), p) => (.error 25, p)
def topP : Nat → PSt → List Kid → Res Int
  | 0, p, _ => (.error 0, p)
  | _ + 1, p, [] => (.ok 0, p)
  | _ + 1, p, [k] => (.ok k.page, p)
  | f + 1, p, l => match twigsP p 0 l with
    | (.error e, p) => (.error e, p)
    | (.ok up, p) => topP f p up
def putTree (p : PSt) (root : Int) (i : Item) : Res Int :=
  if okItem i = true then
    match (if root = 0 then leavesP p 0 [i] else putP 13 p root i 1) with
    | (.error e, p) => (.error e, p)
    | (.ok l, p) => topP 20 p l
  else (.error 1, p)
/-! ### What is kept -/
theorem nodeAt_lt {L : List Node} {id : Int} {n : Node} (h : nodeAt L id = some n) : 2 ≤ id ∧ id < (L.length + 2 : Nat) := by
  unfold nodeAt at h
  split at h
  · rename_i h2
    obtain ⟨hl, _⟩ := List.getElem?_eq_some_iff.1 h
    omega
  · cases h
theorem nodeAt_app {L M : List Node} {id : Int} (h : id < (L.length + 2 : Nat)) : nodeAt (L ++ M) id = nodeAt L id := by
  unfold nodeAt
  split
  · rw [List.getElem?_append_left (by omega)]
  · rfl
theorem nodeAt_new (L M : List Node) (k : Nat) : nodeAt (L ++ M) ((L.length + 2 + k : Nat) : Int) = M[k]? := by
  unfold nodeAt
  rw [if_pos (by omega), List.getElem?_append_right (by omega)]
  congr 1
  omega
theorem nodeAt_set {L : List Node} {id j : Int} {n : Node} (hj : j ≠ id) (h2 : 2 ≤ id) : nodeAt (L.set (id - 2).toNat n) j = nodeAt L j := by
  unfold nodeAt
  split
  · rw [List.getElem?_set_ne (by omega)]
  · rfl
theorem nodeAt_same {L : List Node} {id : Int} {n : Node} (h2 : 2 ≤ id) (h : id < (L.length + 2 : Nat)) : nodeAt (L.set (id - 2).toNat n) id = some n := by
  unfold nodeAt
  rw [if_pos h2, List.getElem?_set_self (by omega)]
def newIds (n m : Nat) : List Int := (List.range m).map fun k => ((n + 2 + k : Nat) : Int)
theorem newIds_length (n m : Nat) : (newIds n m).length = m := by simp [newIds]
theorem newIds_get (n m k : Nat) (h : k < m) : (newIds n m)[k]? = some ((n + 2 + k : Nat) : Int) := by simp [newIds, h]
theorem newIds_mem (n m : Nat) (j : Int) : j ∈ newIds n m ↔ (n + 2 : Nat) ≤ j ∧ j < (n + 2 + m : Nat) := by
  simp only [newIds, List.mem_map, List.mem_range]
  constructor
  · rintro ⟨k, hk, rfl⟩; omega
  · rintro ⟨h1, h2⟩; exact ⟨(j - (n + 2 : Nat)).toNat, by omega, by omega⟩
theorem newIds_succ (n m : Nat) : newIds n (m + 1) = ((n + 2 : Nat) : Int) :: newIds (n + 1) m := by
  simp only [newIds, List.range_succ_eq_map, List.map_cons, List.map_map]
  congr 1
  apply List.map_congr_left
  intro a _
  simp only [Function.comp]
  congr 1
  omega
theorem newIds_nodup (n m : Nat) : (newIds n m).Nodup := by
  induction m generalizing n with
  | zero => simp [newIds]
  | succ m ih =>
    rw [newIds_succ, List.nodup_cons]
    refine ⟨fun h => ?_, ih _⟩
    rw [newIds_mem] at h
    omega
theorem newsP_is (ns : List Node) (p : PSt) (h : p.L.length + ns.length ≤ 3998) : newsP p ns = (.ok (newIds p.L.length ns.length), { p with L := p.L ++ ns }) := by
  induction ns generalizing p with
  | nil => simp [newsP, newIds]
  | cons n ns ih =>
    rw [List.length_cons] at h
    rw [newsP, newP, if_neg (by omega)]
    simp only
    rw [ih _ (by simp; omega)]
    simp [newIds_succ]
structure Kept (p : PSt) (old : Int) (ns : List Node) (ids : List Int) (p' : PSt) : Prop where
  len : ids.length = ns.length
  at_ : ∀ (k : Nat) (n : Node), ns[k]? = some n → ∃ id, ids[k]? = some id ∧ nodeAt p'.L id = some n
  nd : ids.Nodup
  new : ∀ j ∈ ids, j = old ∧ isMine p old = true ∨ (p.L.length + 2 : Nat) ≤ j
  pos : ∀ j ∈ ids, 2 ≤ j ∧ j < 4000
  other : ∀ j : Int, j < (p.L.length + 2 : Nat) → j ≠ old ∨ isMine p j = false → nodeAt p'.L j = nodeAt p.L j
  grow : p.L.length ≤ p'.L.length
  few : p'.L.length ≤ p.L.length + ns.length
  given : (old ∈ ids ∨ old = 0) ∧ p'.given = p.given ∧ p'.twice = p.twice ∨ old ∉ ids ∧ old ≠ 0 ∧ p'.given = p.given ++ [old] ∧ p'.twice = (p.twice || p.given.any fun g => g == old)
  mine : p'.mine = p.mine
  bad : p'.bad = p.bad
  stop : p'.stop = p.stop
  all : ∀ j : Int, (p.L.length + 2 : Nat) ≤ j → j < (p'.L.length + 2 : Nat) → j ∈ ids
theorem keepNew_is (p : PSt) (old : Int) (ns : List Node) (h : p.L.length + ns.length ≤ 3998) (ho : old < (p.L.length + 2 : Nat)) : ∃ ids p', keepNew p old ns = (.ok ids, p') ∧ Kept p old ns ids p' := by
  refine ⟨_, _, by unfold keepNew; rw [newsP_is ns p h], ?_⟩
  have hmem : ∀ j, j ∈ newIds p.L.length ns.length → (p.L.length + 2 : Nat) ≤ j ∧ j < 4000 := fun j hj => by rw [newIds_mem] at hj; omega
  have hL : (if old ≠ 0 then freeP { p with L := p.L ++ ns } old else { p with L := p.L ++ ns }).L = p.L ++ ns := by split <;> rfl
  refine ⟨newIds_length _ _, fun k n hk => ?_, newIds_nodup _ _, fun j hj => .inr (hmem j hj).1, fun j hj => ?_, fun j hj _ => ?_, ?_, ?_, ?_, ?_, ?_, ?_, fun j h1 h2 => by rw [hL, List.length_append] at h2; rw [newIds_mem]; omega⟩
  · obtain ⟨hk', _⟩ := List.getElem?_eq_some_iff.1 hk
    exact ⟨_, newIds_get _ _ _ hk', by rw [hL, nodeAt_new]; exact hk⟩
  · have := hmem j hj; omega
  · rw [hL]; exact nodeAt_app hj
  · rw [hL]; simp
  · rw [hL]; simp
  · by_cases h0 : old = 0
    · rw [if_neg (by simpa using h0)]; exact .inl ⟨.inr h0, rfl, rfl⟩
    · rw [if_pos (by simpa using h0)]; exact .inr ⟨fun q => by have := (hmem _ q).1; omega, h0, rfl, rfl⟩
  all_goals split <;> rfl
theorem keepP_is (p : PSt) (old : Int) (ns : List Node) (h : p.L.length + ns.length ≤ 3998) (ho : old < (p.L.length + 2 : Nat)) : ∃ ids p', keepP p old ns = (.ok ids, p') ∧ Kept p old ns ids p' := by
  cases ns with
  | nil => exact keepNew_is p old [] h ho
  | cons n ns =>
    rw [keepP]
    by_cases hm : old ≠ 0 ∧ isMine p old = true
    · rw [if_pos hm]
      have hm' := hm.2
      simp only [isMine, decide_eq_true_eq] at hm'
      rw [List.length_cons] at h
      rw [setP, if_neg (by omega)]
      simp only
      rw [newsP_is ns _ (by simp; omega)]
      refine ⟨_, _, rfl, ?_⟩
      simp only [List.length_set]
      have hmem : ∀ j, j ∈ newIds p.L.length ns.length → (p.L.length + 2 : Nat) ≤ j ∧ j < 4000 := fun j hj => by rw [newIds_mem] at hj; omega
      have hn : nodeAt (p.L.set (old - 2).toNat n ++ ns) old = some n := by rw [nodeAt_app (by rw [List.length_set]; exact ho)]; exact nodeAt_same hm'.2.2 ho
      refine ⟨by simp [newIds_length], fun k m hk => ?_, ?_, fun j hj => ?_, fun j hj => ?_, fun j hj ho2 => ?_, by simp, by simp, ?_, rfl, rfl, rfl, fun j h1 h2 => List.mem_cons_of_mem _ (by simp only [List.length_append, List.length_set] at h2; rw [newIds_mem]; omega)⟩
      · cases k with
        | zero => simp only [List.getElem?_cons_zero, Option.some.injEq] at hk; subst hk; exact ⟨old, rfl, hn⟩
        | succ k =>
          rw [List.getElem?_cons_succ] at hk
          obtain ⟨hk', _⟩ := List.getElem?_eq_some_iff.1 hk
          refine ⟨_, by rw [List.getElem?_cons_succ]; exact newIds_get _ _ _ hk', ?_⟩
          have q := nodeAt_new (p.L.set (old - 2).toNat n) ns k
          rw [List.length_set] at q
          rw [q]; exact hk
      · rw [List.nodup_cons]
        exact ⟨fun q => by have := (hmem _ q).1; omega, newIds_nodup _ _⟩
      · rcases List.mem_cons.1 hj with rfl | hj
        · exact .inl ⟨rfl, hm.2⟩
        · exact .inr (hmem _ hj).1
      · rcases List.mem_cons.1 hj with rfl | hj
        · omega
        · have := hmem _ hj; omega
      · rw [nodeAt_app (by rw [List.length_set]; exact hj), nodeAt_set (fun e => by rcases ho2 with q | q; exact q e; subst e; rw [hm.2] at q; cases q) hm'.2.2]
      · exact .inl ⟨.inl (by simp), rfl, rfl⟩
    · rw [if_neg hm]; exact keepNew_is p old (n :: ns) h ho
/-! ### Trees -/
theorem lt_of_lt_not {a b k : Bytes} (h1 : a < k) (h2 : ¬ b < k) : a < b := by
  apply Classical.byContradiction
  intro h3
  by_cases h4 : b < a
  · exact h2 (List.lt_trans h4 h1)
  · have := List.le_antisymm h3 h4
    subst this
    exact h2 h1
theorem not_lt_trans {a b c : Bytes} (h1 : ¬ b < a) (h2 : ¬ c < b) : ¬ c < a := fun h => h1 (by
  apply Classical.byContradiction
  intro h3
  exact h2 (lt_of_lt_not h h3))
structure Sprout where
  kid : Kid
  low : Bytes
  items : List Item
  ids : List Int
def okNode : Node → Prop
  | .leaf l => rightL l = true ∧ sizeL l ≤ 232 ∧ l.length ≤ 255
  | .twig l => rightL l = true ∧ sizeL l ≤ 232 ∧ l.length ≤ 255
  | .over b => b.length ≤ 232
structure Bounds (ts : List Sprout) : Prop where
  lo : ∀ t ∈ ts, ¬ t.low < t.kid.key
  hi : ts.Pairwise fun s t => ∀ i ∈ s.items, i.key < t.kid.key
def hd {α : Type} [Keyed α] (l : List α) : Bytes := (l.head?.map Keyed.key).getD []
theorem hd_le {α : Type} [Keyed α] {l : List α} (hr : Rising l) : ∀ x ∈ l, ¬ Keyed.key x < hd l := by
  intro x hx
  cases l with
  | nil => cases hx
  | cons y l =>
    rcases List.mem_cons.1 hx with rfl | hx
    · exact List.lt_irrefl _
    · exact List.lt_asymm ((List.pairwise_cons.1 hr).1 x hx)
theorem hd_mem {α : Type} [Keyed α] {l : List α} (h : l ≠ []) : ∃ x ∈ l, Keyed.key x = hd l := by
  cases l with
  | nil => exact absurd rfl h
  | cons y l => exact ⟨y, by simp, rfl⟩
inductive Tree (L : List Node) : Nat → Int → Bytes → List Item → List Int → Prop
  | leaf (id : Int) (l : List Item) (h : nodeAt L id = some (.leaf l)) (ne : l ≠ []) (ok : okNode (.leaf l)) : Tree L 0 id (hd l) l [id]
  | twig (n : Nat) (id : Int) (ts : List Sprout) (h : nodeAt L id = some (.twig (ts.map Sprout.kid))) (two : 2 ≤ ts.length) (ok : okNode (.twig (ts.map Sprout.kid)))
      (sub : ∀ t ∈ ts, Tree L n t.kid.page t.low t.items t.ids) (bd : Bounds ts) (nd : (id :: ts.flatMap Sprout.ids).Nodup) : Tree L (n + 1) id (hd (ts.map Sprout.kid)) (ts.flatMap Sprout.items) (id :: ts.flatMap Sprout.ids)
structure Forest (L : List Node) (n : Nat) (ts : List Sprout) : Prop where
  sub : ∀ t ∈ ts, Tree L n t.kid.page t.low t.items t.ids
  bd : Bounds ts
  ok : rightL (ts.map Sprout.kid) = true
  nd : (ts.flatMap Sprout.ids).Nodup
theorem Tree.keep {L L' : List Node} {n : Nat} {id : Int} {b : Bytes} {l : List Item} {ids : List Int} (h : Tree L n id b l ids) (hk : ∀ j ∈ ids, nodeAt L' j = nodeAt L j) : Tree L' n id b l ids := by
  induction h with
  | leaf id l h ne ok => exact .leaf id l ((hk id (by simp)).trans h) ne ok
  | twig n id ts h two ok sub bd nd ih =>
    exact .twig n id ts ((hk id (by simp)).trans h) two ok (fun t ht => ih t ht fun j hj => hk j (List.mem_cons_of_mem _ (List.mem_flatMap.2 ⟨t, ht, hj⟩))) bd nd
theorem Tree.ne {L : List Node} {n : Nat} {id : Int} {b : Bytes} {l : List Item} {ids : List Int} (h : Tree L n id b l ids) : l ≠ [] := by
  induction h with
  | leaf id l h ne ok => exact ne
  | twig n id ts h two ok sub bd nd ih =>
    intro q
    cases ts with
    | nil => simp at two
    | cons t ts =>
      rw [List.flatMap_cons, List.append_eq_nil_iff] at q
      exact ih t (by simp) q.1
theorem Tree.low_le {L : List Node} {n : Nat} {id : Int} {b : Bytes} {l : List Item} {ids : List Int} (h : Tree L n id b l ids) : ∀ i ∈ l, ¬ i.key < b := by
  induction h with
  | leaf id l h ne ok => exact hd_le ((rightL_iff _).1 ok.1).2
  | twig n id ts h two ok sub bd nd ih =>
    intro i hi
    obtain ⟨t, ht, hi⟩ := List.mem_flatMap.1 hi
    exact not_lt_trans (not_lt_trans (hd_le ((rightL_iff _).1 ok.1).2 t.kid (List.mem_map_of_mem ht)) (bd.lo t ht)) (ih t ht i hi)
theorem Tree.self {L : List Node} {n : Nat} {id : Int} {b : Bytes} {l : List Item} {ids : List Int} (h : Tree L n id b l ids) : id ∈ ids := by cases h <;> simp
theorem Tree.there {L : List Node} {n : Nat} {id : Int} {b : Bytes} {l : List Item} {ids : List Int} (h : Tree L n id b l ids) : ∀ j ∈ ids, 2 ≤ j ∧ j < (L.length + 2 : Nat) := by
  induction h with
  | leaf id l h ne ok => intro j hj; rw [List.mem_singleton] at hj; subst hj; exact nodeAt_lt h
  | twig n id ts h two ok sub bd nd ih =>
    intro j hj
    rcases List.mem_cons.1 hj with rfl | hj
    · exact nodeAt_lt h
    · obtain ⟨t, ht, hj⟩ := List.mem_flatMap.1 hj
      exact ih t ht j hj
theorem Tree.nodup {L : List Node} {n : Nat} {id : Int} {b : Bytes} {l : List Item} {ids : List Int} (h : Tree L n id b l ids) : ids.Nodup := by
  cases h with
  | leaf => simp
  | twig n id ts h two ok sub bd nd => exact nd
theorem length_flat {α β : Type} (f : α → List β) (m : Nat) (ts : List α) (h : ∀ t ∈ ts, m ≤ (f t).length) : ts.length * m ≤ (ts.flatMap f).length := by
  induction ts with
  | nil => simp
  | cons t ts ih =>
    rw [List.flatMap_cons, List.length_append, List.length_cons, Nat.succ_mul]
    have h1 := h t (by simp)
    have h2 := ih fun t ht => h t (by simp [ht])
    omega
theorem Tree.many {L : List Node} {n : Nat} {id : Int} {b : Bytes} {l : List Item} {ids : List Int} (h : Tree L n id b l ids) : 2 ^ n ≤ l.length := by
  induction h with
  | leaf id l h ne ok => have := List.length_pos_iff.2 ne; rw [Nat.pow_zero]; omega
  | twig n id ts h two ok sub bd nd ih =>
    have h1 := length_flat Sprout.items (2 ^ n) ts ih
    have h2 : 2 * 2 ^ n ≤ ts.length * 2 ^ n := Nat.mul_le_mul_right _ two
    rw [Nat.pow_succ]
    omega
theorem Bounds.cons {t : Sprout} {ts : List Sprout} (h : Bounds (t :: ts)) : Bounds ts := ⟨fun s hs => h.lo s (by simp [hs]), (List.pairwise_cons.1 h.hi).2⟩
theorem forest_rising {ts : List Sprout} (bd : Bounds ts) (h : ∀ t ∈ ts, Rising t.items ∧ ∀ i ∈ t.items, ¬ i.key < t.low) : Rising (ts.flatMap Sprout.items) := by
  induction ts with
  | nil => exact List.Pairwise.nil
  | cons t ts ih =>
    rw [List.flatMap_cons]
    unfold Rising
    rw [List.pairwise_append]
    refine ⟨(h t (by simp)).1, ih bd.cons fun s hs => h s (by simp [hs]), fun a ha b hb => ?_⟩
    obtain ⟨s, hs, hb⟩ := List.mem_flatMap.1 hb
    have h1 := (List.pairwise_cons.1 bd.hi).1 s hs a ha
    have h2 := not_lt_trans (bd.lo s (by simp [hs])) ((h s (by simp [hs])).2 b hb)
    exact lt_of_lt_not h1 h2
theorem Tree.right {L : List Node} {n : Nat} {id : Int} {b : Bytes} {l : List Item} {ids : List Int} (h : Tree L n id b l ids) : rightL l = true := by
  induction h with
  | leaf id l h ne ok => exact ok.1
  | twig n id ts h two ok sub bd nd ih =>
    rw [rightL_iff]
    refine ⟨fun x hx => ?_, forest_rising bd fun t ht => ⟨((rightL_iff _).1 (ih t ht)).2, (sub t ht).low_le⟩⟩
    obtain ⟨t, ht, hx⟩ := List.mem_flatMap.1 hx
    exact ((rightL_iff _).1 (ih t ht)).1 x hx
theorem lift_parts {α β : Type} (f : α → β) (pp : List (List β)) (ts : List α) (h : pp.flatten = ts.map f) : ∃ qq : List (List α), qq.map (fun q => q.map f) = pp ∧ qq.flatten = ts := by
  induction pp generalizing ts with
  | nil => exact ⟨[], rfl, by simpa using h⟩
  | cons p pp ih =>
    rw [List.flatten_cons] at h
    obtain ⟨a, b, rfl, rfl, hb⟩ := List.map_eq_append_iff.1 h.symm
    obtain ⟨qq, h1, h2⟩ := ih b hb.symm
    exact ⟨a :: qq, by rw [List.map_cons, h1], by rw [List.flatten_cons, h2]⟩
theorem zip_parts {α β : Type} (a : List α) (b : List β) (h : a.length = b.length) : ∃ zs : List (α × β), zs.map Prod.fst = a ∧ zs.map Prod.snd = b := by
  refine ⟨a.zip b, ?_, ?_⟩
  · exact List.map_fst_zip (by omega)
  · exact List.map_snd_zip (by omega)
theorem Rising.sub {α : Type} [Keyed α] {l m : List α} (h : Rising l) (hs : m.Sublist l) : Rising m := List.Pairwise.sublist hs h
theorem rightL_sub {α : Type} [Keyed α] {l m : List α} (h : rightL l = true) (hs : m.Sublist l) : rightL m = true := by
  rw [rightL_iff] at h ⊢
  exact ⟨fun x hx => h.1 x (hs.subset hx), h.2.sub hs⟩
theorem part_sub {α : Type} {pp : List (List α)} {p : List α} (h : p ∈ pp) : p.Sublist pp.flatten := List.sublist_flatten_of_mem h
theorem cost_item {x : Item} (h : okItem x = true) : 4 ≤ Keyed.cost x ∧ Keyed.cost x ≤ 133 := by
  simp only [okItem, decide_eq_true_eq] at h
  show 4 ≤ 5 + x.key.length + x.val.length ∧ 5 + x.key.length + x.val.length ≤ 133
  omega
theorem cost_kid {x : Kid} (h : okKid x = true) : 4 ≤ Keyed.cost x ∧ Keyed.cost x ≤ 36 := by
  simp only [okKid, decide_eq_true_eq] at h
  show 4 ≤ 4 + x.key.length ∧ 4 + x.key.length ≤ 36
  omega
section
variable {α : Type} [Keyed α]
theorem sizeL_ge (l : List α) (h : ∀ x ∈ l, 4 ≤ Keyed.cost x) : 1 + 4 * l.length ≤ sizeL l := by
  induction l with
  | nil => simp [sizeL]
  | cons a l ih =>
    rw [sizeL_cons, List.length_cons]
    have := ih fun x hx => h x (by simp [hx])
    have := h a (by simp)
    omega
theorem sizeL_most (l : List α) (h : ∀ x ∈ l, Keyed.cost x ≤ 36) : sizeL l ≤ 1 + 36 * l.length := by
  induction l with
  | nil => simp [sizeL]
  | cons a l ih =>
    rw [sizeL_cons, List.length_cons]
    have := ih fun x hx => h x (by simp [hx])
    have := h a (by simp)
    omega
theorem cut_next {d : List α} (hc : ∀ x ∈ d, 4 ≤ Keyed.cost x) {x : α} {r : List α} (h : d.drop (cut1 d) = x :: r) : 232 < sizeL (d.take (cut1 d)) + Keyed.cost x := by
  have hl : cut1 d < d.length := by
    have := congrArg List.length h
    rw [List.length_drop, List.length_cons] at this
    omega
  have hx : d[cut1 d] = x := by
    have := List.drop_eq_getElem_cons hl
    rw [h] at this
    exact (List.cons.inj this).1.symm
  have hm := cut1_max d
  have hs := sizeL_take d (cut1 d) hl
  rw [hx] at hs
  by_cases h5 : cut1 d < 255
  · have : ¬ sizeL (d.take (cut1 d + 1)) ≤ 232 := fun q => hm ⟨hl, h5, q⟩
    omega
  · have := sizeL_ge (d.take (cut1 d)) fun y hy => hc y (List.mem_of_mem_take hy)
    rw [List.length_take] at this
    omega
theorem cut_size (d : List α) : sizeL d + 1 = sizeL (d.take (cut1 d)) + sizeL (d.drop (cut1 d)) := by
  have := sizeL_app (d.take (cut1 d)) (d.drop (cut1 d))
  rwa [List.take_append_drop] at this
theorem cut_two {d : List α} (hc : ∀ x ∈ d, 4 ≤ Keyed.cost x) (h1 : d.drop (cut1 d) ≠ []) : 232 + sizeL ((d.drop (cut1 d)).drop (cut1 (d.drop (cut1 d)))) ≤ sizeL d := by
  have e1 := cut_size d
  have e2 := cut_size (d.drop (cut1 d))
  have hle := cut1_le _ h1
  generalize hd1 : d.drop (cut1 d) = d1 at *
  cases d1 with
  | nil => exact absurd rfl h1
  | cons x r =>
    have h3 := cut_next hc hd1
    obtain ⟨m, hm⟩ : ∃ m, cut1 (x :: r) = m + 1 := ⟨cut1 (x :: r) - 1, by omega⟩
    rw [hm, List.take_succ_cons, sizeL_cons x (r.take m)] at e2
    rw [hm]
    have := sizeL_pos (r.take m)
    omega
theorem cutL_length (d : List α) (h : d ≠ []) : (cutL d).length = (cutL (d.drop (cut1 d))).length + 1 := by rw [cutL_step d h, List.length_cons]
theorem cutL_few3 (l : List α) (hc : ∀ x ∈ l, 4 ≤ Keyed.cost x) (hs : sizeL l ≤ 464) : (cutL l).length ≤ 3 := by
  by_cases h0 : l = []
  · subst h0; simp [cutL_nil]
  rw [cutL_length l h0]
  by_cases h1 : l.drop (cut1 l) = []
  · rw [h1]; simp [cutL_nil]
  rw [cutL_length _ h1]
  have e1 := cut_two hc h1
  have hc2 : ∀ x ∈ (l.drop (cut1 l)).drop (cut1 (l.drop (cut1 l))), 4 ≤ Keyed.cost x := fun x hx => hc x (List.mem_of_mem_drop (List.mem_of_mem_drop hx))
  generalize (l.drop (cut1 l)).drop (cut1 (l.drop (cut1 l))) = d2 at *
  by_cases h2 : d2 = []
  · subst h2; simp [cutL_nil]
  rw [cutL_length d2 h2]
  by_cases h3 : d2.drop (cut1 d2) = []
  · rw [h3]; simp [cutL_nil]
  have e2 := cut_two hc2 h3
  have := sizeL_pos ((d2.drop (cut1 d2)).drop (cut1 (d2.drop (cut1 d2))))
  omega
theorem cut_big {d : List α} (hc : ∀ x ∈ d, 4 ≤ Keyed.cost x) (hm : ∀ x ∈ d, Keyed.cost x ≤ 36) (h1 : d.drop (cut1 d) ≠ []) : 197 ≤ sizeL (d.take (cut1 d)) := by
  generalize hd1 : d.drop (cut1 d) = d1 at *
  cases d1 with
  | nil => exact absurd rfl h1
  | cons x r =>
    have h3 := cut_next hc hd1
    have := hm x (List.mem_of_mem_drop (i := cut1 d) (by rw [hd1]; simp))
    omega
theorem cutL_few2 (l : List α) (hc : ∀ x ∈ l, 4 ≤ Keyed.cost x) (hm : ∀ x ∈ l, Keyed.cost x ≤ 36) (hs : sizeL l ≤ 392) : (cutL l).length ≤ 2 := by
  by_cases h0 : l = []
  · subst h0; simp [cutL_nil]
  rw [cutL_length l h0]
  by_cases h1 : l.drop (cut1 l) = []
  · rw [h1]; simp [cutL_nil]
  have e1 := cut_big hc hm h1
  have s1 := cut_size l
  have hc2 : ∀ x ∈ l.drop (cut1 l), 4 ≤ Keyed.cost x := fun x hx => hc x (List.mem_of_mem_drop hx)
  have hm2 : ∀ x ∈ l.drop (cut1 l), Keyed.cost x ≤ 36 := fun x hx => hm x (List.mem_of_mem_drop hx)
  generalize l.drop (cut1 l) = d at *
  rw [cutL_length _ h1]
  by_cases h2 : d.drop (cut1 d) = []
  · rw [h2]; simp [cutL_nil]
  have e2 := cut_big hc2 hm2 h2
  have s2 := cut_size d
  have := sizeL_pos (d.drop (cut1 d))
  omega
def Big : List (List α) → Prop
  | [] => True
  | [a] => a ≠ []
  | a :: b :: l => 3 ≤ a.length ∧ Big (b :: l)
theorem cutL_big (l : List α) (hc : ∀ x ∈ l, 4 ≤ Keyed.cost x) (hm : ∀ x ∈ l, Keyed.cost x ≤ 36) : Big (cutL l) := by
  induction l using cutL_ind with
  | h0 => trivial
  | h1 d h ih =>
    have ih := ih (fun x hx => hc x (List.mem_of_mem_drop hx)) (fun x hx => hm x (List.mem_of_mem_drop hx))
    rw [cutL_step d h]
    by_cases h1 : d.drop (cut1 d) = []
    · rw [h1, cutL_nil]
      have := cut1_le d h
      intro q
      have := congrArg List.length q
      rw [List.length_take, List.length_nil] at this
      omega
    · rw [cutL_step _ h1] at ih ⊢
      refine ⟨?_, ih⟩
      have e := cut_big hc hm h1
      have := sizeL_most (d.take (cut1 d)) fun y hy => hm y (List.mem_of_mem_take hy)
      omega
end
theorem fix_spec (pp : List (List Kid)) (hb : Big pp) (h2 : 2 ≤ pp.flatten.length) (hm : ∀ x ∈ pp.flatten, Keyed.cost x ≤ 36) (hs : ∀ p ∈ pp, p.length ≤ 255 ∧ sizeL p ≤ 232) :
    (fixParts pp).flatten = pp.flatten ∧ (fixParts pp).length = pp.length ∧ (∀ p ∈ fixParts pp, 2 ≤ p.length) ∧ ∀ p ∈ fixParts pp, p.length ≤ 255 ∧ sizeL p ≤ 232 := by
  match pp, hb, h2, hm, hs with
  | [], _, h2, _, _ => simp at h2
  | [a], _, h2, _, hs => exact ⟨rfl, rfl, fun p hp => by simp [fixParts] at hp; subst hp; simpa using h2, hs⟩
  | [a, b], hb, h2, hm, hs =>
    rw [fixParts]
    have ha := hb.1
    have hsa := hs a (by simp)
    have hsb := hs b (by simp)
    by_cases h1 : b.length = 1
    · rw [if_pos h1]
      have hne : a ≠ [] := by intro q; subst q; simp at ha
      have hla : a.getLast? = some (a.getLast hne) := List.getLast?_eq_some_getLast hne
      have hd : a.dropLast ++ [a.getLast hne] = a := List.dropLast_concat_getLast hne
      have hab : a.dropLast ++ ([a.getLast hne] ++ b) = a ++ b := by rw [← List.append_assoc, hd]
      rw [hla]
      refine ⟨by simpa using hab, rfl, fun p hp => ?_, fun p hp => ?_⟩
      · simp only [List.mem_cons, List.not_mem_nil, or_false] at hp
        rcases hp with rfl | rfl
        · rw [List.length_dropLast]; omega
        · simp [h1]
      · simp only [List.mem_cons, List.not_mem_nil, or_false] at hp
        rcases hp with rfl | rfl
        · have := sizeL_app a.dropLast [a.getLast hne]
          rw [hd] at this
          have := sizeL_pos [a.getLast hne]
          rw [List.length_dropLast]
          omega
        · have := sizeL_most ([a.getLast hne] ++ b) fun x hx => hm x (by
            rcases List.mem_append.1 hx with hx | hx
            · rw [List.mem_singleton] at hx; subst hx; simp
            · simp [hx])
          simp only [Option.toList, List.length_append, List.length_cons, List.length_nil] at this ⊢
          omega
    · rw [if_neg h1]
      refine ⟨rfl, rfl, fun p hp => ?_, hs⟩
      simp only [List.mem_cons, List.not_mem_nil, or_false] at hp
      have hbn : b ≠ [] := hb.2
      have := List.length_pos_iff.2 hbn
      rcases hp with rfl | rfl <;> omega
  | a :: b :: c :: l, hb, h2, hm, hs =>
    rw [fixParts]
    have hb1 := hb.2
    have hb2 := hb1.1
    obtain ⟨i1, i2, i3, i4⟩ := fix_spec (b :: c :: l) hb1 (by rw [List.flatten_cons, List.length_append]; omega) (fun x hx => hm x (by rw [List.flatten_cons]; exact List.mem_append_right _ hx)) (fun p hp => hs p (by simp [hp]))
    refine ⟨by rw [List.flatten_cons, i1]; rfl, by rw [List.length_cons, i2]; rfl, fun p hp => ?_, fun p hp => ?_⟩
    · rcases List.mem_cons.1 hp with rfl | hp
      · have := hb.1; omega
      · exact i3 p hp
    · rcases List.mem_cons.1 hp with rfl | hp
      · exact hs _ (by simp)
      · exact i4 p hp
/-! ### Lists kept as pages -/
theorem kidsOf_zip {α : Type} [Keyed α] (zs : List (List α × Int)) : kidsOf (zs.map Prod.fst) (zs.map Prod.snd) = zs.map fun z => (⟨hd z.1, z.2⟩ : Kid) := by
  induction zs with
  | nil => rfl
  | cons z zs ih =>
    have : kidsOf ((z :: zs).map Prod.fst) ((z :: zs).map Prod.snd) = ⟨hd z.1, z.2⟩ :: kidsOf (zs.map Prod.fst) (zs.map Prod.snd) := rfl
    rw [this, ih, List.map_cons]
theorem flat_one {α β : Type} (f : α → β) (l : List α) : (l.flatMap fun z => [f z]) = l.map f := by
  induction l with
  | nil => rfl
  | cons a l ih => rw [List.flatMap_cons, ih]; rfl
theorem flat_map {α β γ : Type} (f : α → β) (g : β → List γ) (l : List α) : (l.map f).flatMap g = l.flatMap fun a => g (f a) := by
  induction l with
  | nil => rfl
  | cons a l ih => simp [ih]
theorem heads_rise {α : Type} [Keyed α] {zs : List (List α × Int)} (hr : Rising (zs.map Prod.fst).flatten) (hne : ∀ z ∈ zs, z.1 ≠ []) : zs.Pairwise fun z y => hd z.1 < hd y.1 := by
  unfold Rising at hr
  rw [List.pairwise_flatten, List.pairwise_map] at hr
  refine hr.2.imp_of_mem fun {z y} hz hy h => ?_
  obtain ⟨a, ha, ea⟩ := hd_mem (hne z hz)
  obtain ⟨b, hb, eb⟩ := hd_mem (hne y hy)
  rw [← ea, ← eb]
  exact h a ha b hb
theorem leavesP_is (p : PSt) (old : Int) (l : List Item) (hr : rightL l = true) (hs : sizeL l ≤ 464) (hL : p.L.length + 3 ≤ 3998) (ho : old < (p.L.length + 2 : Nat)) :
    ∃ ts p', leavesP p old l = (.ok (ts.map Sprout.kid), p') ∧ Forest p'.L 0 ts ∧ ts.flatMap Sprout.items = l ∧ ts.length ≤ 3 ∧ Kept p old ((cutL l).map Node.leaf) (ts.flatMap Sprout.ids) p' ∧ (∀ t ∈ ts, ∃ x ∈ t.items, x.key = t.kid.key) ∧ ts.length = (cutL l).length := by
  have hri := (rightL_iff l).1 hr
  have hcost : ∀ x ∈ l, 4 ≤ Keyed.cost x := fun x hx => (cost_item (hri.1 x hx)).1
  have h3 := cutL_few3 l hcost hs
  obtain ⟨ids, p', hk, K⟩ := keepP_is p old ((cutL l).map Node.leaf) (by rw [List.length_map]; omega) ho
  obtain ⟨zs, hz1, hz2⟩ := zip_parts (cutL l) ids (by rw [K.len, List.length_map])
  refine ⟨zs.map fun z => ⟨⟨hd z.1, z.2⟩, hd z.1, z.1, [z.2]⟩, p', ?_, ?_, ?_, ?_, ?_, ?_, ?_⟩
  · unfold leavesP
    rw [if_pos hr, hk]
    simp only
    rw [← hz1, ← hz2, kidsOf_zip, List.map_map]
    rfl
  · have hmem : ∀ z ∈ zs, z.1 ∈ cutL l := fun z hz => by rw [← hz1]; exact List.mem_map_of_mem hz
    have hmem2 : ∀ z ∈ zs, z.2 ∈ ids := fun z hz => by rw [← hz2]; exact List.mem_map_of_mem hz
    have hne : ∀ z ∈ zs, z.1 ≠ [] := fun z hz => cutL_ne l z.1 (hmem z hz)
    have hsub : ∀ z ∈ zs, z.1.Sublist l := fun z hz => by have := part_sub (hmem z hz); rwa [cutL_flat] at this
    have hfit := cutL_fit l fun x hx => by have := (cost_item (hri.1 x hx)).2; omega
    have hflat : Rising (zs.map Prod.fst).flatten := by rw [hz1, cutL_flat]; exact hri.2
    have hrise := heads_rise hflat hne
    refine ⟨fun t ht => ?_, ⟨fun t ht => ?_, ?_⟩, ?_, ?_⟩
    · obtain ⟨z, hz, rfl⟩ := List.mem_map.1 ht
      obtain ⟨k, hk⟩ := List.getElem?_of_mem hz
      obtain ⟨id, h1, h2⟩ := K.at_ k (.leaf z.1) (by rw [← hz1, List.map_map, List.getElem?_map, hk]; rfl)
      rw [← hz2, List.getElem?_map, hk] at h1
      obtain rfl : z.2 = id := by simpa using h1
      exact .leaf z.2 z.1 h2 (hne z hz) ⟨rightL_sub hr (hsub z hz), (hfit z.1 (hmem z hz)).2, (hfit z.1 (hmem z hz)).1⟩
    · obtain ⟨z, hz, rfl⟩ := List.mem_map.1 ht
      exact List.lt_irrefl _
    · rw [List.pairwise_map]
      have hf := hflat
      unfold Rising at hf
      rw [List.pairwise_flatten, List.pairwise_map] at hf
      refine hf.2.imp_of_mem fun {z y} hz hy h i hi => ?_
      obtain ⟨b, hb, eb⟩ := hd_mem (hne y hy)
      show Keyed.key i < hd y.1
      rw [← eb]
      exact h i hi b hb
    · rw [rightL_iff]
      refine ⟨fun k hk => ?_, ?_⟩
      · obtain ⟨t, ht, rfl⟩ := List.mem_map.1 hk
        obtain ⟨z, hz, rfl⟩ := List.mem_map.1 ht
        obtain ⟨a, ha, ea⟩ := hd_mem (hne z hz)
        have h1 := hri.1 a ((hsub z hz).subset ha)
        have h2 := K.pos z.2 (hmem2 z hz)
        show okKid ⟨hd z.1, z.2⟩ = true
        rw [← ea]
        change okItem a = true at h1
        simp only [okItem, decide_eq_true_eq] at h1
        simp only [okKid, decide_eq_true_eq]
        exact ⟨h1.2.1, h2.1, h2.2⟩
      · unfold Rising
        rw [List.map_map, List.pairwise_map]
        exact hrise
    · rw [flat_map, flat_one, hz2]; exact K.nd
  · rw [flat_map, List.flatMap_def, hz1, cutL_flat]
  · rw [List.length_map]
    have := congrArg List.length hz1
    rw [List.length_map] at this
    omega
  · rw [flat_map, flat_one, hz2]; exact K
  · intro t ht
    obtain ⟨z, hz, rfl⟩ := List.mem_map.1 ht
    exact hd_mem (cutL_ne l z.1 (by rw [← hz1]; exact List.mem_map_of_mem hz))
  · rw [List.length_map, ← hz1, List.length_map]
theorem flat_flat {α β : Type} (g : α → List β) (qq : List (List α)) : (qq.map fun q => q.flatMap g).flatten = qq.flatten.flatMap g := by
  induction qq with
  | nil => rfl
  | cons q qq ih => rw [List.map_cons, List.flatten_cons, ih, List.flatten_cons, List.flatMap_append]
theorem flat_fst {α β γ : Type} (g : α → List γ) (zs : List (List α × β)) : (zs.flatMap fun z => z.1.flatMap g) = (zs.map Prod.fst).flatten.flatMap g := by
  rw [← flat_flat, List.map_map, List.flatMap_def]
  rfl
theorem nodup_mk (g : Sprout → List Int) (zs : List (List Sprout × Int)) (hnd : (zs.map fun z => z.1.flatMap g).flatten.Nodup) (hidn : (zs.map Prod.snd).Nodup) (hx : ∀ z ∈ zs, ∀ y ∈ zs, z.2 ∉ y.1.flatMap g) :
    (zs.flatMap fun z => z.2 :: z.1.flatMap g).Nodup := by
  induction zs with
  | nil => simp
  | cons z zs ih =>
    rw [List.flatMap_cons]
    rw [List.map_cons, List.nodup_cons] at hidn
    rw [List.map_cons, List.flatten_cons, List.nodup_append] at hnd
    have ih := ih hnd.2.1 hidn.2 (fun a ha b hb => hx a (by simp [ha]) b (by simp [hb]))
    rw [List.nodup_append]
    refine ⟨?_, ih, ?_⟩
    · rw [List.nodup_cons]; exact ⟨hx z (by simp) z (by simp), hnd.1⟩
    · intro a ha b hb e
      subst e
      obtain ⟨y, hy, hb⟩ := List.mem_flatMap.1 hb
      rcases List.mem_cons.1 ha with rfl | ha
      · rcases List.mem_cons.1 hb with hb | hb
        · exact hidn.1 (by rw [hb]; exact List.mem_map_of_mem hy)
        · exact hx z (by simp) y (by simp [hy]) hb
      · rcases List.mem_cons.1 hb with rfl | hb
        · exact hx y (by simp [hy]) z (by simp) ha
        · exact hnd.2.2 a ha a (List.mem_flatten.2 ⟨_, List.mem_map_of_mem hy, hb⟩) rfl
theorem twigsP_is1 (p : PSt) (old : Int) (n : Nat) (ts : List Sprout) (F : Forest p.L n ts) (h2 : 2 ≤ ts.length) (hs : sizeL (ts.map Sprout.kid) ≤ 392) (hL : p.L.length + (cutT (ts.map Sprout.kid)).length ≤ 3998) (ho : old < (p.L.length + 2 : Nat)) (hold : old ∉ ts.flatMap Sprout.ids) :
    ∃ us p' pages, twigsP p old (ts.map Sprout.kid) = (.ok (us.map Sprout.kid), p') ∧ Forest p'.L (n + 1) us ∧ us.flatMap Sprout.items = ts.flatMap Sprout.items ∧ us.length ≤ 2 ∧ us ≠ [] ∧ Kept p old ((cutT (ts.map Sprout.kid)).map Node.twig) pages p' ∧ pages.length = us.length ∧
      (∀ j, j ∈ us.flatMap Sprout.ids ↔ j ∈ pages ∨ j ∈ ts.flatMap Sprout.ids) ∧ ∀ u ∈ us, ∃ t ∈ ts, t.kid.key = u.kid.key := by
  have hri := (rightL_iff _).1 F.ok
  have hcost : ∀ x ∈ ts.map Sprout.kid, 4 ≤ Keyed.cost x := fun x hx => (cost_kid (hri.1 x hx)).1
  have hmost : ∀ x ∈ ts.map Sprout.kid, Keyed.cost x ≤ 36 := fun x hx => (cost_kid (hri.1 x hx)).2
  have hfew := cutL_few2 _ hcost hmost hs
  have hflatc := cutL_flat (ts.map Sprout.kid)
  obtain ⟨f1, f2, f3, f4⟩ := fix_spec (cutL (ts.map Sprout.kid)) (cutL_big _ hcost hmost) (by rw [hflatc, List.length_map]; exact h2) (by rw [hflatc]; exact hmost) (cutL_fit _ fun x hx => by have := hmost x hx; omega)
  rw [hflatc] at f1
  change (cutT (ts.map Sprout.kid)).flatten = _ at f1
  change (cutT (ts.map Sprout.kid)).length = _ at f2
  change ∀ p ∈ cutT (ts.map Sprout.kid), _ at f3
  change ∀ p ∈ cutT (ts.map Sprout.kid), _ at f4
  obtain ⟨ids, p', hk, K⟩ := keepP_is p old ((cutT (ts.map Sprout.kid)).map Node.twig) (by rw [List.length_map]; omega) ho
  obtain ⟨qq, hq1, hq2⟩ := lift_parts Sprout.kid (cutT (ts.map Sprout.kid)) ts f1
  have hql : qq.length = (cutT (ts.map Sprout.kid)).length := by rw [← hq1, List.length_map]
  obtain ⟨zs, hz1, hz2⟩ := zip_parts qq ids (by rw [K.len, List.length_map]; exact hql)
  have hzl : zs.length = qq.length := by rw [← hz1, List.length_map]
  have hmem : ∀ z ∈ zs, z.1 ∈ qq := fun z hz => by rw [← hz1]; exact List.mem_map_of_mem hz
  have hmemk : ∀ z ∈ zs, z.1.map Sprout.kid ∈ cutT (ts.map Sprout.kid) := fun z hz => by rw [← hq1]; exact List.mem_map_of_mem (hmem z hz)
  have hmem2 : ∀ z ∈ zs, z.2 ∈ ids := fun z hz => by rw [← hz2]; exact List.mem_map_of_mem hz
  have hsub : ∀ z ∈ zs, z.1.Sublist ts := fun z hz => by have := part_sub (hmem z hz); rwa [hq2] at this
  have hlen : ∀ z ∈ zs, 2 ≤ z.1.length := fun z hz => by have := f3 _ (hmemk z hz); rwa [List.length_map] at this
  have hne : ∀ z ∈ zs, z.1 ≠ [] := fun z hz q => by have := hlen z hz; rw [q] at this; simp at this
  have hthere : ∀ t ∈ ts, ∀ j ∈ t.ids, 2 ≤ j ∧ j < (p.L.length + 2 : Nat) := fun t ht => (F.sub t ht).there
  have hsame : ∀ j ∈ ts.flatMap Sprout.ids, nodeAt p'.L j = nodeAt p.L j := fun j hj => by
    obtain ⟨t, ht, hjt⟩ := List.mem_flatMap.1 hj
    exact K.other j (hthere t ht j hjt).2 (.inl fun e => hold (e ▸ hj))
  have hnot : ∀ j ∈ ts.flatMap Sprout.ids, j ∉ ids := fun j hj hi => by
    obtain ⟨t, ht, hjt⟩ := List.mem_flatMap.1 hj
    rcases K.new j hi with ⟨rfl, _⟩ | q
    · exact hold hj
    · have := (hthere t ht j hjt).2; omega
  let mk : List Sprout × Int → Sprout := fun z => ⟨⟨hd (z.1.map Sprout.kid), z.2⟩, hd (z.1.map Sprout.kid), z.1.flatMap Sprout.items, z.2 :: z.1.flatMap Sprout.ids⟩
  have hidsub : ∀ z ∈ zs, ∀ j ∈ z.1.flatMap Sprout.ids, j ∈ ts.flatMap Sprout.ids := fun z hz j hj => by
    obtain ⟨t, ht, hjt⟩ := List.mem_flatMap.1 hj
    exact List.mem_flatMap.2 ⟨t, (hsub z hz).subset ht, hjt⟩
  have hflatids : (zs.map fun z => z.1.flatMap Sprout.ids).flatten = ts.flatMap Sprout.ids := by
    rw [← List.flatMap_def, flat_fst, hz1, hq2]
  have hids : ∀ j, j ∈ (zs.map mk).flatMap Sprout.ids ↔ j ∈ ids ∨ j ∈ ts.flatMap Sprout.ids := fun j => by
    rw [← hflatids, ← hz2, flat_map, List.mem_flatMap, List.mem_flatten]
    constructor
    · rintro ⟨z, hz, hj⟩
      rcases List.mem_cons.1 hj with rfl | hj
      · exact .inl (List.mem_map_of_mem hz)
      · exact .inr ⟨_, List.mem_map_of_mem hz, hj⟩
    · rintro (h | ⟨l, hl, hj⟩)
      · obtain ⟨z, hz, rfl⟩ := List.mem_map.1 h
        exact ⟨z, hz, by simp [mk]⟩
      · obtain ⟨z, hz, rfl⟩ := List.mem_map.1 hl
        exact ⟨z, hz, List.mem_cons_of_mem _ hj⟩
  have hitems : (zs.map mk).flatMap Sprout.items = ts.flatMap Sprout.items := by
    rw [flat_map, ← hq2, ← hz1]
    exact flat_fst Sprout.items zs
  have hflat : Rising (((zs.map fun z => (z.1.map Sprout.kid, z.2)).map Prod.fst).flatten) := by
    have : ((zs.map fun z => (z.1.map Sprout.kid, z.2)).map Prod.fst) = cutT (ts.map Sprout.kid) := by rw [← hq1, ← hz1, List.map_map, List.map_map]; rfl
    rw [this, f1]; exact hri.2
  have hrise := heads_rise hflat (fun y hy => by obtain ⟨z, hz, rfl⟩ := List.mem_map.1 hy; simpa using hne z hz)
  rw [List.pairwise_map] at hrise
  refine ⟨zs.map mk, p', ids, ?_, ?_, hitems, ?_, ?_, K, ?_, hids, ?_⟩
  · unfold twigsP
    rw [if_pos F.ok, hk]
    simp only
    have e1 : cutT (ts.map Sprout.kid) = (zs.map fun z => (z.1.map Sprout.kid, z.2)).map Prod.fst := by rw [← hq1, ← hz1, List.map_map, List.map_map]; rfl
    have e2 : ids = (zs.map fun z => (z.1.map Sprout.kid, z.2)).map Prod.snd := by rw [← hz2, List.map_map]; rfl
    rw [e1, e2, kidsOf_zip, List.map_map, List.map_map]
    rfl
  · refine ⟨fun t ht => ?_, ⟨fun t ht => ?_, ?_⟩, ?_, ?_⟩
    · obtain ⟨z, hz, rfl⟩ := List.mem_map.1 ht
      obtain ⟨k, hk⟩ := List.getElem?_of_mem hz
      obtain ⟨id, g1, g2⟩ := K.at_ k (.twig (z.1.map Sprout.kid)) (by rw [← hq1, ← hz1, List.map_map, List.map_map, List.getElem?_map, hk]; rfl)
      rw [← hz2, List.getElem?_map, hk] at g1
      obtain rfl : z.2 = id := by simpa using g1
      have hb : Bounds z.1 := ⟨fun t ht => F.bd.lo t ((hsub z hz).subset ht), F.bd.hi.sublist (hsub z hz)⟩
      refine .twig n z.2 z.1 g2 (hlen z hz) ⟨rightL_sub F.ok ((hsub z hz).map _), (f4 _ (hmemk z hz)).2, (f4 _ (hmemk z hz)).1⟩ (fun t ht => (F.sub t ((hsub z hz).subset ht)).keep fun j hj => hsame j (List.mem_flatMap.2 ⟨t, (hsub z hz).subset ht, hj⟩)) hb ?_
      rw [List.nodup_cons]
      refine ⟨fun q => hnot _ (hidsub z hz _ q) (hmem2 z hz), F.nd.sublist ?_⟩
      have := part_sub (pp := zs.map fun z => z.1.flatMap Sprout.ids) (List.mem_map_of_mem hz)
      rwa [hflatids] at this
    · obtain ⟨z, hz, rfl⟩ := List.mem_map.1 ht
      exact List.lt_irrefl _
    · rw [List.pairwise_map]
      have hf := F.bd.hi
      rw [← hq2, List.pairwise_flatten, ← hz1, List.pairwise_map] at hf
      refine hf.2.imp_of_mem fun {z y} hz hy h i hi => ?_
      obtain ⟨s, hs, hi⟩ := List.mem_flatMap.1 hi
      obtain ⟨b, hb, eb⟩ := hd_mem (l := y.1.map Sprout.kid) (by simpa using hne y hy)
      obtain ⟨t, ht, rfl⟩ := List.mem_map.1 hb
      show i.key < hd (y.1.map Sprout.kid)
      rw [← eb]
      exact h s hs t ht i hi
    · rw [rightL_iff]
      refine ⟨fun k hk => ?_, ?_⟩
      · obtain ⟨t, ht, rfl⟩ := List.mem_map.1 hk
        obtain ⟨z, hz, rfl⟩ := List.mem_map.1 ht
        obtain ⟨a, ha, ea⟩ := hd_mem (l := z.1.map Sprout.kid) (by simpa using hne z hz)
        have g1 := hri.1 a (((hsub z hz).map _).subset ha)
        have g2 := K.pos z.2 (hmem2 z hz)
        show okKid ⟨hd (z.1.map Sprout.kid), z.2⟩ = true
        rw [← ea]
        change okKid a = true at g1
        simp only [okKid, decide_eq_true_eq] at g1 ⊢
        exact ⟨g1.1, g2.1, g2.2⟩
      · unfold Rising
        rw [List.map_map, List.pairwise_map]
        exact hrise
    · have : (zs.map mk).flatMap Sprout.ids = zs.flatMap fun z => z.2 :: z.1.flatMap Sprout.ids := flat_map _ _ _
      rw [this]
      have hnd := F.nd
      rw [← hflatids] at hnd
      have hidn := K.nd
      rw [← hz2] at hidn
      have hx : ∀ z ∈ zs, ∀ y ∈ zs, z.2 ∉ y.1.flatMap Sprout.ids := fun z hz y hy q => hnot _ (hidsub y hy _ q) (hmem2 z hz)
      exact nodup_mk _ zs hnd hidn hx
  · rw [List.length_map]; omega
  · intro q
    have h0 : zs = [] := by simpa using q
    rw [h0] at hz1
    simp at hz1
    rw [hz1] at hq2
    simp at hq2
    rw [hq2] at h2
    simp at h2
  · rw [← hz2, List.length_map, List.length_map]
  · intro u hu
    obtain ⟨z, hz, rfl⟩ := List.mem_map.1 hu
    obtain ⟨a, ha, ea⟩ := hd_mem (l := z.1.map Sprout.kid) (by simpa using hne z hz)
    obtain ⟨t, ht, rfl⟩ := List.mem_map.1 ha
    exact ⟨t, (hsub z hz).subset ht, ea⟩
theorem fix_length (pp : List (List Kid)) : (fixParts pp).length = pp.length := by
  match pp with
  | [] => rfl
  | [a] => rfl
  | [a, b] => rw [fixParts]; split <;> rfl
  | a :: b :: c :: l => rw [fixParts, List.length_cons, fix_length (b :: c :: l)]; rfl
theorem twigsP_is (p : PSt) (old : Int) (n : Nat) (ts : List Sprout) (F : Forest p.L n ts) (h2 : 2 ≤ ts.length) (hs : sizeL (ts.map Sprout.kid) ≤ 392) (hL : p.L.length + 2 ≤ 3998) (ho : old < (p.L.length + 2 : Nat)) (hold : old ∉ ts.flatMap Sprout.ids) :
    ∃ us p' pages, twigsP p old (ts.map Sprout.kid) = (.ok (us.map Sprout.kid), p') ∧ Forest p'.L (n + 1) us ∧ us.flatMap Sprout.items = ts.flatMap Sprout.items ∧ us.length ≤ 2 ∧ us ≠ [] ∧ Kept p old ((cutT (ts.map Sprout.kid)).map Node.twig) pages p' ∧ pages.length = us.length ∧
      (∀ j, j ∈ us.flatMap Sprout.ids ↔ j ∈ pages ∨ j ∈ ts.flatMap Sprout.ids) ∧ ∀ u ∈ us, ∃ t ∈ ts, t.kid.key = u.kid.key := by
  refine twigsP_is1 p old n ts F h2 hs ?_ ho hold
  have hri := (rightL_iff _).1 F.ok
  have hfew := cutL_few2 _ (fun x hx => (cost_kid (hri.1 x hx)).1) (fun x hx => (cost_kid (hri.1 x hx)).2) hs
  unfold cutT
  rw [fix_length]
  omega
/-! ### An item is put -/
theorem takeWhile_all {α : Type} (f : α → Bool) (a b : List α) (h : ∀ x ∈ a, f x = true) : (a ++ b).takeWhile f = a ++ b.takeWhile f := by
  induction a with
  | nil => rfl
  | cons x a ih => rw [List.cons_append, List.takeWhile_cons, if_pos (h x (by simp)), ih fun y hy => h y (by simp [hy])]; rfl
theorem dropWhile_all {α : Type} (f : α → Bool) (a b : List α) (h : ∀ x ∈ a, f x = true) : (a ++ b).dropWhile f = b.dropWhile f := by
  induction a with
  | nil => rfl
  | cons x a ih => rw [List.cons_append, List.dropWhile_cons, if_pos (h x (by simp)), ih fun y hy => h y (by simp [hy])]
theorem takeWhile_none {α : Type} (f : α → Bool) (a b : List α) (h : ∀ x ∈ b, f x = false) : (a ++ b).takeWhile f = a.takeWhile f := by
  induction a with
  | nil =>
    cases b with
    | nil => rfl
    | cons y b => rw [List.nil_append, List.takeWhile_cons, if_neg (by rw [h y (by simp)]; simp)]; rfl
  | cons x a ih => rw [List.cons_append, List.takeWhile_cons, List.takeWhile_cons, ih]
theorem dropWhile_none {α : Type} (f : α → Bool) (a b : List α) (h : ∀ x ∈ b, f x = false) : (a ++ b).dropWhile f = a.dropWhile f ++ b := by
  induction a with
  | nil =>
    cases b with
    | nil => rfl
    | cons y b => rw [List.nil_append, List.dropWhile_cons, if_neg (by rw [h y (by simp)]; simp)]; rfl
  | cons x a ih =>
    rw [List.cons_append, List.dropWhile_cons, List.dropWhile_cons]
    split
    · exact ih
    · rfl
theorem putL_app (A B C : List Item) (i : Item) (hA : ∀ a ∈ A, a.key < i.key) (hC : ∀ c ∈ C, i.key < c.key) : putL (A ++ B ++ C) i = A ++ putL B i ++ C := by
  have fA : ∀ x ∈ A, (fun x : Item => decide (Keyed.key x < i.key)) x = true := fun x hx => decide_eq_true (hA x hx)
  have fC : ∀ x ∈ C, (fun x : Item => decide (Keyed.key x < i.key)) x = false := fun x hx => decide_eq_false (List.lt_asymm (hC x hx))
  have e1 : ahead (A ++ B ++ C) i.key = A ++ ahead B i.key := by
    unfold ahead
    rw [takeWhile_none _ _ _ fC, takeWhile_all _ _ _ fA]
  have e2 : behind (A ++ B ++ C) i.key = behind B i.key ++ C := by
    unfold behind
    rw [dropWhile_none _ _ _ fC, dropWhile_all _ _ _ fA]
  unfold putL
  rw [e1, e2]
  cases hb : behind B i.key with
  | nil =>
    cases C with
    | nil => simp
    | cons c C =>
      have : c.key ≠ i.key := fun q => by have := hC c (by simp); rw [q] at this; exact List.lt_irrefl _ this
      simp [this]
  | cons x r =>
    by_cases hx : x.key = i.key
    · simp [hx]
    · simp [hx]
theorem putL_mem (l : List Item) (i x : Item) (h : x ∈ putL l i) : x = i ∨ x ∈ l := by
  unfold putL at h
  rcases List.mem_append.1 h with h | h
  · exact .inr (by rw [← ahead_behind l i.key]; exact List.mem_append_left _ h)
  · rcases List.mem_cons.1 h with h | h
    · exact .inl h
    · right
      rw [← ahead_behind l i.key]
      refine List.mem_append_right _ ?_
      cases hb : behind l i.key with
      | nil => rw [hb] at h; cases h
      | cons y r =>
        rw [hb] at h
        simp only at h
        split at h
        · exact List.mem_cons_of_mem _ h
        · exact h
theorem putL_ne (l : List Item) (i : Item) : putL l i ≠ [] := by unfold putL; simp
theorem putL_right {l : List Item} {i : Item} (h : rightL l = true) (hi : okItem i = true) : rightL (putL l i) = true := by
  rw [rightL_iff] at h ⊢
  refine ⟨fun x hx => by rcases putL_mem l i x hx with rfl | hx; exact hi; exact h.1 x hx, ?_⟩
  have hr := h.2
  have hg := behind_ge h.2 i.key
  have hl := ahead_lt l i.key
  rw [← ahead_behind l i.key] at hr
  unfold Rising putL
  unfold Rising at hr
  rw [List.pairwise_append] at hr
  obtain ⟨h1, h2, h3⟩ := hr
  have h4 : ∀ x ∈ (match behind l i.key with | [] => [] | x :: r => if x.key = i.key then r else x :: r), x ∈ behind l i.key ∧ i.key < x.key := by
    intro x hx
    cases hb : behind l i.key with
    | nil => rw [hb] at hx; cases hx
    | cons y r =>
      rw [hb] at hx h2 hg
      simp only at hx
      have hyr := (List.pairwise_cons.1 h2).1
      split at hx
      · rename_i hy
        exact ⟨List.mem_cons_of_mem _ hx, by have := hyr x hx; change y.key < x.key at this; rwa [hy] at this⟩
      · rename_i hy
        have : i.key < y.key := by
          apply Classical.byContradiction
          intro q
          exact hy (List.le_antisymm q (hg y (by simp)))
        rcases List.mem_cons.1 hx with rfl | hx
        · exact ⟨by simp, this⟩
        · exact ⟨List.mem_cons_of_mem _ hx, List.lt_trans this (hyr x hx)⟩
  rw [List.pairwise_append]
  refine ⟨h1, ?_, fun a ha b hb => ?_⟩
  · rw [List.pairwise_cons]
    refine ⟨fun b hb => (h4 b hb).2, ?_⟩
    cases hb : behind l i.key with
    | nil => exact List.Pairwise.nil
    | cons y r =>
      rw [hb] at h2
      simp only
      split
      · exact (List.pairwise_cons.1 h2).2
      · exact h2
  · rcases List.mem_cons.1 hb with rfl | hb
    · exact hl a ha
    · exact h3 a ha b (h4 b hb).1
theorem sizeL_sub {α : Type} [Keyed α] {l m : List α} (h : m.Sublist l) : sizeL m ≤ sizeL l := by
  induction h with
  | slnil => exact Nat.le_refl _
  | cons a h ih => rw [sizeL_cons]; omega
  | cons_cons a h ih => rw [sizeL_cons, sizeL_cons]; omega
theorem putL_size (l : List Item) (i : Item) : sizeL (putL l i) ≤ sizeL l + Keyed.cost i := by
  have e := sizeL_app (ahead l i.key) (behind l i.key)
  rw [ahead_behind] at e
  unfold putL
  have f := sizeL_app (ahead l i.key) (i :: (match behind l i.key with | [] => [] | x :: r => if x.key = i.key then r else x :: r))
  rw [sizeL_cons] at f
  have g : sizeL (match behind l i.key with | [] => [] | x :: r => if x.key = i.key then r else x :: r) ≤ sizeL (behind l i.key) := by
    refine sizeL_sub ?_
    cases hb : behind l i.key with
    | nil => exact List.Sublist.refl _
    | cons y r =>
      simp only
      split
      · exact List.sublist_cons_self y r
      · exact List.Sublist.refl _
  omega
theorem findK_is {ks : List Kid} (hr : Rising ks) (hne : ks ≠ []) (k : Bytes) : ∃ A x C, ks = A ++ x :: C ∧ findK ks k = A.length ∧ (∀ c ∈ C, k < c.key) ∧ (A = [] ∨ ¬ k < x.key) := by
  have e : ks.takeWhile (fun x => !decide (k < x.key)) ++ ks.dropWhile (fun x => !decide (k < x.key)) = ks := List.takeWhile_append_dropWhile
  have hT : ∀ x ∈ ks.takeWhile (fun x => !decide (k < x.key)), ¬ k < x.key := by
    clear e hr hne
    induction ks with
    | nil => intro x hx; cases hx
    | cons y ks ih =>
      intro x hx
      rw [List.takeWhile_cons] at hx
      split at hx
      · rename_i hy
        rcases List.mem_cons.1 hx with rfl | hx
        · simpa using hy
        · exact ih x hx
      · cases hx
  have hD : ∀ x ∈ ks.dropWhile (fun x => !decide (k < x.key)), k < x.key := by
    clear e hT hne
    induction ks with
    | nil => intro x hx; cases hx
    | cons y ks ih =>
      intro x hx
      have hp := List.pairwise_cons.1 hr
      rw [List.dropWhile_cons] at hx
      split at hx
      · exact ih hp.2 x hx
      · rename_i hy
        have hy : k < y.key := by simpa using hy
        rcases List.mem_cons.1 hx with rfl | hx
        · exact hy
        · exact List.lt_trans hy (hp.1 x hx)
  unfold findK
  generalize ks.takeWhile (fun x => !decide (k < x.key)) = T at *
  generalize ks.dropWhile (fun x => !decide (k < x.key)) = D at *
  cases hl : T.getLast? with
  | none =>
    obtain rfl : T = [] := by simpa using hl
    cases D with
    | nil => simp at e; exact absurd e.symm (by simpa using hne)
    | cons d D => exact ⟨[], d, D, by simpa using e.symm, rfl, fun c hc => hD c (by simp [hc]), .inl rfl⟩
  | some x =>
    have hTn : T ≠ [] := by intro q; subst q; simp at hl
    have hx : T.dropLast ++ [x] = T := by
      have := List.dropLast_concat_getLast hTn
      rw [List.getLast?_eq_some_getLast hTn] at hl
      rwa [Option.some.inj hl] at this
    have happ : ks = T.dropLast ++ x :: D := by
      rw [← e]
      have := congrArg (· ++ D) hx
      simpa using this.symm
    refine ⟨T.dropLast, x, D, happ, by rw [List.length_dropLast], hD, .inr (hT x ?_)⟩
    rw [← hx]; simp
structure Moved2 (p : PSt) (ids : List Int) (p' : PSt) (ids' : List Int) (few : Nat) : Prop where
  new : ∀ j ∈ ids', j ∈ ids ∨ (p.L.length + 2 : Nat) ≤ j
  other : ∀ j : Int, j < (p.L.length + 2 : Nat) → j ∉ ids ∨ isMine p j = false → nodeAt p'.L j = nodeAt p.L j
  grow : p.L.length ≤ p'.L.length
  few : p'.L.length ≤ p.L.length + few
  gone : ∃ gs, p'.given = p.given ++ gs ∧ (∀ j, j ∈ gs ↔ j ∈ ids ∧ j ∉ ids') ∧ gs.Nodup
  twice : (∀ j ∈ ids, j ∉ p.given) → p'.twice = p.twice
  mine : p'.mine = p.mine
  bad : p'.bad = p.bad
  stop : p'.stop = p.stop
  all : ∀ j : Int, (p.L.length + 2 : Nat) ≤ j → j < (p'.L.length + 2 : Nat) → j ∈ ids'
theorem any_false {l : List Int} {j : Int} (h : j ∉ l) : (l.any fun g => g == j) = false := by
  rw [List.any_eq_false]
  intro x hx q
  exact h (by rwa [← (by simpa using q : x = j)])
theorem Kept.moved {p p' : PSt} {old : Int} {ns : List Node} {ids : List Int} (K : Kept p old ns ids p') (ho : old ≠ 0) (few : Nat) (hf : ns.length ≤ few) : Moved2 p [old] p' ids few := by
  refine ⟨fun j hj => (K.new j hj).imp (fun q => by simp [q.1]) id, fun j hj q => K.other j hj (q.imp (fun q => by simpa using q) id), K.grow, by have := K.few; omega, ?_, fun hg => ?_, K.mine, K.bad, K.stop, K.all⟩
  · rcases K.given with ⟨h1 | h1, h2, h3⟩ | ⟨h1, h2, h3, h4⟩
    · exact ⟨[], by simpa using h2, fun j => ⟨fun q => by (cases q), fun q => by have := List.mem_singleton.1 q.1; subst this; exact absurd h1 q.2⟩, List.nodup_nil⟩
    · exact absurd h1 ho
    · exact ⟨[old], h3, fun j => ⟨fun q => by have := List.mem_singleton.1 q; subst this; exact ⟨q, h1⟩, fun q => q.1⟩, by simp⟩
  · rcases K.given with ⟨h1, h2, h3⟩ | ⟨h1, h2, h3, h4⟩
    · exact h3
    · rw [h4, any_false (hg old (by simp)), Bool.or_false]
theorem isMine_grow {p p' : PSt} (hm : p'.mine = p.mine) (hg : p.L.length ≤ p'.L.length) {j : Int} (hj : j < (p.L.length + 2 : Nat)) : isMine p' j = isMine p j := by
  unfold isMine
  rw [hm]
  by_cases h : p.mine ≤ j ∧ 2 ≤ j
  · rw [decide_eq_true ⟨h.1, by omega, h.2⟩, decide_eq_true ⟨h.1, by omega, h.2⟩]
  · rw [decide_eq_false (fun q => h ⟨q.1, q.2.2⟩), decide_eq_false (fun q => h ⟨q.1, q.2.2⟩)]
theorem forest_swap {L L' : List Node} {n : Nat} {A C : List Sprout} {t : Sprout} {w0 : Sprout} {ws : List Sprout} {i : Item} (F : Forest L n (A ++ t :: C)) (W : Forest L' n (w0 :: ws)) (N : Nat) (hN : ∀ s ∈ A ++ t :: C, ∀ j ∈ s.ids, j < (N : Int))
    (hsame : ∀ s ∈ A ++ C, ∀ j ∈ s.ids, nodeAt L' j = nodeAt L j) (hit : ∀ x ∈ (w0 :: ws).flatMap Sprout.items, x = i ∨ x ∈ t.items) (hids : ∀ j ∈ (w0 :: ws).flatMap Sprout.ids, j ∈ t.ids ∨ (N : Int) ≤ j)
    (hC : ∀ c ∈ C, i.key < c.kid.key) (hA : A = [] ∨ ¬ i.key < t.kid.key) (hlow : ∀ b : Bytes, ¬ t.low < b → ¬ i.key < b → ∀ s ∈ w0 :: ws, ¬ s.kid.key < b) :
    Forest L' n (A ++ ⟨⟨minB w0.kid.key t.kid.key, w0.kid.page⟩, w0.low, w0.items, w0.ids⟩ :: ws ++ C) := by
  have hmin1 : ¬ w0.kid.key < minB w0.kid.key t.kid.key := by
    unfold minB; split
    · rename_i h; exact List.lt_asymm h
    · exact List.lt_irrefl _
  have hk := (rightL_iff _).1 F.ok
  have hw := (rightL_iff _).1 W.ok
  have hkr := hk.2
  unfold Rising at hkr
  rw [List.pairwise_map, List.pairwise_append, List.pairwise_cons] at hkr
  have hwr := hw.2
  unfold Rising at hwr
  rw [List.pairwise_map, List.pairwise_cons] at hwr
  have hhi := F.bd.hi
  rw [List.pairwise_append, List.pairwise_cons] at hhi
  have hwi := W.bd.hi
  rw [List.pairwise_cons] at hwi
  have hit2 : ∀ s ∈ w0 :: ws, ∀ x ∈ s.items, ∀ c ∈ C, x.key < c.kid.key := fun s hs x hx c hc => by
    rcases hit x (List.mem_flatMap.2 ⟨s, hs, hx⟩) with rfl | hx
    · exact hC c hc
    · exact hhi.2.1.1 c hc x hx
  have hwk : ∀ s ∈ w0 :: ws, ∀ c ∈ C, s.kid.key < c.kid.key := fun s hs c hc => by
    obtain ⟨x, hx⟩ := List.exists_mem_of_ne_nil _ (W.sub s hs).ne
    have h1 := hit2 s hs x hx c hc
    have h2 := not_lt_trans (W.bd.lo s hs) ((W.sub s hs).low_le x hx)
    apply Classical.byContradiction
    intro q
    exact h2 (lt_of_lt_not h1 q)
  have hwA : A ≠ [] → ∀ s ∈ w0 :: ws, ¬ s.kid.key < t.kid.key := fun hn => hlow t.kid.key (F.bd.lo t (by simp)) (hA.resolve_left hn)
  have hminA : A ≠ [] → ¬ minB w0.kid.key t.kid.key < t.kid.key := fun hn => by
    unfold minB; split
    · exact List.lt_irrefl _
    · exact hwA hn w0 (by simp)
  have hmin2 : ∀ k : Bytes, w0.kid.key < k → minB w0.kid.key t.kid.key < k := fun k hlt => by
    unfold minB; split
    · rename_i h; exact List.lt_trans h hlt
    · exact hlt
  have old_new : ∀ x : Bytes, x < t.kid.key → ∀ y : Bytes, ¬ y < t.kid.key → x < y := fun x hx y hy => lt_of_lt_not hx hy
  refine ⟨fun s hs => ?_, ⟨fun s hs => ?_, ?_⟩, ?_, ?_⟩
  · simp only [List.append_assoc, List.cons_append, List.mem_append, List.mem_cons] at hs
    rcases hs with hs | rfl | hs | hs
    · exact (F.sub s (by simp [hs])).keep fun j hj => hsame s (by simp [hs]) j hj
    · exact W.sub w0 (by simp)
    · exact W.sub s (by simp [hs])
    · exact (F.sub s (by simp [hs])).keep fun j hj => hsame s (by simp [hs]) j hj
  · simp only [List.append_assoc, List.cons_append, List.mem_append, List.mem_cons] at hs
    rcases hs with hs | rfl | hs | hs
    · exact F.bd.lo s (by simp [hs])
    · exact not_lt_trans hmin1 (W.bd.lo w0 (by simp))
    · exact W.bd.lo s (by simp [hs])
    · exact F.bd.lo s (by simp [hs])
  · rw [List.append_assoc, List.pairwise_append, List.cons_append, List.pairwise_cons, List.pairwise_append]
    refine ⟨hhi.1, ⟨fun s hs x hx => ?_, hwi.2, hhi.2.1.2, fun s hs c hc x hx => hit2 s (by simp [hs]) x hx c hc⟩, fun a ha s hs x hx => ?_⟩
    · rcases List.mem_append.1 hs with hs | hs
      · exact hwi.1 s hs x hx
      · exact hit2 w0 (by simp) x hx s hs
    · have hn : A ≠ [] := by intro q; subst q; cases ha
      have h1 := hhi.2.2 a ha t (by simp) x hx
      rcases List.mem_cons.1 hs with rfl | hs
      · exact old_new _ h1 _ (hminA hn)
      · rcases List.mem_append.1 hs with hs | hs
        · exact old_new _ h1 _ (hwA hn s (by simp [hs]))
        · exact hhi.2.2 a ha s (by simp [hs]) x hx
  · rw [rightL_iff]
    refine ⟨fun k hk2 => ?_, ?_⟩
    · obtain ⟨s, hs, rfl⟩ := List.mem_map.1 hk2
      simp only [List.append_assoc, List.cons_append, List.mem_append, List.mem_cons] at hs
      rcases hs with hs | rfl | hs | hs
      · exact hk.1 _ (List.mem_map_of_mem (by simp [hs]))
      · have g1 : okKid w0.kid = true := hw.1 _ (List.mem_map_of_mem (by simp))
        have g2 : okKid t.kid = true := hk.1 _ (List.mem_map_of_mem (by simp))
        show okKid ⟨minB w0.kid.key t.kid.key, w0.kid.page⟩ = true
        simp only [okKid, decide_eq_true_eq] at g1 g2 ⊢
        refine ⟨?_, g1.2⟩
        unfold minB; split
        · exact g2.1
        · exact g1.1
      · exact hw.1 _ (List.mem_map_of_mem (by simp [hs]))
      · exact hk.1 _ (List.mem_map_of_mem (by simp [hs]))
    · unfold Rising
      rw [List.pairwise_map, List.append_assoc, List.pairwise_append, List.cons_append, List.pairwise_cons, List.pairwise_append]
      refine ⟨hkr.1, ⟨fun s hs => ?_, hwr.2, hkr.2.1.2, fun s hs c hc => hwk s (by simp [hs]) c hc⟩, fun a ha s hs => ?_⟩
      · rcases List.mem_append.1 hs with hs | hs
        · exact hmin2 _ (hwr.1 s hs)
        · exact hmin2 _ (hwk w0 (by simp) s hs)
      · have hn : A ≠ [] := by intro q; subst q; cases ha
        have h1 : a.kid.key < t.kid.key := hkr.2.2 a ha t (by simp)
        rcases List.mem_cons.1 hs with rfl | hs
        · exact old_new _ h1 _ (hminA hn)
        · rcases List.mem_append.1 hs with hs | hs
          · exact old_new _ h1 _ (hwA hn s (by simp [hs]))
          · exact hkr.2.2 a ha s (by simp [hs])
  · have hnd := F.nd
    have hwn := W.nd
    rw [List.flatMap_append, List.flatMap_cons] at hnd
    have hNA : ∀ j ∈ A.flatMap Sprout.ids, j < (N : Int) := fun j hj => by obtain ⟨s, hs, hj⟩ := List.mem_flatMap.1 hj; exact hN s (by simp [hs]) j hj
    have hNC : ∀ j ∈ C.flatMap Sprout.ids, j < (N : Int) := fun j hj => by obtain ⟨s, hs, hj⟩ := List.mem_flatMap.1 hj; exact hN s (by simp [hs]) j hj
    have e : (A ++ ⟨⟨minB w0.kid.key t.kid.key, w0.kid.page⟩, w0.low, w0.items, w0.ids⟩ :: ws ++ C).flatMap Sprout.ids = A.flatMap Sprout.ids ++ ((w0 :: ws).flatMap Sprout.ids ++ C.flatMap Sprout.ids) := by simp
    rw [e]
    generalize A.flatMap Sprout.ids = a at *
    generalize C.flatMap Sprout.ids = c at *
    generalize (w0 :: ws).flatMap Sprout.ids = w at *
    rw [List.nodup_append, List.nodup_append] at hnd
    rw [List.nodup_append, List.nodup_append]
    refine ⟨hnd.1, ⟨hwn, hnd.2.1.2.1, fun x hx y hy e => ?_⟩, fun x hx y hy e => ?_⟩
    · subst e
      rcases hids x hx with q | q
      · exact hnd.2.1.2.2 x q x hy rfl
      · have := hNC x hy; omega
    · subst e
      rcases List.mem_append.1 hy with hy | hy
      · rcases hids x hy with q | q
        · exact hnd.2.2 x hx x (List.mem_append_left _ q) rfl
        · have := hNA x hx; omega
      · exact hnd.2.2 x hx x (List.mem_append_right _ hy) rfl
theorem loadP_is {p : PSt} {id : Int} {n : Node} {depth : Int} (h : nodeAt p.L id = some n) (hd : depth ≤ 12) (hs : p.stop < 0) : loadP p id depth = (.ok n, p) := by
  unfold loadP getP
  rw [if_neg (by omega), if_neg (by omega), h]
  simp only
  rw [if_neg (by omega)]
theorem putP_is (i : Item) (hi : okItem i = true) (n : Nat) : ∀ (p : PSt) (id : Int) (b : Bytes) (l : List Item) (ids : List Int) (depth : Int) (f : Nat), Tree p.L n id b l ids → n < f → depth + n ≤ 12 → p.stop < 0 → p.L.length + 3 + 2 * n ≤ 3998 →
    ∃ ts p', putP f p id i depth = (.ok (ts.map Sprout.kid), p') ∧ Forest p'.L n ts ∧ ts.flatMap Sprout.items = putL l i ∧ ts ≠ [] ∧ ts.length ≤ 3 ∧ Moved2 p ids p' (ts.flatMap Sprout.ids) (3 + 2 * n) ∧
      ∀ b' : Bytes, ¬ b < b' → ¬ i.key < b' → ∀ s ∈ ts, ¬ s.kid.key < b' := by
  induction n with
  | zero =>
    intro p id b l ids depth f h hf hd hs hL
    obtain ⟨f, rfl⟩ : ∃ g, f = g + 1 := ⟨f - 1, by omega⟩
    cases h with
    | leaf id l h ne ok =>
      have hid := nodeAt_lt h
      have hc := (cost_item hi).2
      have hsz := putL_size l i
      have ok2 := ok.2.1
      obtain ⟨ts, p', h1, h2, h3, h4, h5, h6, h7⟩ := leavesP_is p id (putL l i) (putL_right ok.1 hi) (by omega) (by omega) hid.2
      refine ⟨ts, p', ?_, h2, h3, ?_, h4, h5.moved (by omega) _ (by rw [List.length_map]; omega), fun b' hb hib s hs => ?_⟩
      · rw [putP, loadP_is h (by omega) hs]
        exact h1
      · intro q; subst q; exact putL_ne l i h3.symm
      · obtain ⟨x, hx, ex⟩ := h6 s hs
        rw [← ex]
        have hx2 : x ∈ putL l i := by rw [← h3]; exact List.mem_flatMap.2 ⟨s, hs, hx⟩
        rcases putL_mem l i x hx2 with rfl | hx2
        · exact hib
        · exact not_lt_trans hb (hd_le ((rightL_iff _).1 ok.1).2 x hx2)
  | succ n ih =>
    intro p id b l ids depth f h hf hd hs hL
    obtain ⟨f, rfl⟩ : ∃ g, f = g + 1 := ⟨f - 1, by omega⟩
    cases h with
    | twig _ _ ts h two ok sub bd nd =>
      have hid := nodeAt_lt h
      have hri := (rightL_iff _).1 ok.1
      rw [List.nodup_cons] at nd
      have F : Forest p.L n ts := ⟨sub, bd, ok.1, nd.2⟩
      obtain ⟨A', x, C', e1, e2, e3, e4⟩ := findK_is hri.2 (by intro q; rw [List.map_eq_nil_iff] at q; subst q; simp at two) i.key
      obtain ⟨A, r, rfl, rfl, er⟩ := List.map_eq_append_iff.1 e1
      obtain ⟨t, C, rfl, rfl, rfl⟩ := List.map_eq_cons_iff.1 er
      have hthere : ∀ s ∈ A ++ t :: C, ∀ j ∈ s.ids, j < ((p.L.length + 2 : Nat) : Int) := fun s hs j hj => ((sub s hs).there j hj).2
      have hsep : ∀ s ∈ A ++ C, ∀ j ∈ s.ids, j ∉ t.ids := by
        intro s hs j hj q
        have hn := nd.2
        rw [List.flatMap_append, List.flatMap_cons, List.nodup_append, List.nodup_append] at hn
        rcases List.mem_append.1 hs with hs | hs
        · exact hn.2.2 j (List.mem_flatMap.2 ⟨s, hs, hj⟩) j (List.mem_append_left _ q) rfl
        · exact hn.2.1.2.2 j q j (List.mem_flatMap.2 ⟨s, hs, hj⟩) rfl
      have hAC : ∀ s ∈ A ++ C, s ∈ A ++ t :: C := fun s hs => by
        rcases List.mem_append.1 hs with hs | hs
        · exact List.mem_append_left _ hs
        · exact List.mem_append_right _ (List.mem_cons_of_mem _ hs)
      have hidt : id ∉ t.ids := fun q => nd.1 (List.mem_flatMap.2 ⟨t, by simp, q⟩)
      obtain ⟨w, p1, g1, W, g3, g4, g5, M, g7⟩ := ih p t.kid.page t.low t.items t.ids (depth + 1) f (sub t (by simp)) (by omega) (by omega) hs (by omega)
      obtain ⟨w0, ws, rfl⟩ := List.exists_cons_of_ne_nil g4
      have hC : ∀ c ∈ C, i.key < c.kid.key := fun c hc => e3 _ (List.mem_map_of_mem hc)
      have hA : A = [] ∨ ¬ i.key < t.kid.key := e4.imp (fun q => by simpa using q) (fun q => q)
      have F1 := forest_swap F W (p.L.length + 2) hthere (fun s hs j hj => M.other j (hthere s (hAC s hs) j hj) (.inl (hsep s hs j hj)))
        (fun x hx => putL_mem _ _ _ (by rw [← g3]; exact hx)) (fun j hj => (M.new j hj)) hC hA g7
      have hg := M.grow
      have hfew := M.few
      have hsize : sizeL ((A ++ ⟨⟨minB w0.kid.key t.kid.key, w0.kid.page⟩, w0.low, w0.items, w0.ids⟩ :: ws ++ C).map Sprout.kid) ≤ 392 := by
        have hk := (rightL_iff _).1 F1.ok
        have q1 := sizeL_app ((A.map Sprout.kid) ++ (⟨minB w0.kid.key t.kid.key, w0.kid.page⟩ :: ws.map Sprout.kid)) (C.map Sprout.kid)
        have q2 := sizeL_app (A.map Sprout.kid) (⟨minB w0.kid.key t.kid.key, w0.kid.page⟩ :: ws.map Sprout.kid)
        have q3 := sizeL_app (A.map Sprout.kid) (t.kid :: C.map Sprout.kid)
        have q4 := sizeL_most (⟨minB w0.kid.key t.kid.key, w0.kid.page⟩ :: ws.map Sprout.kid) (fun y hy => (cost_kid (hk.1 y (by
          rw [List.map_append, List.map_append]; exact List.mem_append_left _ (List.mem_append_right _ (by simpa using hy))))).2)
        have q5 := ok.2.1
        rw [List.map_append, List.map_cons] at q5
        rw [sizeL_cons t.kid] at q3
        have e : (A ++ ⟨⟨minB w0.kid.key t.kid.key, w0.kid.page⟩, w0.low, w0.items, w0.ids⟩ :: ws ++ C).map Sprout.kid = (A.map Sprout.kid ++ (⟨minB w0.kid.key t.kid.key, w0.kid.page⟩ :: ws.map Sprout.kid)) ++ C.map Sprout.kid := by simp
        rw [e]
        simp only [List.length_cons, List.length_map] at q4 g5
        have q6 := sizeL_pos (C.map Sprout.kid)
        omega
      have hFids : ∀ j, j ∈ (A ++ ⟨⟨minB w0.kid.key t.kid.key, w0.kid.page⟩, w0.low, w0.items, w0.ids⟩ :: ws ++ C).flatMap Sprout.ids ↔ j ∈ (A ++ C).flatMap Sprout.ids ∨ j ∈ (w0 :: ws).flatMap Sprout.ids := by
        intro j
        simp only [List.flatMap_append, List.flatMap_cons, List.mem_append]
        constructor
        · rintro ((h | h | h) | h)
          · exact .inl (.inl h)
          · exact .inr (.inl h)
          · exact .inr (.inr h)
          · exact .inl (.inr h)
        · rintro ((h | h) | (h | h))
          · exact .inl (.inl h)
          · exact .inr h
          · exact .inl (.inr (.inl h))
          · exact .inl (.inr (.inr h))
      have hidF : id ∉ (A ++ ⟨⟨minB w0.kid.key t.kid.key, w0.kid.page⟩, w0.low, w0.items, w0.ids⟩ :: ws ++ C).flatMap Sprout.ids := fun q => by
        rcases (hFids id).1 q with q | q
        · obtain ⟨s, hs, q⟩ := List.mem_flatMap.1 q
          exact nd.1 (List.mem_flatMap.2 ⟨s, hAC s hs, q⟩)
        · rcases M.new id q with q | q
          · exact hidt q
          · omega
      have hlen1 : (id : Int) < (p1.L.length + 2 : Nat) := by omega
      obtain ⟨us, p2, pages, k1, k2, k3, k4, k5, K, k7, k8, k9⟩ := twigsP_is p1 id n _ F1 (by simp only [List.length_append, List.length_cons] at two ⊢; omega) hsize (by omega) hlen1 hidF
      have hns : ((cutT ((A ++ ⟨⟨minB w0.kid.key t.kid.key, w0.kid.page⟩, w0.low, w0.items, w0.ids⟩ :: ws ++ C).map Sprout.kid)).map Node.twig).length ≤ 2 := by rw [← K.len, k7]; exact k4
      have M2 := K.moved (by omega) 2 hns
      refine ⟨us, p2, ?_, k2, ?_, k5, by omega, ?_, ?_⟩
      · rw [putP, loadP_is h (by omega) hs]
        simp only
        rw [e2, List.map_append, List.getElem?_append_right (by simp)]
        simp only [List.length_map, Nat.sub_self, List.map_cons, List.getElem?_cons_zero]
        rw [g1]
        simp only
        have e : swapL (A.map Sprout.kid ++ t.kid :: C.map Sprout.kid) A.length (lowerHead t.kid.key ((w0 :: ws).map Sprout.kid)) = (A ++ ⟨⟨minB w0.kid.key t.kid.key, w0.kid.page⟩, w0.low, w0.items, w0.ids⟩ :: ws ++ C).map Sprout.kid := by
          unfold swapL
          have q1 : (A.map Sprout.kid ++ t.kid :: C.map Sprout.kid).take A.length = A.map Sprout.kid := by
            have := List.take_left (l₁ := A.map Sprout.kid) (l₂ := t.kid :: C.map Sprout.kid)
            rwa [List.length_map] at this
          have q2 : (A.map Sprout.kid ++ t.kid :: C.map Sprout.kid).drop (A.length + 1) = C.map Sprout.kid := by
            have := List.drop_left (l₁ := A.map Sprout.kid ++ [t.kid]) (l₂ := C.map Sprout.kid)
            simpa using this
          rw [q1, q2]
          simp [lowerHead]
        rw [e]
        exact k1
      · rw [k3]
        have e : (A ++ ⟨⟨minB w0.kid.key t.kid.key, w0.kid.page⟩, w0.low, w0.items, w0.ids⟩ :: ws ++ C).flatMap Sprout.items = A.flatMap Sprout.items ++ (w0 :: ws).flatMap Sprout.items ++ C.flatMap Sprout.items := by simp
        rw [e, g3]
        have e' : (A ++ t :: C).flatMap Sprout.items = A.flatMap Sprout.items ++ t.items ++ C.flatMap Sprout.items := by simp
        rw [e', putL_app]
        · intro x hx
          obtain ⟨s, hs, hx⟩ := List.mem_flatMap.1 hx
          have hb := bd.hi
          rw [List.pairwise_append] at hb
          have h1 := hb.2.2 s hs t (by simp) x hx
          rcases hA with q | q
          · subst q; cases hs
          · exact lt_of_lt_not h1 q
        · intro x hx
          obtain ⟨s, hs, hx⟩ := List.mem_flatMap.1 hx
          have h1 := not_lt_trans (bd.lo s (by simp [hs])) ((sub s (by simp [hs])).low_le x hx)
          exact lt_of_lt_not (hC s hs) h1
      · have hgs := M.gone
        obtain ⟨gs, q1, q2, q3⟩ := hgs
        obtain ⟨gs2, r1, r2, r3⟩ := M2.gone
        have hgs2 : ∀ j ∈ gs2, j = id := fun j hj => by simpa using ((r2 j).1 hj).1
        refine ⟨fun j hj => ?_, fun j hj q => ?_, Nat.le_trans hg M2.grow, by have := M2.few; omega, ⟨gs ++ gs2, by rw [r1, q1, List.append_assoc], fun j => ?_, ?_⟩, fun hgv => ?_, M2.mine.trans M.mine, M2.bad.trans M.bad, M2.stop.trans M.stop, fun j ha hb => (k8 j).2 ((Int.lt_or_le j ((p1.L.length + 2 : Nat) : Int)).elim (fun q => .inr ((hFids j).2 (.inr (M.all j ha q)))) fun q => .inl (M2.all j q hb))⟩
        · rcases (k8 j).1 hj with hj | hj
          · rcases M2.new j hj with hj | hj
            · exact .inl (by rw [List.mem_singleton.1 hj]; simp)
            · exact .inr (by omega)
          · rcases (hFids j).1 hj with hj | hj
            · obtain ⟨s, hs, hj⟩ := List.mem_flatMap.1 hj
              exact .inl (List.mem_cons_of_mem _ (List.mem_flatMap.2 ⟨s, hAC s hs, hj⟩))
            · rcases M.new j hj with hj | hj
              · exact .inl (List.mem_cons_of_mem _ (List.mem_flatMap.2 ⟨t, by simp, hj⟩))
              · exact .inr hj
        · refine (M2.other j (by omega) ?_).trans (M.other j hj ?_)
          · rcases q with q | q
            · exact .inl fun e => q (by rw [List.mem_singleton.1 e]; simp)
            · exact .inr (by rw [isMine_grow M.mine hg hj]; exact q)
          · rcases q with q | q
            · exact .inl fun e => q (List.mem_cons_of_mem _ (List.mem_flatMap.2 ⟨t, by simp, e⟩))
            · exact .inr q
        · rw [List.mem_append]
          constructor
          · rintro (hj | hj)
            · obtain ⟨hjt, hjw⟩ := (q2 j).1 hj
              refine ⟨List.mem_cons_of_mem _ (List.mem_flatMap.2 ⟨t, by simp, hjt⟩), fun hju => ?_⟩
              rcases (k8 j).1 hju with hju | hju
              · rcases M2.new j hju with hju | hju
                · rw [List.mem_singleton.1 hju] at hjt; exact hidt hjt
                · have := hthere t (by simp) j hjt; omega
              · rcases (hFids j).1 hju with hju | hju
                · obtain ⟨s, hs, hju⟩ := List.mem_flatMap.1 hju
                  exact hsep s hs j hju hjt
                · exact hjw hju
            · have e := hgs2 j hj
              subst e
              refine ⟨by simp, fun hju => ?_⟩
              rcases (k8 _).1 hju with hju | hju
              · exact ((r2 _).1 hj).2 hju
              · exact hidF hju
          · rintro ⟨hj, hju⟩
            have hju2 : j ∉ pages := fun q => hju ((k8 j).2 (.inl q))
            rcases List.mem_cons.1 hj with rfl | hj
            · exact .inr ((r2 _).2 ⟨by simp, hju2⟩)
            · obtain ⟨s, hs, hjs⟩ := List.mem_flatMap.1 hj
              by_cases hst : j ∈ t.ids
              · exact .inl ((q2 j).2 ⟨hst, fun q => hju ((k8 j).2 (.inr ((hFids j).2 (.inr q))))⟩)
              · exfalso
                refine hju ((k8 j).2 (.inr ((hFids j).2 (.inl (List.mem_flatMap.2 ⟨s, ?_, hjs⟩)))))
                rcases List.mem_append.1 hs with hs | hs
                · exact List.mem_append_left _ hs
                · rcases List.mem_cons.1 hs with rfl | hs
                  · exact absurd hjs hst
                  · exact List.mem_append_right _ hs
        · rw [List.nodup_append]
          refine ⟨q3, r3, fun x hx y hy e => ?_⟩
          subst e
          rw [hgs2 x hy] at hx
          exact hidt ((q2 id).1 hx).1
        · have h1 := M.twice fun j hj => hgv j (List.mem_cons_of_mem _ (List.mem_flatMap.2 ⟨t, by simp, hj⟩))
          refine (M2.twice fun j hj => ?_).trans h1
          rw [List.mem_singleton.1 hj, q1, List.mem_append]
          rintro (q | q)
          · exact hgv id (by simp) q
          · exact hidt ((q2 id).1 q).1
      · intro b' hb hib u hu
        obtain ⟨s, hs, es⟩ := k9 u hu
        rw [← es]
        have hall : ∀ s ∈ A ++ t :: C, ¬ s.kid.key < b' := fun s hs => not_lt_trans hb (hd_le hri.2 s.kid (List.mem_map_of_mem hs))
        have hw := g7 b' (not_lt_trans (hall t (by simp)) (bd.lo t (by simp))) hib
        simp only [List.append_assoc, List.cons_append, List.mem_append, List.mem_cons] at hs
        rcases hs with hs | rfl | hs | hs
        · exact hall s (by simp [hs])
        · show ¬ minB w0.kid.key t.kid.key < b'
          unfold minB; split
          · exact hall t (by simp)
          · exact hw w0 (by simp)
        · exact hw s (by simp [hs])
        · exact hall s (by simp [hs])
theorem Moved2.refl (p : PSt) (ids : List Int) : Moved2 p ids p ids 0 :=
  ⟨fun _ h => .inl h, fun _ _ _ => rfl, Nat.le_refl _, Nat.le_refl _, ⟨[], by simp, fun j => ⟨fun q => by (cases q), fun q => absurd q.1 q.2⟩, List.nodup_nil⟩, fun _ => rfl, rfl, rfl, rfl, fun _ h1 h2 => absurd h1 (by omega)⟩
theorem Moved2.top {p p1 p2 : PSt} {ids ids1 ids2 pages : List Int} {f : Nat} {ns : List Node} (M : Moved2 p ids p1 ids1 f) (K : Kept p1 0 ns pages p2) (h : ∀ j, j ∈ ids2 ↔ j ∈ pages ∨ j ∈ ids1) (hthere : ∀ j ∈ ids, 2 ≤ j ∧ j < (p.L.length + 2 : Nat)) :
    Moved2 p ids p2 ids2 (f + ns.length) := by
  have hg := M.grow
  have hpg : ∀ j ∈ pages, (p1.L.length + 2 : Nat) ≤ j := fun j hj => by
    rcases K.new j hj with ⟨e, _⟩ | q
    · have := (K.pos j hj).1; omega
    · exact q
  have hgv : p2.given = p1.given ∧ p2.twice = p1.twice := by
    rcases K.given with ⟨_, h⟩ | ⟨_, h0, _⟩
    · exact h
    · exact absurd rfl h0
  obtain ⟨gs, q1, q2, q3⟩ := M.gone
  refine ⟨fun j hj => ?_, fun j hj q => ?_, Nat.le_trans hg K.grow, by have := K.few; have := M.few; omega, ⟨gs, hgv.1.trans q1, fun j => ?_, q3⟩, fun q => hgv.2.trans (M.twice q), K.mine.trans M.mine, K.bad.trans M.bad, K.stop.trans M.stop, fun j ha hb => (h j).2 ((Int.lt_or_le j ((p1.L.length + 2 : Nat) : Int)).elim (fun q => .inr (M.all j ha q)) fun q => .inl (K.all j q hb))⟩
  · rcases (h j).1 hj with hj | hj
    · have := hpg j hj; exact .inr (by omega)
    · exact M.new j hj
  · by_cases h0 : j = 0
    · subst h0
      have e1 : nodeAt p2.L 0 = none := rfl
      have e2 : nodeAt p.L 0 = none := rfl
      rw [e1, e2]
    · exact (K.other j (by omega) (.inl h0)).trans (M.other j hj q)
  · rw [q2 j]
    constructor
    · rintro ⟨h1, h2⟩
      refine ⟨h1, fun q => ?_⟩
      rcases (h j).1 q with q | q
      · have := hpg j q; have := (hthere j h1).2; omega
      · exact h2 q
    · rintro ⟨h1, h2⟩
      exact ⟨h1, fun q => h2 ((h j).2 (.inr q))⟩
inductive Rooted (L : List Node) : Int → List Item → List Int → Prop
  | none : Rooted L 0 [] []
  | some (n : Nat) (root : Int) (b : Bytes) (l : List Item) (ids : List Int) (h : Tree L n root b l ids) : Rooted L root l ids
theorem cut_whole {α : Type} [Keyed α] (l : List α) (hne : l ≠ []) (h1 : sizeL l ≤ 232) (h2 : l.length ≤ 255) : cutL l = [l] := by
  have hc := cut1_le l hne
  have hm := cut1_max l
  have : cut1 l = l.length := by
    apply Classical.byContradiction
    intro q
    refine hm ⟨by omega, by omega, ?_⟩
    exact Nat.le_trans (sizeL_le l _) h1
  rw [cutL_step l hne, this, List.take_length, List.drop_length, cutL_nil]
theorem topP_is (p : PSt) (n : Nat) (ts : List Sprout) (F : Forest p.L n ts) (hne : ts ≠ []) (h3 : ts.length ≤ 3) (hL : p.L.length + 1 ≤ 3998) (f : Nat) (hf : 2 ≤ f) :
    ∃ root p' ids', topP f p (ts.map Sprout.kid) = (.ok root, p') ∧ Rooted p'.L root (ts.flatMap Sprout.items) ids' ∧ root ≠ 0 ∧ ∃ ns pages, Kept p 0 ns pages p' ∧ ns.length ≤ 1 ∧ ∀ j, j ∈ ids' ↔ j ∈ pages ∨ j ∈ ts.flatMap Sprout.ids := by
  obtain ⟨f, rfl⟩ : ∃ g, f = g + 2 := ⟨f - 2, by omega⟩
  have single : ∀ (q : PSt) (m : Nat) (s : Sprout), Forest q.L m [s] → s.kid.page ≠ 0 ∧ Rooted q.L s.kid.page s.items s.ids := fun q m s F => by
    have h := F.sub s (by simp)
    have h2 := h.there _ h.self
    exact ⟨by omega, .some m _ _ _ _ h⟩
  match ts, hne, h3, F with
  | [s], _, _, F =>
    obtain ⟨h0, h1⟩ := single p n s F
    refine ⟨s.kid.page, p, s.ids, rfl, by simpa using h1, h0, [], [], ⟨rfl, fun k n h => by simp at h, List.nodup_nil, fun j hj => (by cases hj), fun j hj => (by cases hj), fun _ _ _ => rfl, Nat.le_refl _, by simp, .inl ⟨.inr rfl, rfl, rfl⟩, rfl, rfl, rfl, fun _ h1 h2 => absurd h1 (by omega)⟩, by simp, fun j => by simp⟩
  | a :: b :: r, _, h3, F =>
    have hk := (rightL_iff _).1 F.ok
    have hs := sizeL_most ((a :: b :: r).map Sprout.kid) fun x hx => (cost_kid (hk.1 x hx)).2
    rw [List.length_map] at hs
    have hw : cutL ((a :: b :: r).map Sprout.kid) = [(a :: b :: r).map Sprout.kid] := cut_whole _ (by simp) (by omega) (by rw [List.length_map]; omega)
    have hc : cutT ((a :: b :: r).map Sprout.kid) = [(a :: b :: r).map Sprout.kid] := by unfold cutT; rw [hw]; rfl
    obtain ⟨us, p', pages, k1, k2, k3, k4, k5, K, k7, k8, _⟩ := by
      refine twigsP_is1 p 0 n (a :: b :: r) F (by simp) (by omega) (by rw [hc]; simpa using hL) (by omega) ?_
      intro q
      obtain ⟨s, hs, q⟩ := List.mem_flatMap.1 q
      have := ((F.sub s hs).there _ q).1
      omega
    have hul : us.length = 1 := by rw [← k7, K.len, hc]; rfl
    obtain ⟨u, rfl⟩ := List.length_eq_one_iff.1 hul
    obtain ⟨h0, h1⟩ := single p' _ u k2
    refine ⟨u.kid.page, p', u.ids, ?_, by rw [← k3]; simpa using h1, h0, _, pages, K, by rw [hc]; simp, fun j => by rw [← k8]; simp⟩
    show topP (f + 2) p (a.kid :: b.kid :: r.map Sprout.kid) = _
    rw [topP]
    · change twigsP p 0 (a.kid :: b.kid :: r.map Sprout.kid) = _ at k1
      rw [k1]
      rfl
    · intro q; cases q
    · intro k q; cases q
theorem putTree_is (p : PSt) (root : Int) (l : List Item) (ids : List Int) (i : Item) (hi : okItem i = true) (R : Rooted p.L root l ids) (hs : p.stop < 0) (m : Nat) (hm : l.length < 2 ^ m) (hm2 : m ≤ 11) (hL : p.L.length + 4 + 2 * m ≤ 3998) :
    ∃ root' p' ids', putTree p root i = (.ok root', p') ∧ Rooted p'.L root' (putL l i) ids' ∧ root' ≠ 0 ∧ Moved2 p ids p' ids' (2 + 2 * m) := by
  unfold putTree
  rw [if_pos hi]
  cases R with
  | none =>
    rw [if_pos rfl]
    have hr : rightL [i] = true := by rw [rightL_cons]; exact ⟨hi, (fun y hy => by simp at hy), rightL_nil⟩
    have hc := (cost_item hi).2
    have hsz : sizeL [i] ≤ 232 := by rw [sizeL_cons]; simp only [sizeL, List.foldr_nil]; omega
    have hw : cutL [i] = [[i]] := cut_whole _ (by simp) hsz (by simp)
    obtain ⟨ts, p1, h1, h2, h3, h4, K, h6, h7⟩ := leavesP_is p 0 [i] hr (by omega) (by omega) (by omega)
    have hl1 : ts.length = 1 := by rw [h7, hw]; rfl
    have hns : ((cutL [i]).map Node.leaf).length = 1 := by rw [hw]; rfl
    have hg := K.grow
    have hf := K.few
    obtain ⟨root', p', ids', t1, t2, t3, ns, pages, K2, t5, t6⟩ := topP_is p1 0 ts h2 (by intro q; subst q; simp at hl1) h4 (by omega) 20 (by omega)
    have M1 := (Moved2.refl p []).top K (ids2 := ts.flatMap Sprout.ids) (fun j => by simp) (fun j hj => by cases hj)
    have M2 := M1.top K2 t6 (fun j hj => by cases hj)
    refine ⟨root', p', ids', by rw [h1]; exact t1, by rw [h3] at t2; exact t2, t3, ?_⟩
    refine ⟨M2.new, M2.other, M2.grow, by have := M2.few; omega, M2.gone, M2.twice, M2.mine, M2.bad, M2.stop, M2.all⟩
  | some n _ b _ _ h =>
    have hself := h.there _ h.self
    rw [if_neg (by omega)]
    have hmany := h.many
    have hn : n < m := by
      apply Classical.byContradiction
      intro q
      have := Nat.pow_le_pow_right (n := 2) (by omega) (Nat.le_of_not_lt q)
      omega
    obtain ⟨ts, p1, h1, h2, h3, h4, h5, M, _⟩ := putP_is i hi n p root b l ids 1 13 h (by omega) (by omega) hs (by omega)
    have hg := M.grow
    have hf := M.few
    obtain ⟨root', p', ids', t1, t2, t3, ns, pages, K2, t5, t6⟩ := topP_is p1 n ts h2 h4 h5 (by omega) 20 (by omega)
    have M2 := M.top K2 t6 h.there
    refine ⟨root', p', ids', by rw [h1]; exact t1, by rw [h3] at t2; exact t2, t3, ?_⟩
    refine ⟨M2.new, M2.other, M2.grow, by have := M2.few; omega, M2.gone, M2.twice, M2.mine, M2.bad, M2.stop, M2.all⟩
end
section
open Go.RowKit
/-! ### A cursor -/
structure Place where
  node : Node
  at_ : Int
structure Cur where
  p : PSt
  root : Int
  stack : List Place
  e : Int
def nlen : Node → Nat
  | .leaf l => l.length
  | .twig l => l.length
  | .over _ => 0
def kidAt (l : List Kid) (a : Int) : Option Kid := if 0 ≤ a then l[a.toNat]? else none
def cLoad (c : Cur) (id : Int) : Bool × Cur :=
  if 12 ≤ c.stack.length then (false, { c with e := 25, stack := [] }) else
    match getP c.p id with
    | (.error e, p) => (false, { c with p := p, e := e, stack := [] })
    | (.ok n, p) => (true, { c with p := p, stack := ⟨n, 0⟩ :: c.stack })
def cDown (ch : Node → Int) : Nat → Cur → Option (Bool × Cur)
  | 0, _ => none
  | f + 1, c => match c.stack with
    | [] => none
    | ⟨.leaf l, _⟩ :: st => some (true, { c with stack := ⟨.leaf l, ch (.leaf l)⟩ :: st })
    | ⟨.twig ks, _⟩ :: st => match kidAt ks (ch (.twig ks)) with
      | none => none
      | some k => match cLoad { c with stack := ⟨.twig ks, ch (.twig ks)⟩ :: st } k.page with
        | (false, c) => some (false, c)
        | (true, c) => cDown ch f c
    | ⟨.over _, _⟩ :: _ => none
def bump (by_ : Int) : List Place → List Place
  | [] => []
  | ⟨n, a⟩ :: st => ⟨n, a + by_⟩ :: st
def toLast : List Place → List Place
  | [] => []
  | ⟨n, _⟩ :: st => ⟨n, (nlen n : Int) - 1⟩ :: st
def cHere (by_ : Int) : Nat → Cur → Option (Bool × Cur)
  | 0, _ => none
  | f + 1, c => match c.stack with
    | [] => some (false, c)
    | ⟨n, a⟩ :: st =>
      if a < 0 ∨ (nlen n : Int) ≤ a then cHere by_ f { c with stack := bump by_ st }
      else match n with
        | .leaf _ => some (true, c)
        | .twig ks => match kidAt ks a with
          | none => none
          | some k => match cLoad c k.page with
            | (false, c) => some (false, c)
            | (true, c) => cHere by_ f (if by_ < 0 then { c with stack := toLast c.stack } else c)
        | .over _ => none
def cStart (ch : Node → Int) (by_ : Int) (c : Cur) : Option (Bool × Cur) :=
  if c.e ≠ 0 then some (false, c) else
    if c.root = 0 then some (false, { c with stack := [] }) else
      match cLoad { c with stack := [] } c.root with
      | (false, c) => some (false, c)
      | (true, c) => match cDown ch 20 c with
        | none => none
        | some (false, c) => some (false, c)
        | some (true, c) => cHere by_ 40 c
def cMove (by_ : Int) (c : Cur) : Option (Bool × Cur) :=
  match c.stack with
  | [] => some (false, c)
  | _ :: _ => cHere by_ 40 { c with stack := bump by_ c.stack }
def chFirst : Node → Int := fun _ => 0
def chLast : Node → Int := fun n => (nlen n : Int) - 1
def chSeek (key : Bytes) : Node → Int
  | .leaf l => findAt l key
  | .twig l => findK l key
  | .over _ => 0
inductive Face (L : List Node) : Nat → Int → List Item → Node → List (List Item) → Prop
  | leaf (id : Int) (l : List Item) (h : nodeAt L id = some (.leaf l)) (ne : l ≠ []) (ok : okNode (.leaf l)) : Face L 0 id l (.leaf l) (l.map fun x => [x])
  | twig (n : Nat) (id : Int) (ts : List Sprout) (h : nodeAt L id = some (.twig (ts.map Sprout.kid))) (two : 2 ≤ ts.length) (ok : okNode (.twig (ts.map Sprout.kid)))
      (sub : ∀ t ∈ ts, Tree L n t.kid.page t.low t.items t.ids) (bd : Bounds ts) : Face L (n + 1) id (ts.flatMap Sprout.items) (.twig (ts.map Sprout.kid)) (ts.map Sprout.items)
theorem Tree.face {L : List Node} {n : Nat} {id : Int} {b : Bytes} {l : List Item} {ids : List Int} (h : Tree L n id b l ids) : ∃ node parts, Face L n id l node parts := by
  cases h with
  | leaf id l h ne ok => exact ⟨_, _, .leaf _ _ h ne ok⟩
  | twig n id ts h two ok sub bd nd => exact ⟨_, _, .twig n _ ts h two ok sub bd⟩
theorem flat_single {α : Type} (l : List α) : (l.map fun x => [x]).flatten = l := by
  induction l with
  | nil => rfl
  | cons a l ih => rw [List.map_cons, List.flatten_cons, ih]; rfl
theorem Face.node {L : List Node} {n : Nat} {id : Int} {l : List Item} {node : Node} {parts : List (List Item)} (h : Face L n id l node parts) : nodeAt L id = some node := by cases h <;> assumption
theorem Face.flat {L : List Node} {n : Nat} {id : Int} {l : List Item} {node : Node} {parts : List (List Item)} (h : Face L n id l node parts) : parts.flatten = l := by
  cases h with
  | leaf => exact flat_single l
  | twig => rfl
theorem Face.len {L : List Node} {n : Nat} {id : Int} {l : List Item} {node : Node} {parts : List (List Item)} (h : Face L n id l node parts) : nlen node = parts.length ∧ 1 ≤ parts.length := by
  cases h with
  | leaf _ _ _ ne _ => have := List.length_pos_iff.2 ne; exact ⟨by simp [nlen], by rw [List.length_map]; omega⟩
  | twig n _ ts h two => exact ⟨by simp [nlen], by rw [List.length_map]; omega⟩
theorem Face.twigOk {L : List Node} {n : Nat} {id : Int} {l : List Item} {ks : List Kid} {parts : List (List Item)} (h : Face L n id l (.twig ks) parts) : rightL ks = true := by
  cases h with
  | twig _ _ _ _ _ ok => exact ok.1
theorem Face.ne {L : List Node} {n : Nat} {id : Int} {l : List Item} {node : Node} {parts : List (List Item)} (h : Face L n id l node parts) : ∀ p ∈ parts, p ≠ [] := by
  cases h with
  | leaf => intro p hp; obtain ⟨x, _, rfl⟩ := List.mem_map.1 hp; simp
  | twig n _ ts h two ok sub => intro p hp; obtain ⟨t, ht, rfl⟩ := List.mem_map.1 hp; exact (sub t ht).ne
inductive Spine (L : List Node) (l : List Item) : List Place → Nat → Int → List Item → List Item → List Item → Prop
  | root (n : Nat) (id : Int) (b : Bytes) (ids : List Int) (h : Tree L n id b l ids) : Spine L l [] n id l [] []
  | step (st : List Place) (n : Nat) (id : Int) (A C : List Sprout) (t : Sprout) (pre post : List Item) (s : Spine L l st (n + 1) id ((A ++ t :: C).flatMap Sprout.items) pre post)
      (f : Face L (n + 1) id ((A ++ t :: C).flatMap Sprout.items) (.twig ((A ++ t :: C).map Sprout.kid)) ((A ++ t :: C).map Sprout.items)) (h : Tree L n t.kid.page t.low t.items t.ids) :
      Spine L l (⟨.twig ((A ++ t :: C).map Sprout.kid), A.length⟩ :: st) n t.kid.page t.items (pre ++ A.flatMap Sprout.items) (C.flatMap Sprout.items ++ post)
theorem Spine.whole {L : List Node} {l : List Item} {st : List Place} {n : Nat} {id : Int} {m pre post : List Item} (h : Spine L l st n id m pre post) : l = pre ++ m ++ post := by
  induction h with
  | root => simp
  | step st n id A C t pre post s f h ih => rw [ih]; simp
structure Stands (L : List Node) (l : List Item) (st : List Place) (k : Nat) : Prop where
  ex : ∃ (m : List Item) (a : Nat) (r : List Place) (id : Int) (pre post : List Item), st = ⟨.leaf m, a⟩ :: r ∧ Spine L l r 0 id m pre post ∧ Face L 0 id m (.leaf m) (m.map fun x => [x]) ∧ a < m.length ∧ k = pre.length + a ∧ r.length ≤ 11
structure Ends (L : List Node) (l : List Item) (c : Cur) (k : Option Nat) (r : Bool) (c' : Cur) : Prop where
  pages : c'.p = { c.p with stop := c'.p.stop }
  root : c'.root = c.root
  calm : c.p.stop < 0 → c'.p.stop = c.p.stop
  upset : 0 ≤ c.p.stop → 0 ≤ c'.p.stop
  how : (r = k.isSome ∧ c'.e = c.e ∧ (match k with | some k => Stands L l c'.stack k | none => c'.stack = [])) ∨ (0 ≤ c.p.stop ∧ r = false ∧ c'.stack = [] ∧ c'.e = 14)
theorem Ends.step {L : List Node} {l : List Item} {c c1 c' : Cur} {k : Option Nat} {r : Bool} (h : Ends L l c1 k r c') (hp : c1.p = { c.p with stop := c1.p.stop }) (hr : c1.root = c.root) (hc : c.p.stop < 0 → c1.p.stop = c.p.stop) (hu : 0 ≤ c.p.stop → 0 ≤ c1.p.stop) (he : c1.e = c.e) : Ends L l c k r c' := by
  refine ⟨by rw [h.pages, hp], h.root.trans hr, fun q => (h.calm (by rw [hc q]; exact q)).trans (hc q), fun q => h.upset (hu q), ?_⟩
  rcases h.how with ⟨h1, h2, h3⟩ | ⟨h1, h2, h3, h4⟩
  · exact .inl ⟨h1, h2.trans he, h3⟩
  · refine .inr ⟨?_, h2, h3, h4⟩
    apply Classical.byContradiction
    intro q
    have := hc (by omega)
    omega
theorem cLoad_is (L : List Node) (c : Cur) (id : Int) (n : Node) (hL : c.p.L = L) (hn : nodeAt L id = some n) (hl : c.stack.length ≤ 11) :
    (∃ p', cLoad c id = (true, { c with p := p', stack := ⟨n, 0⟩ :: c.stack }) ∧ p' = { c.p with stop := p'.stop } ∧ (c.p.stop < 0 → p'.stop = c.p.stop) ∧ (0 ≤ c.p.stop → 0 ≤ p'.stop)) ∨
    (0 ≤ c.p.stop ∧ cLoad c id = (false, { c with e := 14, stack := [] })) := by
  unfold cLoad getP
  rw [if_neg (by omega)]
  by_cases h0 : c.p.stop = 0
  · rw [if_pos h0]
    exact .inr ⟨by omega, rfl⟩
  · rw [if_neg h0, hL, hn]
    simp only
    by_cases h1 : 0 < c.p.stop
    · rw [if_pos h1]
      exact .inl ⟨_, rfl, by rw [← hL], fun q => by omega, fun q => by simp; omega⟩
    · rw [if_neg h1]
      exact .inl ⟨_, rfl, rfl, fun _ => rfl, fun q => by omega⟩
theorem drop_parts {α : Type} (parts : List (List α)) (a : Nat) (h : a < parts.length) : (parts.drop a).flatten = parts[a] ++ (parts.drop (a + 1)).flatten := by
  rw [List.drop_eq_getElem_cons h, List.flatten_cons]
theorem take_parts {α : Type} (parts : List (List α)) (a : Nat) (h : a < parts.length) : (parts.take (a + 1)).flatten = (parts.take a).flatten ++ parts[a] := by
  rw [List.take_succ_eq_append_getElem h, List.flatten_append]; simp
theorem split_at {α : Type} (ts : List α) (a : Nat) (h : a < ts.length) : ts = ts.take a ++ ts[a] :: ts.drop (a + 1) := by
  rw [← List.drop_eq_getElem_cons h, List.take_append_drop]
theorem here_down (L : List Node) (l : List Item) (h : Nat) : ∀ (f : Nat) (c : Cur) (st : List Place) (n : Node) (a : Nat) (id : Int) (m pre post : List Item) (parts : List (List Item)),
    c.stack = ⟨n, a⟩ :: st → Spine L l st h id m pre post → Face L h id m n parts → a < parts.length → c.p.L = L → st.length + h ≤ 11 → h < f →
    ∃ r c', cHere 1 f c = some (r, c') ∧ Ends L l c (some (pre.length + (parts.take a).flatten.length)) r c' := by
  induction h with
  | zero =>
    intro f c st n a id m pre post parts hc S F ha hL hh hf
    obtain ⟨f, rfl⟩ : ∃ g, f = g + 1 := ⟨f - 1, by omega⟩
    cases F with
    | leaf _ _ hn ne ok =>
      rw [List.length_map] at ha
      refine ⟨true, c, ?_, ⟨rfl, rfl, fun _ => rfl, fun q => q, .inl ⟨rfl, rfl, ⟨m, a, st, id, pre, post, hc, S, .leaf _ _ hn ne ok, ha, ?_, by omega⟩⟩⟩⟩
      · rw [cHere, hc]
        exact if_neg (by simp only [nlen]; omega)
      · rw [← List.map_take, flat_single, List.length_take]; omega
  | succ h ih =>
    intro f c st n a id m pre post parts hc S F ha hL hh hf
    obtain ⟨f, rfl⟩ : ∃ g, f = g + 1 := ⟨f - 1, by omega⟩
    have hF := F
    cases F with
    | twig _ _ ts hn two ok sub bd =>
      rw [List.length_map] at ha
      have hk : kidAt (ts.map Sprout.kid) (a : Int) = some ts[a].kid := by simp [kidAt, ha]
      have e : cHere 1 (f + 1) c = match cLoad c ts[a].kid.page with
          | (false, c) => some (false, c)
          | (true, c) => cHere 1 f c := by
        rw [cHere, hc]
        simp only [nlen, List.length_map]
        rw [if_neg (by omega), hk]
        rfl
      have hs := sub ts[a] (List.getElem_mem ha)
      have hn2 : ∃ node2 parts2, Face L h ts[a].kid.page ts[a].items node2 parts2 := hs.face
      obtain ⟨node2, parts2, F2⟩ := hn2
      have hsl : c.stack.length = st.length + 1 := by rw [hc]; rfl
      rcases cLoad_is L c ts[a].kid.page node2 hL F2.node (by omega) with ⟨p', g1, g2, g3, g4⟩ | ⟨g1, g2⟩
      · have hst : c.stack = ⟨.twig ((ts.take a ++ ts[a] :: ts.drop (a + 1)).map Sprout.kid), (ts.take a).length⟩ :: st := by
          rw [← split_at ts a ha, hc, List.length_take, Nat.min_eq_left (by omega)]
        have S2 : Spine L l c.stack h ts[a].kid.page ts[a].items (pre ++ (ts.take a).flatMap Sprout.items) ((ts.drop (a + 1)).flatMap Sprout.items ++ post) := by
          rw [hst]
          exact .step st h id _ _ ts[a] pre post (by rw [← split_at ts a ha]; exact S) (by rw [← split_at ts a ha]; exact hF) hs
        obtain ⟨r, c', i1, i2⟩ := ih f { c with p := p', stack := ⟨node2, 0⟩ :: c.stack } c.stack node2 0 ts[a].kid.page ts[a].items _ _ parts2 rfl S2 F2 (by have := F2.len.2; omega) (by rw [g2]; exact hL) (by omega) (by omega)
        refine ⟨r, c', by rw [e, g1]; exact i1, ?_⟩
        have hk2 : (pre ++ (ts.take a).flatMap Sprout.items).length + (parts2.take 0).flatten.length = pre.length + ((ts.map Sprout.items).take a).flatten.length := by
          rw [← List.map_take, List.flatMap_def]; simp
        rw [hk2] at i2
        exact i2.step g2 rfl g3 g4 rfl
      · refine ⟨false, { c with e := 14, stack := [] }, by rw [e, g2], ⟨rfl, rfl, fun _ => rfl, fun q => q, .inr ⟨g1, rfl, rfl, rfl⟩⟩⟩
theorem here_on (L : List Node) (l : List Item) (st : List Place) : ∀ (h : Nat) (f : Nat) (c : Cur) (n : Node) (a : Nat) (id : Int) (m pre post : List Item) (parts : List (List Item)),
    c.stack = ⟨n, a⟩ :: st → Spine L l st h id m pre post → Face L h id m n parts → a ≤ parts.length → c.p.L = L → st.length + h ≤ 11 → 2 * st.length + h + 2 < f →
    ∃ r c', cHere 1 f c = some (r, c') ∧ Ends L l c (if pre.length + (parts.take a).flatten.length < l.length then some (pre.length + (parts.take a).flatten.length) else none) r c' := by
  induction st with
  | nil =>
    intro h f c n a id m pre post parts hc S F ha hL hh hf
    by_cases hlt : a < parts.length
    · obtain ⟨r, c', i1, i2⟩ := here_down L l h f c [] n a id m pre post parts hc S F hlt hL hh (by omega)
      refine ⟨r, c', i1, ?_⟩
      have hw := congrArg List.length S.whole
      have hfl := congrArg List.length F.flat
      have h1 := List.length_pos_iff.2 (F.ne _ (List.getElem_mem hlt))
      have h2 := congrArg List.length (drop_parts parts a hlt)
      have h3 : parts.flatten.length = (parts.take a).flatten.length + (parts.drop a).flatten.length := by rw [← List.length_append, ← List.flatten_append, List.take_append_drop]
      simp only [List.length_append] at hw h2
      rw [if_pos (by omega)]
      exact i2
    · obtain rfl : a = parts.length := by omega
      obtain ⟨f, rfl⟩ : ∃ g, f = g + 2 := ⟨f - 2, by omega⟩
      have hnl := F.len.1
      have hfl := F.flat
      cases S with
      | root _ _ b ids hT =>
        rw [List.take_length, hfl]
        rw [if_neg (by simp)]
        refine ⟨false, { c with stack := [] }, ?_, ⟨rfl, rfl, fun _ => rfl, fun q => q, .inl ⟨rfl, rfl, rfl⟩⟩⟩
        rw [cHere, hc]
        simp only
        rw [if_pos (by omega)]
        rfl
  | cons q st ih =>
    intro h f c n a id m pre post parts hc S F ha hL hh hf
    by_cases hlt : a < parts.length
    · obtain ⟨r, c', i1, i2⟩ := here_down L l h f c (q :: st) n a id m pre post parts hc S F hlt hL hh (by omega)
      refine ⟨r, c', i1, ?_⟩
      have hw := congrArg List.length S.whole
      have hfl := congrArg List.length F.flat
      have h1 := List.length_pos_iff.2 (F.ne _ (List.getElem_mem hlt))
      have h2 := congrArg List.length (drop_parts parts a hlt)
      have h3 : parts.flatten.length = (parts.take a).flatten.length + (parts.drop a).flatten.length := by rw [← List.length_append, ← List.flatten_append, List.take_append_drop]
      simp only [List.length_append] at hw h2
      rw [if_pos (by omega)]
      exact i2
    · obtain rfl : a = parts.length := by omega
      obtain ⟨f, rfl⟩ : ∃ g, f = g + 1 := ⟨f - 1, by omega⟩
      have hnl := F.len.1
      have hfl := F.flat
      rw [List.length_cons] at hh hf
      cases S with
      | step _ _ id2 A C t pre2 post2 S2 F2 hT =>
        have hal : A.length + 1 ≤ ((A ++ t :: C).map Sprout.items).length := by rw [List.length_map, List.length_append, List.length_cons]; omega
        obtain ⟨r, c', i1, i2⟩ := ih (h + 1) f { c with stack := ⟨.twig ((A ++ t :: C).map Sprout.kid), ((A.length + 1 : Nat) : Int)⟩ :: st } _ (A.length + 1) id2 _ pre2 post2 _ rfl S2 F2 hal hL (by omega) (by omega)
        refine ⟨r, c', ?_, ?_⟩
        · rw [cHere, hc]
          simp only
          rw [if_pos (by omega)]
          exact i1
        · have e : pre2.length + (((A ++ t :: C).map Sprout.items).take (A.length + 1)).flatten.length = (pre2 ++ A.flatMap Sprout.items).length + (parts.take parts.length).flatten.length := by
            rw [List.take_length, hfl, ← List.map_take]
            have : (A ++ t :: C).take (A.length + 1) = A ++ [t] := by
              have := List.take_left (l₁ := A ++ [t]) (l₂ := C)
              simpa using this
            rw [this]
            simp [List.flatMap_def]
            omega
          rw [e] at i2
          exact i2.step rfl rfl (fun _ => rfl) (fun q => q) rfl
theorem back_down (L : List Node) (l : List Item) (h : Nat) : ∀ (f : Nat) (c : Cur) (st : List Place) (n : Node) (a : Nat) (id : Int) (m pre post : List Item) (parts : List (List Item)),
    c.stack = ⟨n, a⟩ :: st → Spine L l st h id m pre post → Face L h id m n parts → a < parts.length → c.p.L = L → st.length + h ≤ 11 → h < f →
    ∃ r c', cHere (-1) f c = some (r, c') ∧ Ends L l c (some (pre.length + (parts.take (a + 1)).flatten.length - 1)) r c' := by
  induction h with
  | zero =>
    intro f c st n a id m pre post parts hc S F ha hL hh hf
    obtain ⟨f, rfl⟩ : ∃ g, f = g + 1 := ⟨f - 1, by omega⟩
    cases F with
    | leaf _ _ hn ne ok =>
      rw [List.length_map] at ha
      refine ⟨true, c, ?_, ⟨rfl, rfl, fun _ => rfl, fun q => q, .inl ⟨rfl, rfl, ⟨m, a, st, id, pre, post, hc, S, .leaf _ _ hn ne ok, ha, ?_, by omega⟩⟩⟩⟩
      · rw [cHere, hc]
        exact if_neg (by simp only [nlen]; omega)
      · rw [← List.map_take, flat_single, List.length_take]; omega
  | succ h ih =>
    intro f c st n a id m pre post parts hc S F ha hL hh hf
    obtain ⟨f, rfl⟩ : ∃ g, f = g + 1 := ⟨f - 1, by omega⟩
    have hF := F
    cases F with
    | twig _ _ ts hn two ok sub bd =>
      rw [List.length_map] at ha
      have hk : kidAt (ts.map Sprout.kid) (a : Int) = some ts[a].kid := by simp [kidAt, ha]
      have e : cHere (-1) (f + 1) c = match cLoad c ts[a].kid.page with
          | (false, c) => some (false, c)
          | (true, c) => cHere (-1) f { c with stack := toLast c.stack } := by
        rw [cHere, hc]
        simp only [nlen, List.length_map]
        rw [if_neg (by omega), hk]
        rfl
      have hs := sub ts[a] (List.getElem_mem ha)
      obtain ⟨node2, parts2, F2⟩ := hs.face
      have hsl : c.stack.length = st.length + 1 := by rw [hc]; rfl
      rcases cLoad_is L c ts[a].kid.page node2 hL F2.node (by omega) with ⟨p', g1, g2, g3, g4⟩ | ⟨g1, g2⟩
      · have hst : c.stack = ⟨.twig ((ts.take a ++ ts[a] :: ts.drop (a + 1)).map Sprout.kid), (ts.take a).length⟩ :: st := by
          rw [← split_at ts a ha, hc, List.length_take, Nat.min_eq_left (by omega)]
        have S2 : Spine L l c.stack h ts[a].kid.page ts[a].items (pre ++ (ts.take a).flatMap Sprout.items) ((ts.drop (a + 1)).flatMap Sprout.items ++ post) := by
          rw [hst]
          exact .step st h id _ _ ts[a] pre post (by rw [← split_at ts a ha]; exact S) (by rw [← split_at ts a ha]; exact hF) hs
        have hl2 := F2.len
        obtain ⟨r, c', i1, i2⟩ := ih f { c with p := p', stack := ⟨node2, ((parts2.length - 1 : Nat) : Int)⟩ :: c.stack } c.stack node2 (parts2.length - 1) ts[a].kid.page ts[a].items _ _ parts2 rfl S2 F2 (by omega) (by rw [g2]; exact hL) (by omega) (by omega)
        have hlast : toLast (⟨node2, 0⟩ :: c.stack) = ⟨node2, ((parts2.length - 1 : Nat) : Int)⟩ :: c.stack := by
          simp only [toLast, hl2.1]
          congr 2
          omega
        refine ⟨r, c', by rw [e, g1]; simp only; rw [hlast]; exact i1, ?_⟩
        have hk2 : (pre ++ (ts.take a).flatMap Sprout.items).length + (parts2.take (parts2.length - 1 + 1)).flatten.length = pre.length + ((ts.map Sprout.items).take (a + 1)).flatten.length := by
          have e3 : ((ts.map Sprout.items).take (a + 1)).flatten = (ts.take a).flatMap Sprout.items ++ ts[a].items := by
            rw [← List.map_take, List.take_succ_eq_append_getElem ha, List.map_append, List.flatten_append, ← List.flatMap_def]
            simp
          rw [show parts2.length - 1 + 1 = parts2.length by omega, List.take_length, F2.flat, e3, List.length_append, List.length_append]
          omega
        rw [hk2] at i2
        exact i2.step g2 rfl g3 g4 rfl
      · refine ⟨false, { c with e := 14, stack := [] }, by rw [e, g2], ⟨rfl, rfl, fun _ => rfl, fun q => q, .inr ⟨g1, rfl, rfl, rfl⟩⟩⟩
theorem back_on (L : List Node) (l : List Item) (st : List Place) : ∀ (h : Nat) (f : Nat) (c : Cur) (n : Node) (a : Nat) (id : Int) (m pre post : List Item) (parts : List (List Item)),
    c.stack = ⟨n, (a : Int) - 1⟩ :: st → Spine L l st h id m pre post → Face L h id m n parts → a ≤ parts.length → c.p.L = L → st.length + h ≤ 11 → 2 * st.length + h + 2 < f →
    ∃ r c', cHere (-1) f c = some (r, c') ∧ Ends L l c (if 0 < pre.length + (parts.take a).flatten.length then some (pre.length + (parts.take a).flatten.length - 1) else none) r c' := by
  have fin : ∀ (h : Nat) (f : Nat) (c : Cur) (st : List Place) (n : Node) (a : Nat) (id : Int) (m pre post : List Item) (parts : List (List Item)),
      c.stack = ⟨n, ((a + 1 : Nat) : Int) - 1⟩ :: st → Spine L l st h id m pre post → Face L h id m n parts → a + 1 ≤ parts.length → c.p.L = L → st.length + h ≤ 11 → 2 * st.length + h + 2 < f →
      ∃ r c', cHere (-1) f c = some (r, c') ∧ Ends L l c (if 0 < pre.length + (parts.take (a + 1)).flatten.length then some (pre.length + (parts.take (a + 1)).flatten.length - 1) else none) r c' := by
    intro h f c st n a id m pre post parts hc S F ha hL hh hf
    have ea : ((a + 1 : Nat) : Int) - 1 = (a : Int) := by omega
    rw [ea] at hc
    obtain ⟨r, c', i1, i2⟩ := back_down L l h f c st n a id m pre post parts hc S F (by omega) hL hh (by omega)
    have h1 := List.length_pos_iff.2 (F.ne _ (List.getElem_mem (show a < parts.length by omega)))
    have h2 := congrArg List.length (take_parts parts a (by omega))
    rw [List.length_append] at h2
    exact ⟨r, c', i1, by rw [if_pos (by omega)]; exact i2⟩
  induction st with
  | nil =>
    intro h f c n a id m pre post parts hc S F ha hL hh hf
    cases a with
    | succ a => exact fin h f c [] n a id m pre post parts hc S F ha hL hh hf
    | zero =>
      obtain ⟨f, rfl⟩ : ∃ g, f = g + 2 := ⟨f - 2, by omega⟩
      cases S with
      | root _ _ b ids hT =>
        rw [if_neg (by simp)]
        refine ⟨false, { c with stack := [] }, ?_, ⟨rfl, rfl, fun _ => rfl, fun q => q, .inl ⟨rfl, rfl, rfl⟩⟩⟩
        rw [cHere, hc]
        simp only
        rw [if_pos (by omega)]
        rfl
  | cons q st ih =>
    intro h f c n a id m pre post parts hc S F ha hL hh hf
    cases a with
    | succ a => exact fin h f c (q :: st) n a id m pre post parts hc S F ha hL hh hf
    | zero =>
      obtain ⟨f, rfl⟩ : ∃ g, f = g + 1 := ⟨f - 1, by omega⟩
      rw [List.length_cons] at hh hf
      cases S with
      | step _ _ id2 A C t pre2 post2 S2 F2 hT =>
        obtain ⟨r, c', i1, i2⟩ := ih (h + 1) f { c with stack := ⟨.twig ((A ++ t :: C).map Sprout.kid), (A.length : Int) - 1⟩ :: st } _ A.length id2 _ pre2 post2 _ rfl S2 F2 (by rw [List.length_map, List.length_append]; omega) hL (by omega) (by omega)
        refine ⟨r, c', ?_, ?_⟩
        · rw [cHere, hc]
          simp only
          rw [if_pos (by omega)]
          exact i1
        · have e : pre2.length + (((A ++ t :: C).map Sprout.items).take A.length).flatten.length = (pre2 ++ A.flatMap Sprout.items).length + (parts.take 0).flatten.length := by
            rw [← List.map_take, List.take_left]
            simp [List.flatMap_def]
          rw [e] at i2
          exact i2.step rfl rfl (fun _ => rfl) (fun q => q) rfl
theorem down_is (L : List Node) (l : List Item) (ch : Node → Int) (Φ : List Item → List Item → Prop)
    (hch : ∀ (n : Nat) (id : Int) (m : List Item) (ts : List Sprout) (pre post : List Item), Face L (n + 1) id m (.twig (ts.map Sprout.kid)) (ts.map Sprout.items) → (∀ t ∈ ts, Tree L n t.kid.page t.low t.items t.ids) → Bounds ts → Φ pre post →
      ∃ a : Nat, ch (.twig (ts.map Sprout.kid)) = a ∧ a < ts.length ∧ Φ (pre ++ (ts.take a).flatMap Sprout.items) ((ts.drop (a + 1)).flatMap Sprout.items ++ post)) (h : Nat) :
    ∀ (f : Nat) (c : Cur) (st : List Place) (n : Node) (a : Int) (id : Int) (m pre post : List Item) (parts : List (List Item)),
    c.stack = ⟨n, a⟩ :: st → Spine L l st h id m pre post → Face L h id m n parts → Φ pre post → c.p.L = L → st.length + h ≤ 11 → h < f →
    ∃ r c', cDown ch f c = some (r, c') ∧ c'.p = { c.p with stop := c'.p.stop } ∧ c'.root = c.root ∧ (c.p.stop < 0 → c'.p.stop = c.p.stop) ∧ (0 ≤ c.p.stop → 0 ≤ c'.p.stop) ∧
      ((r = true ∧ c'.e = c.e ∧ ∃ (m : List Item) (st : List Place) (id : Int) (pre post : List Item), c'.stack = ⟨.leaf m, ch (.leaf m)⟩ :: st ∧ Spine L l st 0 id m pre post ∧ Face L 0 id m (.leaf m) (m.map fun x => [x]) ∧ Φ pre post ∧ st.length ≤ 11) ∨
        (0 ≤ c.p.stop ∧ r = false ∧ c'.stack = [] ∧ c'.e = 14)) := by
  induction h with
  | zero =>
    intro f c st n a id m pre post parts hc S F hΦ hL hh hf
    obtain ⟨f, rfl⟩ : ∃ g, f = g + 1 := ⟨f - 1, by omega⟩
    cases F with
    | leaf _ _ hn ne ok =>
      refine ⟨true, { c with stack := ⟨.leaf m, ch (.leaf m)⟩ :: st }, ?_, rfl, rfl, fun _ => rfl, fun q => q, .inl ⟨rfl, rfl, m, st, id, pre, post, rfl, S, .leaf _ _ hn ne ok, hΦ, by omega⟩⟩
      rw [cDown, hc]
  | succ h ih =>
    intro f c st n a id m pre post parts hc S F hΦ hL hh hf
    obtain ⟨f, rfl⟩ : ∃ g, f = g + 1 := ⟨f - 1, by omega⟩
    have hF := F
    cases F with
    | twig _ _ ts hn two ok sub bd =>
      obtain ⟨a, e1, ha, hΦ2⟩ := hch h id _ ts pre post hF sub bd hΦ
      have hk : kidAt (ts.map Sprout.kid) (a : Int) = some ts[a].kid := by simp [kidAt, ha]
      have e : cDown ch (f + 1) c = match cLoad { c with stack := ⟨.twig (ts.map Sprout.kid), (a : Int)⟩ :: st } ts[a].kid.page with
          | (false, c) => some (false, c)
          | (true, c) => cDown ch f c := by
        rw [cDown, hc]
        simp only
        rw [e1, hk]
      have hs := sub ts[a] (List.getElem_mem ha)
      obtain ⟨node2, parts2, F2⟩ := hs.face
      have hsl : c.stack.length = st.length + 1 := by rw [hc]; rfl
      rcases cLoad_is L { c with stack := ⟨.twig (ts.map Sprout.kid), (a : Int)⟩ :: st } ts[a].kid.page node2 hL F2.node (by simp only [List.length_cons]; omega) with ⟨p', g1, g2, g3, g4⟩ | ⟨g1, g2⟩
      · have hst : (⟨.twig (ts.map Sprout.kid), (a : Int)⟩ :: st : List Place) = ⟨.twig ((ts.take a ++ ts[a] :: ts.drop (a + 1)).map Sprout.kid), (ts.take a).length⟩ :: st := by
          rw [← split_at ts a ha, List.length_take, Nat.min_eq_left (by omega)]
        have S2 : Spine L l (⟨.twig (ts.map Sprout.kid), (a : Int)⟩ :: st) h ts[a].kid.page ts[a].items (pre ++ (ts.take a).flatMap Sprout.items) ((ts.drop (a + 1)).flatMap Sprout.items ++ post) := by
          rw [hst]
          exact .step st h id _ _ ts[a] pre post (by rw [← split_at ts a ha]; exact S) (by rw [← split_at ts a ha]; exact hF) hs
        obtain ⟨r, c', i1, i2, i3, i4, i5, i6⟩ := ih f { c with p := p', stack := ⟨node2, 0⟩ :: ⟨.twig (ts.map Sprout.kid), (a : Int)⟩ :: st } (⟨.twig (ts.map Sprout.kid), (a : Int)⟩ :: st) node2 0 ts[a].kid.page ts[a].items _ _ parts2 rfl S2 F2 hΦ2 (by rw [g2]; exact hL) (by simp only [List.length_cons]; omega) (by omega)
        simp only at g2 g3 g4 i2 i3 i4 i5 i6
        refine ⟨r, c', by rw [e, g1]; exact i1, ?_, i3, fun q => ?_, fun q => i5 (g4 q), i6.imp_right fun q => ⟨?_, q.2⟩⟩
        · rw [i2, g2]
        · rw [i4 (by rw [g3 q]; exact q), g3 q]
        · apply Classical.byContradiction
          intro q2
          have := g3 (by omega)
          omega
      · exact ⟨false, { c with e := 14, stack := [] }, by rw [e, g2], rfl, rfl, fun _ => rfl, fun q => q, .inr ⟨g1, rfl, rfl, rfl⟩⟩
theorem start_is (L : List Node) (l : List Item) (root : Int) (ids : List Int) (R : Rooted L root l ids) (hl : l.length < 2 ^ 11) (ch : Node → Int) (by_ : Int) (k : Option Nat) (hk0 : l = [] → k = none) (Φ : List Item → List Item → Prop) (h0 : Φ [] [])
    (hch : ∀ (n : Nat) (id : Int) (m : List Item) (ts : List Sprout) (pre post : List Item), Face L (n + 1) id m (.twig (ts.map Sprout.kid)) (ts.map Sprout.items) → (∀ t ∈ ts, Tree L n t.kid.page t.low t.items t.ids) → Bounds ts → Φ pre post →
      ∃ a : Nat, ch (.twig (ts.map Sprout.kid)) = a ∧ a < ts.length ∧ Φ (pre ++ (ts.take a).flatMap Sprout.items) ((ts.drop (a + 1)).flatMap Sprout.items ++ post))
    (hleaf : ∀ (c : Cur) (m : List Item) (st : List Place) (id : Int) (pre post : List Item), c.p.L = L → c.stack = ⟨.leaf m, ch (.leaf m)⟩ :: st → Spine L l st 0 id m pre post → Face L 0 id m (.leaf m) (m.map fun x => [x]) → Φ pre post → st.length ≤ 11 →
      ∃ r c', cHere by_ 40 c = some (r, c') ∧ Ends L l c k r c')
    (c : Cur) (hL : c.p.L = L) (hr : c.root = root) (he : c.e = 0) : ∃ r c', cStart ch by_ c = some (r, c') ∧ Ends L l c k r c' := by
  unfold cStart
  rw [if_neg (by omega)]
  cases R with
  | none =>
    rw [if_pos hr]
    rw [hk0 rfl]
    exact ⟨false, _, rfl, ⟨rfl, rfl, fun _ => rfl, fun q => q, .inl ⟨rfl, rfl, rfl⟩⟩⟩
  | some n _ b _ _ h =>
    have hself := h.there _ h.self
    have hmany := h.many
    have hn : n < 11 := by
      apply Classical.byContradiction
      intro q
      have := Nat.pow_le_pow_right (n := 2) (by omega) (Nat.le_of_not_lt q)
      omega
    rw [if_neg (by omega), hr]
    obtain ⟨node, parts, F⟩ := h.face
    rcases cLoad_is L { c with stack := [] } root node hL F.node (by simp) with ⟨p', g1, g2, g3, g4⟩ | ⟨g1, g2⟩
    · rw [hr] at g1
      simp only at g1 g2 g3 g4
      rw [g1]
      simp only
      obtain ⟨r, c', i1, i2, i3, i4, i5, i6⟩ := down_is L l ch Φ hch n 20 { c with p := p', root := root, stack := [⟨node, 0⟩] } [] node 0 root l [] [] parts rfl (.root n root b ids h) F h0 (by rw [g2]; exact hL) (by simp; omega) (by omega)
      simp only at i2 i3 i4 i5 i6
      rw [i1]
      rcases i6 with ⟨rfl, j2, m, st, id, pre, post, j3, j4, j5, j6, j7⟩ | ⟨j1, rfl, j3, j4⟩
      · simp only
        obtain ⟨r, c2, k1, k2⟩ := hleaf c' m st id pre post (by rw [i2, g2]; exact hL) j3 j4 j5 j6 j7
        refine ⟨r, c2, k1, k2.step (by rw [i2, g2]) (i3.trans hr.symm) (fun q => ?_) (fun q => i5 (g4 q)) j2⟩
        rw [i4 (by rw [g3 q]; exact q), g3 q]
      · refine ⟨false, c', rfl, ⟨by rw [i2, g2], i3.trans hr.symm, fun q => ?_, fun q => i5 (g4 q), .inr ⟨?_, rfl, j3, j4⟩⟩⟩
        · rw [i4 (by rw [g3 q]; exact q), g3 q]
        · apply Classical.byContradiction
          intro q2
          have := g3 (by omega)
          omega
    · rw [hr] at g2
      rw [g2]
      exact ⟨false, { c with e := 14, stack := [] }, by simp [hr], ⟨rfl, rfl, fun _ => rfl, fun q => q, .inr ⟨g1, rfl, rfl, rfl⟩⟩⟩
section
variable (L : List Node) (l : List Item) (root : Int) (ids : List Int) (R : Rooted L root l ids) (hl : l.length < 2 ^ 11) (c : Cur) (hL : c.p.L = L) (hr : c.root = root) (he : c.e = 0)
include R hl hL hr he
theorem first_is : ∃ r c', cStart chFirst 1 c = some (r, c') ∧ Ends L l c (if 0 < l.length then some 0 else none) r c' := by
  refine start_is L l root ids R hl chFirst 1 _ (fun q => by rw [q]; rfl) (fun pre post => pre = []) rfl ?_ ?_ c hL hr he
  · rintro n id m ts pre post F sub bd rfl
    have := F.len.2
    rw [List.length_map] at this
    exact ⟨0, rfl, by omega, by simp⟩
  · rintro c m st id pre post hL hs S F rfl h11
    have := here_on L l st 0 40 c (.leaf m) 0 id m [] post _ hs S F (by omega) hL (by omega) (by omega)
    have e : ([] : List Item).length + ((m.map fun x => [x]).take 0).flatten.length = 0 := by simp
    rw [e] at this
    exact this
theorem last_is : ∃ r c', cStart chLast (-1) c = some (r, c') ∧ Ends L l c (if 0 < l.length then some (l.length - 1) else none) r c' := by
  refine start_is L l root ids R hl chLast (-1) _ (fun q => by rw [q]; rfl) (fun pre post => post = []) rfl ?_ ?_ c hL hr he
  · rintro n id m ts pre post F sub bd rfl
    have h2 := F.len
    rw [List.length_map] at h2
    refine ⟨ts.length - 1, by rw [chLast, h2.1]; omega, by omega, ?_⟩
    rw [show ts.length - 1 + 1 = ts.length by omega, List.drop_length]
    simp
  · rintro c m st id pre post hL hs S F rfl h11
    have := back_on L l st 0 40 c (.leaf m) m.length id m pre [] _ hs S F (by simp) hL (by omega) (by omega)
    have hw := S.whole
    rw [List.append_nil] at hw
    rw [← List.map_take, List.take_length, flat_single, ← List.length_append, ← hw] at this
    exact this
theorem seek_is (key : Bytes) : ∃ r c', cStart (chSeek key) 1 c = some (r, c') ∧ Ends L l c (if findAt l key < l.length then some (findAt l key) else none) r c' := by
  have hcount : ∀ a b : List Item, (∀ x ∈ a, x.key < key) → (∀ x ∈ b, ¬ x.key < key) → findAt (a ++ b) key = a.length := fun a b ha hb => by
    unfold findAt ahead
    rw [takeWhile_none (fun x : Item => decide (Keyed.key x < key)) _ _ (fun x hx => decide_eq_false (hb x hx))]
    have := takeWhile_all (fun x : Item => decide (Keyed.key x < key)) a [] (fun x hx => decide_eq_true (ha x hx))
    simp only [List.append_nil] at this
    rw [this]
    simp
  refine start_is L l root ids R hl (chSeek key) 1 _ (fun q => by rw [q]; rfl) (fun pre post => (∀ x ∈ pre, x.key < key) ∧ ∀ x ∈ post, ¬ x.key < key) (by simp) ?_ ?_ c hL hr he
  · rintro n id m ts pre post F sub bd ⟨hp, hq⟩
    have hok : rightL (ts.map Sprout.kid) = true := F.twigOk
    have h2 := F.len.2
    rw [List.length_map] at h2
    obtain ⟨A', x, C', e1, e2, e3, e4⟩ := findK_is ((rightL_iff _).1 hok).2 (by intro q; rw [List.map_eq_nil_iff] at q; subst q; simp at h2) key
    obtain ⟨A, r, rfl, rfl, er⟩ := List.map_eq_append_iff.1 e1
    obtain ⟨t, C, rfl, rfl, rfl⟩ := List.map_eq_cons_iff.1 er
    refine ⟨A.length, by rw [chSeek, e2, List.length_map], by rw [List.length_append, List.length_cons]; omega, fun x hx => ?_, fun x hx => ?_⟩
    · rcases List.mem_append.1 hx with hx | hx
      · exact hp x hx
      · rw [List.take_left] at hx
        obtain ⟨s, hs, hx⟩ := List.mem_flatMap.1 hx
        have hb := bd.hi
        rw [List.pairwise_append] at hb
        have h1 := hb.2.2 s hs t (by simp) x hx
        rcases e4 with q | q
        · rw [List.map_eq_nil_iff] at q; subst q; cases hs
        · exact lt_of_lt_not h1 q
    · rcases List.mem_append.1 hx with hx | hx
      · have hd : (A ++ t :: C).drop (A.length + 1) = C := by
          simp
        rw [hd] at hx
        obtain ⟨s, hs, hx⟩ := List.mem_flatMap.1 hx
        have h1 := not_lt_trans (bd.lo s (by simp [hs])) ((sub s (by simp [hs])).low_le x hx)
        exact List.lt_asymm (lt_of_lt_not (e3 _ (List.mem_map_of_mem hs)) h1)
      · exact hq x hx
  · rintro c m st id pre post hL hs S F ⟨hp, hq⟩ h11
    have hfl := findAt_le m key
    have := here_on L l st 0 40 c (.leaf m) (findAt m key) id m pre post _ hs S F (by rw [List.length_map]; exact hfl) hL (by omega) (by omega)
    have hok : rightL m = true := by cases F with | leaf _ _ _ _ ok => exact ok.1
    have hw := S.whole
    have e : pre.length + ((m.map fun x => [x]).take (findAt m key)).flatten.length = findAt l key := by
      rw [← List.map_take, flat_single, take_find, hw]
      have h1 := hcount (pre ++ ahead m key) (behind m key ++ post) (fun x hx => by
        rcases List.mem_append.1 hx with hx | hx
        · exact hp x hx
        · exact ahead_lt m key x hx) (fun x hx => by
        rcases List.mem_append.1 hx with hx | hx
        · exact behind_ge ((rightL_iff _).1 hok).2 key x hx
        · exact hq x hx)
      have e2 : pre ++ ahead m key ++ (behind m key ++ post) = pre ++ m ++ post := by
        conv => rhs; rw [← ahead_behind m key]
        simp
      rw [e2] at h1
      rw [h1, List.length_append]
    rw [e] at this
    exact this
end
theorem next_is (L : List Node) (l : List Item) (c : Cur) (hL : c.p.L = L) (k : Nat) (h : Stands L l c.stack k) : ∃ r c', cMove 1 c = some (r, c') ∧ Ends L l c (if k + 1 < l.length then some (k + 1) else none) r c' := by
  obtain ⟨m, a, st, id, pre, post, hs, S, F, ha, rfl, h11⟩ := h.ex
  obtain ⟨r, c', i1, i2⟩ := here_on L l st 0 40 { c with stack := ⟨.leaf m, ((a + 1 : Nat) : Int)⟩ :: st } (.leaf m) (a + 1) id m pre post _ rfl S F (by rw [List.length_map]; omega) hL (by omega) (by omega)
  refine ⟨r, c', ?_, ?_⟩
  · unfold cMove
    rw [hs]
    exact i1
  · rw [← List.map_take, flat_single, List.length_take, Nat.min_eq_left (by omega)] at i2
    exact i2.step rfl rfl (fun _ => rfl) (fun q => q) rfl
theorem prev_is (L : List Node) (l : List Item) (c : Cur) (hL : c.p.L = L) (k : Nat) (h : Stands L l c.stack k) : ∃ r c', cMove (-1) c = some (r, c') ∧ Ends L l c (if 0 < k then some (k - 1) else none) r c' := by
  obtain ⟨m, a, st, id, pre, post, hs, S, F, ha, rfl, h11⟩ := h.ex
  obtain ⟨r, c', i1, i2⟩ := back_on L l st 0 40 { c with stack := ⟨.leaf m, (a : Int) - 1⟩ :: st } (.leaf m) a id m pre post _ rfl S F (by simp; omega) hL (by omega) (by omega)
  refine ⟨r, c', ?_, ?_⟩
  · unfold cMove
    rw [hs]
    exact i1
  · rw [← List.map_take, flat_single, List.length_take, Nat.min_eq_left (by omega)] at i2
    exact i2.step rfl rfl (fun _ => rfl) (fun q => q) rfl
theorem stands_item {L : List Node} {l : List Item} {st : List Place} {k : Nat} (h : Stands L l st k) : ∃ (m : List Item) (a : Nat) (r : List Place) (x : Item), st = ⟨.leaf m, a⟩ :: r ∧ m[a]? = some x ∧ l[k]? = some x ∧ a < m.length := by
  obtain ⟨m, a, r, id, pre, post, hs, S, F, ha, rfl, h11⟩ := h.ex
  refine ⟨m, a, r, m[a], hs, List.getElem?_eq_getElem ha, ?_, ha⟩
  rw [S.whole, List.append_assoc, List.getElem?_append_right (by omega), Nat.add_sub_cancel_left, List.getElem?_append_left ha, List.getElem?_eq_getElem ha]
end
section
open Go.RowKit
/-! ### Items are put one behind the other -/
theorem putL_length (l : List Item) (i : Item) : (putL l i).length ≤ l.length + 1 := by
  have e := congrArg List.length (ahead_behind l i.key)
  unfold putL
  rw [List.length_append] at e ⊢
  rw [List.length_cons]
  cases hb : behind l i.key with
  | nil => rw [hb] at e; simp at e ⊢; omega
  | cons x r =>
    rw [hb] at e
    simp only [List.length_cons] at e ⊢
    split
    · omega
    · simp only [List.length_cons]; omega
def madeL (l : List Item) : List Item := l.foldl (fun out i => if okItem i = true then putL out i else out) []
theorem madeL_next {l : List Item} {k : Nat} {i : Item} (h : l[k]? = some i) : madeL (l.take (k + 1)) = if okItem i = true then putL (madeL (l.take k)) i else madeL (l.take k) := by
  unfold madeL
  rw [List.take_add_one, h, List.foldl_append]
  rfl
theorem madeL_length (l : List Item) : (madeL l).length ≤ l.length := by
  have : ∀ k, k ≤ l.length → (madeL (l.take k)).length ≤ k := by
    intro k
    induction k with
    | zero => intro _; simp [madeL]
    | succ k ih =>
      intro hk
      rw [madeL_next (List.getElem?_eq_getElem (by omega : k < l.length))]
      have := ih (by omega)
      split
      · have := putL_length (madeL (l.take k)) l[k]; omega
      · omega
  have h := this l.length (Nat.le_refl _)
  rwa [List.take_length] at h
theorem madeL_right (l : List Item) : rightL (madeL l) = true := by
  have : ∀ k, k ≤ l.length → rightL (madeL (l.take k)) = true := by
    intro k
    induction k with
    | zero => intro _; exact rightL_nil
    | succ k ih =>
      intro hk
      rw [madeL_next (List.getElem?_eq_getElem (by omega : k < l.length))]
      split
      · rename_i h; exact putL_right (ih (by omega)) h
      · exact ih (by omega)
  have h := this l.length (Nat.le_refl _)
  rwa [List.take_length] at h
structure MadeTo (p : PSt) (root : Int) (l : List Item) (k : Nat) : Prop where
  rooted : ∃ ids, Rooted p.L root (madeL (l.take k)) ids
  few : p.L.length ≤ 18 * k
  stop : p.stop = -1
theorem made_none (l : List Item) (p : PSt) (hL : p.L = []) (hs : p.stop = -1) : MadeTo p 0 l 0 := ⟨⟨[], by rw [List.take_zero]; exact .none⟩, by rw [hL]; simp, hs⟩
theorem made_next {p : PSt} {root : Int} {l : List Item} {k : Nat} {i : Item} (M : MadeTo p root l k) (h : l[k]? = some i) (hl : l.length ≤ 150) :
    (okItem i = false ∧ putTree p root i = (.error 1, p) ∧ MadeTo p root l (k + 1)) ∨ (okItem i = true ∧ ∃ r p', putTree p root i = (.ok r, p') ∧ MadeTo p' r l (k + 1)) := by
  obtain ⟨ids, R⟩ := M.rooted
  have hk := (List.getElem?_eq_some_iff.1 h).1
  have hlen := madeL_length (l.take k)
  rw [List.length_take] at hlen
  have hf := M.few
  have hs := M.stop
  by_cases hi : okItem i = true
  · right
    obtain ⟨r, p', ids', h1, h2, _, M2⟩ := putTree_is p root _ ids i hi R (by omega) 8 (by omega) (by omega) (by omega)
    refine ⟨hi, r, p', h1, ⟨ids', by rw [madeL_next h, if_pos hi]; exact h2⟩, by have := M2.few; omega, M2.stop.trans hs⟩
  · left
    refine ⟨by simpa using hi, by unfold putTree; rw [if_neg hi], ⟨ids, by rw [madeL_next h, if_neg hi]; exact R⟩, by omega, hs⟩
/-! ### A key is deleted -/
theorem ids_sub {us ts : List Sprout} (h : us.Sublist ts) : (us.flatMap Sprout.ids).Sublist (ts.flatMap Sprout.ids) := by
  induction h with
  | slnil => exact List.Sublist.refl _
  | cons a h ih => rw [List.flatMap_cons]; exact ih.trans (List.sublist_append_right _ _)
  | cons_cons a h ih => rw [List.flatMap_cons, List.flatMap_cons]; exact ih.append_left _
theorem Forest.less {L : List Node} {n : Nat} {ts us : List Sprout} (h : Forest L n ts) (hs : us.Sublist ts) : Forest L n us :=
  ⟨fun t ht => h.sub t (hs.subset ht), ⟨fun t ht => h.bd.lo t (hs.subset ht), h.bd.hi.sublist hs⟩, rightL_sub h.ok (hs.map _), h.nd.sublist (ids_sub hs)⟩
theorem Forest.keep {L L' : List Node} {n : Nat} {ts : List Sprout} (h : Forest L n ts) (hk : ∀ j ∈ ts.flatMap Sprout.ids, nodeAt L' j = nodeAt L j) : Forest L' n ts :=
  ⟨fun t ht => (h.sub t ht).keep fun j hj => hk j (List.mem_flatMap.2 ⟨t, ht, hj⟩), h.bd, h.ok, h.nd⟩
theorem forest_mid {L : List Node} {n : Nat} {A C w : List Sprout} (F : Forest L n (A ++ C)) (W : Forest L n w) (h1 : ∀ a ∈ A, ∀ s ∈ w, a.kid.key < s.kid.key ∧ ∀ i ∈ a.items, i.key < s.kid.key)
    (h2 : ∀ s ∈ w, ∀ c ∈ C, s.kid.key < c.kid.key ∧ ∀ i ∈ s.items, i.key < c.kid.key) (h3 : ∀ j ∈ (A ++ C).flatMap Sprout.ids, j ∉ w.flatMap Sprout.ids) : Forest L n (A ++ w ++ C) := by
  have hb := F.bd.hi
  have hk := (rightL_iff _).1 F.ok
  have hw := (rightL_iff _).1 W.ok
  have hkr := hk.2
  have hwr := hw.2
  unfold Rising at hkr hwr
  rw [List.pairwise_map] at hkr hwr
  rw [List.pairwise_append] at hb hkr
  have hnd := F.nd
  rw [List.flatMap_append, List.nodup_append] at hnd
  refine ⟨fun t ht => ?_, ⟨fun t ht => ?_, ?_⟩, ?_, ?_⟩
  · rcases List.mem_append.1 ht with ht | ht
    · rcases List.mem_append.1 ht with ht | ht
      · exact F.sub t (List.mem_append_left _ ht)
      · exact W.sub t ht
    · exact F.sub t (List.mem_append_right _ ht)
  · rcases List.mem_append.1 ht with ht | ht
    · rcases List.mem_append.1 ht with ht | ht
      · exact F.bd.lo t (List.mem_append_left _ ht)
      · exact W.bd.lo t ht
    · exact F.bd.lo t (List.mem_append_right _ ht)
  · rw [List.pairwise_append, List.pairwise_append]
    refine ⟨⟨hb.1, W.bd.hi, fun a ha s hs => (h1 a ha s hs).2⟩, hb.2.1, fun s hs c hc => ?_⟩
    rcases List.mem_append.1 hs with hs | hs
    · exact hb.2.2 s hs c hc
    · exact (h2 s hs c hc).2
  · rw [rightL_iff]
    refine ⟨fun k hk2 => ?_, ?_⟩
    · obtain ⟨t, ht, rfl⟩ := List.mem_map.1 hk2
      rcases List.mem_append.1 ht with ht | ht
      · rcases List.mem_append.1 ht with ht | ht
        · exact hk.1 _ (List.mem_map_of_mem (List.mem_append_left _ ht))
        · exact hw.1 _ (List.mem_map_of_mem ht)
      · exact hk.1 _ (List.mem_map_of_mem (List.mem_append_right _ ht))
    · unfold Rising
      rw [List.pairwise_map, List.pairwise_append, List.pairwise_append]
      refine ⟨⟨hkr.1, hwr, fun a ha s hs => (h1 a ha s hs).1⟩, hkr.2.1, fun s hs c hc => ?_⟩
      rcases List.mem_append.1 hs with hs | hs
      · exact hkr.2.2 s hs c hc
      · exact (h2 s hs c hc).1
  · rw [List.flatMap_append, List.flatMap_append, List.nodup_append, List.nodup_append]
    refine ⟨⟨hnd.1, W.nd, fun x hx y hy e => ?_⟩, hnd.2.1, fun x hx y hy e => ?_⟩
    · subst e; exact h3 x (by rw [List.flatMap_append]; exact List.mem_append_left _ hx) hy
    · subst e
      rcases List.mem_append.1 hx with hx | hx
      · exact hnd.2.2 x hx x hy rfl
      · exact h3 x (by rw [List.flatMap_append]; exact List.mem_append_right _ hy) hx
theorem forest_head {L : List Node} {n : Nat} {w : Sprout} {ws : List Sprout} (F : Forest L n (w :: ws)) (k : Bytes) (hk : k.length ≤ 32) (hl : ¬ w.kid.key < k) : Forest L n (⟨⟨k, w.kid.page⟩, w.low, w.items, w.ids⟩ :: ws) := by
  have h := (rightL_iff _).1 F.ok
  have hr := h.2
  unfold Rising at hr
  rw [List.map_cons, List.pairwise_cons] at hr
  have hb := List.pairwise_cons.1 F.bd.hi
  refine ⟨fun t ht => ?_, ⟨fun t ht => ?_, List.pairwise_cons.2 ⟨hb.1, hb.2⟩⟩, ?_, F.nd⟩
  · rcases List.mem_cons.1 ht with rfl | ht
    · exact F.sub w (by simp)
    · exact F.sub t (by simp [ht])
  · rcases List.mem_cons.1 ht with rfl | ht
    · exact not_lt_trans hl (F.bd.lo w (by simp))
    · exact F.bd.lo t (by simp [ht])
  · rw [rightL_iff]
    refine ⟨fun x hx => ?_, ?_⟩
    · rw [List.map_cons] at hx
      rcases List.mem_cons.1 hx with rfl | hx
      · have g : okKid w.kid = true := h.1 _ (by simp)
        show okKid ⟨k, w.kid.page⟩ = true
        simp only [okKid, decide_eq_true_eq] at g ⊢
        exact ⟨by omega, g.2⟩
      · exact h.1 x (by rw [List.map_cons]; exact List.mem_cons_of_mem _ hx)
    · unfold Rising
      rw [List.map_cons, List.pairwise_cons]
      refine ⟨fun x hx => ?_, hr.2⟩
      have := hr.1 x hx
      show k < Keyed.key x
      apply Classical.byContradiction
      intro q
      exact q (Classical.byContradiction fun q => hl (lt_of_lt_not this q))
theorem Moved2.same {p p' : PSt} {ids ids1 a a1 : List Int} {f g : Nat} (M : Moved2 p a p' a1 f) (h : ∀ j, j ∈ ids ↔ j ∈ a) (h1 : ∀ j, j ∈ ids1 ↔ j ∈ a1) (hf : p'.L.length ≤ p.L.length + g) : Moved2 p ids p' ids1 g := by
  refine ⟨fun j hj => ?_, fun j hj q => M.other j hj (q.imp (fun q => fun k => q ((h j).2 k)) id), M.grow, hf, ?_, fun q => M.twice fun j hj => q j ((h j).2 hj), M.mine, M.bad, M.stop, fun j ha hb => (h1 j).2 (M.all j ha hb)⟩
  · rw [h j]; exact M.new j ((h1 j).1 hj)
  · obtain ⟨gs, h2, h3, h4⟩ := M.gone
    exact ⟨gs, h2, fun j => by rw [h j, h1 j]; exact h3 j, h4⟩
theorem Moved2.frame {p p' : PSt} {ids ids1 a a1 c : List Int} {f : Nat} (M : Moved2 p a p' a1 f) (h : ∀ j, j ∈ ids ↔ j ∈ a ∨ j ∈ c) (h1 : ∀ j, j ∈ ids1 ↔ j ∈ a1 ∨ j ∈ c) (hd : ∀ j ∈ c, j ∉ a) : Moved2 p ids p' ids1 f := by
  refine ⟨fun j hj => ?_, fun j hj q => M.other j hj (q.imp (fun q k => q ((h j).2 (.inl k))) id), M.grow, M.few, ?_, fun q => M.twice fun j hj => q j ((h j).2 (.inl hj)), M.mine, M.bad, M.stop, fun j ha hb => (h1 j).2 (.inl (M.all j ha hb))⟩
  · rw [h j]
    rcases (h1 j).1 hj with q | q
    · exact (M.new j q).imp .inl id
    · exact .inl (.inr q)
  · obtain ⟨gs, h2, h3, h4⟩ := M.gone
    refine ⟨gs, h2, fun j => ?_, h4⟩
    rw [h3, h j, h1 j]
    constructor
    · rintro ⟨q1, q2⟩; exact ⟨.inl q1, fun q => q.elim q2 fun q => hd j q q1⟩
    · rintro ⟨q1, q2⟩; exact ⟨q1.resolve_right fun q => q2 (.inr q), fun q => q2 (.inl q)⟩
theorem Moved2.andthen {p p1 p2 : PSt} {ids ids1 ids2 pages : List Int} {x : Int} {f g : Nat} (M : Moved2 p ids p1 ids1 f) (K : Moved2 p1 [x] p2 pages g) (hx : x ∈ ids) (hx1 : x ∈ ids1)
    (h2 : ∀ j, j ∈ ids2 ↔ j ∈ pages ∨ (j ∈ ids1 ∧ j ≠ x)) (ht : ∀ j ∈ ids, j < (p.L.length + 2 : Nat)) : Moved2 p ids p2 ids2 (f + g) := by
  have hg := M.grow
  have hgk := K.grow
  refine ⟨fun j hj => ?_, fun j hj q => ?_, Nat.le_trans hg hgk, by have := M.few; have := K.few; omega, ?_, fun q => ?_, K.mine.trans M.mine, K.bad.trans M.bad, K.stop.trans M.stop, fun j ha hb => (h2 j).2 ((Int.lt_or_le j ((p1.L.length + 2 : Nat) : Int)).elim (fun q => .inr ⟨M.all j ha q, fun e => by subst e; have := ht j hx; omega⟩) fun q => .inl (K.all j q hb))⟩
  · rcases (h2 j).1 hj with q | q
    · rcases K.new j q with q | q
      · exact .inl (by rw [List.mem_singleton.1 q]; exact hx)
      · exact .inr (by omega)
    · exact M.new j q.1
  · refine (K.other j (by omega) ?_).trans (M.other j hj q)
    rcases q with q | q
    · exact .inl fun e => q (by rw [List.mem_singleton.1 e]; exact hx)
    · exact .inr (by rw [isMine_grow M.mine hg hj]; exact q)
  · obtain ⟨gs, q1, q2, q3⟩ := M.gone
    obtain ⟨ks, r1, r2, r3⟩ := K.gone
    have hks : ∀ j ∈ ks, j = x := fun j hj => by simpa using ((r2 j).1 hj).1
    refine ⟨gs ++ ks, by rw [r1, q1, List.append_assoc], fun j => ?_, ?_⟩
    · rw [List.mem_append]
      constructor
      · rintro (hj | hj)
        · obtain ⟨e1, e2⟩ := (q2 j).1 hj
          refine ⟨e1, fun q => ?_⟩
          rcases (h2 j).1 q with q | q
          · rcases K.new j q with q | q
            · rw [List.mem_singleton.1 q] at e2; exact e2 hx1
            · have := ht j e1; omega
          · exact e2 q.1
        · obtain rfl := hks j hj
          refine ⟨hx, fun q => ?_⟩
          rcases (h2 _).1 q with q | q
          · exact ((r2 _).1 hj).2 q
          · exact q.2 rfl
      · rintro ⟨e1, e2⟩
        by_cases hj : j ∈ ids1
        · by_cases e : j = x
          · subst e
            exact .inr ((r2 _).2 ⟨by simp, fun q => e2 ((h2 _).2 (.inl q))⟩)
          · exact absurd ((h2 j).2 (.inr ⟨hj, e⟩)) e2
        · exact .inl ((q2 j).2 ⟨e1, hj⟩)
    · rw [List.nodup_append]
      refine ⟨q3, r3, fun a ha b hb e => ?_⟩
      subst e
      rw [hks a hb] at ha
      exact ((q2 x).1 ha).2 hx1
  · refine (K.twice fun j hj => ?_).trans (M.twice q)
    obtain ⟨gs, q1, q2, q3⟩ := M.gone
    rw [List.mem_singleton.1 hj, q1, List.mem_append]
    rintro (e | e)
    · exact q x hx e
    · exact ((q2 x).1 e).2 hx1
theorem freeP_moved (p : PSt) (x : Int) : Moved2 p [x] (freeP p x) [] 0 := by
  refine ⟨fun j hj => (by cases hj), fun _ _ _ => rfl, Nat.le_refl _, Nat.le_refl _, ⟨[x], rfl, fun j => by simp, by simp⟩, fun q => ?_, rfl, rfl, rfl, fun _ h1 h2 => absurd h1 (by have e : (freeP p x).L = p.L := rfl; rw [e] at h2; omega)⟩
  show (p.twice || _) = _
  rw [any_false (q x (by simp)), Bool.or_false]
theorem dropL_app (A B C : List Item) (k : Bytes) (hA : ∀ a ∈ A, a.key < k) (hC : ∀ c ∈ C, k < c.key) : dropL (A ++ B ++ C) k = if (dropL B k).2 = true then (A ++ (dropL B k).1 ++ C, true) else (A ++ B ++ C, false) := by
  have fA : ∀ x ∈ A, (fun x : Item => decide (Keyed.key x < k)) x = true := fun x hx => decide_eq_true (hA x hx)
  have fC : ∀ x ∈ C, (fun x : Item => decide (Keyed.key x < k)) x = false := fun x hx => decide_eq_false (List.lt_asymm (hC x hx))
  have e1 : ahead (A ++ B ++ C) k = A ++ ahead B k := by
    unfold ahead
    rw [takeWhile_none _ _ _ fC, takeWhile_all _ _ _ fA]
  have e2 : behind (A ++ B ++ C) k = behind B k ++ C := by
    unfold behind
    rw [dropWhile_none _ _ _ fC, dropWhile_all _ _ _ fA]
  unfold dropL
  rw [e1, e2]
  cases hb : behind B k with
  | nil =>
    cases C with
    | nil => simp
    | cons c C =>
      have : c.key ≠ k := fun q => by have := hC c (by simp); rw [q] at this; exact List.lt_irrefl _ this
      simp [this]
  | cons x r =>
    by_cases hx : x.key = k
    · simp [hx]
    · simp [hx]
theorem dropL_sub (l : List Item) (k : Bytes) : (dropL l k).1.Sublist l := by
  unfold dropL
  cases hb : behind l k with
  | nil => exact List.Sublist.refl _
  | cons x r =>
    simp only
    split
    · have := ahead_behind l k
      rw [hb] at this
      conv => rhs; rw [← this]
      exact (List.sublist_cons_self x r).append_left _
    · exact List.Sublist.refl _
structure Rest where
  kids : List Kid
  thin : Bool
  found : Bool
def setHead (k : Bytes) : List Kid → List Kid
  | [] => []
  | x :: l => ⟨k, x.page⟩ :: l
def joinP (p : PSt) (kids : List Kid) (at_ : Nat) (one : Kid) (depth : Int) : Res (List Kid) :=
  if kids.length < 2 then (.error 25, p) else
    match kids[if at_ = 0 then 1 else at_ - 1]?, kids[at_ - 1]? with
    | some kb, some kl => match loadP p kb.page depth with
      | (.error e, p) => (.error e, p)
      | (.ok (.leaf _), p) => (.error 25, p)
      | (.ok (.twig ks), p) =>
        match twigsP p kb.page (if at_ = 0 then one :: setHead kb.key ks else ks ++ [one]) with
        | (.error e, p) => (.error e, p)
        | (.ok w, p) => (.ok (kids.take (at_ - 1) ++ setHead kl.key w ++ kids.drop (at_ - 1 + 2)), p)
      | (.ok (.over _), p) => (.error 25, p)
    | _, _ => (.error 0, p)
def delP : Nat → PSt → Int → Bytes → Int → Res Rest
  | 0, p, _, _, _ => (.error 25, p)
  | f + 1, p, id, key, depth =>
    match loadP p id depth with
    | (.error e, p) => (.error e, p)
    | (.ok (.leaf l), p) =>
      if (dropL l key).2 = true then match leavesP p id (dropL l key).1 with
        | (.error e, p) => (.error e, p)
        | (.ok w, p) => (.ok ⟨w, false, true⟩, p)
      else (.ok ⟨[], false, false⟩, p)
    | (.ok (.twig kids), p) =>
      match kids[findK kids key]? with
      | none => (.error 0, p)
      | some k => match delP f p k.page key (depth + 1) with
        | (.error e, p) => (.error e, p)
        | (.ok r, p) =>
          if r.found = true then
            match (if r.thin = true then (match r.kids with
                | one :: _ => joinP p kids (findK kids key) ⟨k.key, one.page⟩ (depth + 1)
                | [] => (.error 0, p)) else (.ok (swapL kids (findK kids key) (setHead k.key r.kids)), p) : Res (List Kid)) with
            | (.error e, p) => (.error e, p)
            | (.ok l, p) => if l.length = 1 then (.ok ⟨l, true, true⟩, freeP p id)
              else match twigsP p id l with
                | (.error e, p) => (.error e, p)
                | (.ok w, p) => (.ok ⟨w, false, true⟩, p)
          else (.ok ⟨[], false, false⟩, p)
    | (.ok (.over _), p) => (.error 25, p)
def delTree (p : PSt) (root : Int) (key : Bytes) : Res (Int × Bool) :=
  if root = 0 then (.ok (0, false), p) else
    match delP 13 p root key 1 with
    | (.error e, p) => (.error e, p)
    | (.ok r, p) => if r.found = true then
        match topP 20 p r.kids with
        | (.error e, p) => (.error e, p)
        | (.ok id, p) => (.ok (id, true), p)
      else (.ok (root, false), p)
theorem kid_len {L : List Node} {n : Nat} {ts : List Sprout} (F : Forest L n ts) {t : Sprout} (h : t ∈ ts) : t.kid.key.length ≤ 32 := by
  have : okKid t.kid = true := ((rightL_iff _).1 F.ok).1 _ (List.mem_map_of_mem h)
  simp only [okKid, decide_eq_true_eq] at this
  omega
theorem size_map (l : List Kid) {ts : List Sprout} {L : List Node} {n : Nat} (F : Forest L n ts) (h : l = ts.map Sprout.kid) : sizeL l ≤ 1 + 36 * ts.length := by
  have := sizeL_most l fun y hy => (cost_kid (((rightL_iff _).1 F.ok).1 y (h ▸ hy))).2
  rw [h, List.length_map] at this
  rwa [h]
theorem join_core (p : PSt) (m : Nat) (x : Int) (b2 : Bytes) (items2 : List Item) (ids2 : List Int) (T : Tree p.L (m + 1) x b2 items2 ids2) (o : Sprout) (O : Forest p.L m [o]) (left : Bool) (k2 : Bytes) (hk2 : k2.length ≤ 32) (hb2 : ¬ b2 < k2)
    (hsep : ∀ j ∈ o.ids, j ∉ ids2)
    (hord : if left = true then o.kid.key < k2 ∧ ∀ i ∈ o.items, i.key < k2 else ∀ i ∈ items2, i.key < o.kid.key)
    (hL : p.L.length + 2 ≤ 3998) :
    ∃ ks us p' pages, nodeAt p.L x = some (.twig ks) ∧ twigsP p x (if left = true then o.kid :: setHead k2 ks else ks ++ [o.kid]) = (.ok (us.map Sprout.kid), p') ∧ Forest p'.L (m + 1) us ∧
      us.flatMap Sprout.items = (if left = true then o.items ++ items2 else items2 ++ o.items) ∧ us.length ≤ 2 ∧ us ≠ [] ∧ Moved2 p [x] p' pages 2 ∧ p'.L.length ≤ p.L.length + us.length ∧
      (∀ j, j ∈ us.flatMap Sprout.ids ↔ j ∈ pages ∨ (j ∈ ids2 ∧ j ≠ x) ∨ j ∈ o.ids) ∧ ∀ b' : Bytes, ¬ o.kid.key < b' → ¬ (if left = true then k2 else b2) < b' → ∀ u ∈ us, ¬ u.kid.key < b' := by
  have hxt := T.there _ T.self
  cases T with
  | twig _ _ ts h two ok sub bd nd =>
    rw [List.nodup_cons] at nd
    have F : Forest p.L m ts := ⟨sub, bd, ok.1, nd.2⟩
    have ho : x ∉ o.ids := fun q => hsep x q (by simp)
    have hsz := ok.2.1
    have hsep2 : ∀ j ∈ o.ids, j ∉ ts.flatMap Sprout.ids := fun j hj q => hsep j hj (List.mem_cons_of_mem _ q)
    obtain ⟨t0, tr, rfl⟩ := List.exists_cons_of_ne_nil (l := ts) (by intro q; subst q; simp at two)
    have hb0 : hd ((t0 :: tr).map Sprout.kid) = t0.kid.key := rfl
    rw [hb0] at hb2
    cases left with
    | true =>
      simp only [if_true] at hord ⊢
      have F1 := forest_head F k2 hk2 hb2
      generalize ht1 : (⟨⟨k2, t0.kid.page⟩, t0.low, t0.items, t0.ids⟩ : Sprout) = t1 at F1
      have hmid := forest_mid (A := [o]) (C := []) (w := t1 :: tr) (by simpa using O) F1 (fun a ha s hs => by
        rw [List.mem_singleton.1 ha]
        have hs1 : ¬ s.kid.key < k2 := by
          rcases List.mem_cons.1 hs with rfl | hs
          · rw [← ht1]; exact List.lt_irrefl _
          · have hr := ((rightL_iff _).1 F1.ok).2
            unfold Rising at hr
            rw [List.map_cons, List.pairwise_cons] at hr
            have := hr.1 s.kid (List.mem_map_of_mem hs)
            rw [← ht1] at this
            exact List.lt_asymm this
        exact ⟨lt_of_lt_not hord.1 hs1, fun i hi => lt_of_lt_not (hord.2 i hi) hs1⟩) (fun s _ c hc => by cases hc) (fun j hj q => by
          refine hsep2 j (by simpa using hj) ?_
          rw [← ht1] at q
          simpa using q)
      rw [List.append_nil] at hmid
      have hszm : sizeL (([o] ++ t1 :: tr).map Sprout.kid) ≤ 392 := by
        have c1 := (cost_kid (((rightL_iff _).1 hmid.ok).1 o.kid (by simp))).2
        have c2 := (cost_kid (((rightL_iff _).1 hmid.ok).1 t1.kid (by simp))).2
        rw [List.map_cons, sizeL_cons] at hsz
        rw [List.cons_append, List.nil_append, List.map_cons, List.map_cons, sizeL_cons, sizeL_cons]
        omega
      obtain ⟨us, p', pages, k1, k2', k3, k4, k5, K, k7, k8, k9⟩ := twigsP_is p x m _ hmid (by simp) hszm hL hxt.2 (by
        intro q
        rw [List.flatMap_append, List.mem_append] at q
        rcases q with q | q
        · exact ho (by simpa using q)
        · refine nd.1 ?_
          rw [← ht1] at q
          simpa using q)
      have hns : ((cutT (([o] ++ t1 :: tr).map Sprout.kid)).map Node.twig).length ≤ 2 := by rw [← K.len, k7]; exact k4
      refine ⟨_, us, p', pages, h, ?_, k2', ?_, k4, k5, K.moved (by omega) 2 hns, ?_, fun j => ?_, fun b' hob hkb u hu => ?_⟩
      · rw [← ht1] at k1; simpa [setHead] using k1
      · rw [k3, ← ht1]; simp
      · have := K.few; rw [← K.len, k7] at this; exact this
      · rw [k8, ← ht1]
        have hx : j ∈ (t0 :: tr).flatMap Sprout.ids → j ≠ x := fun q e => nd.1 (e ▸ q)
        simp only [List.mem_cons, List.flatMap_append, List.flatMap_cons, List.flatMap_nil, List.append_nil, List.mem_append] at hx ⊢
        constructor
        · rintro (q | q | q)
          · exact .inl q
          · exact .inr (.inr q)
          · exact .inr (.inl ⟨.inr q, hx q⟩)
        · rintro (q | ⟨q, r⟩ | q)
          · exact .inl q
          · exact .inr (.inr (q.resolve_left r))
          · exact .inr (.inl q)
      · obtain ⟨s, hs, es⟩ := k9 u hu
        rw [← es]
        rcases List.mem_append.1 hs with hs | hs
        · rw [List.mem_singleton.1 hs]; exact hob
        · rcases List.mem_cons.1 hs with rfl | hs
          · rw [← ht1]; exact hkb
          · have hr := ((rightL_iff _).1 F1.ok).2
            unfold Rising at hr
            rw [List.map_cons, List.pairwise_cons] at hr
            have := hr.1 s.kid (List.mem_map_of_mem hs)
            rw [← ht1] at this
            exact not_lt_trans hkb (List.lt_asymm this)
    | false =>
      simp only [Bool.false_eq_true, if_false] at hord ⊢
      have hmid := forest_mid (A := t0 :: tr) (C := []) (w := [o]) (by simpa using F) O (fun a ha s hs => by
        rw [List.mem_singleton.1 hs]
        have hi : ∀ i ∈ a.items, i.key < o.kid.key := fun i hi => hord i (List.mem_flatMap.2 ⟨a, ha, hi⟩)
        refine ⟨?_, hi⟩
        obtain ⟨i, hi2⟩ := List.exists_mem_of_ne_nil _ (F.sub a ha).ne
        have h1 := not_lt_trans (F.bd.lo a ha) ((F.sub a ha).low_le i hi2)
        apply Classical.byContradiction
        intro q
        exact h1 (lt_of_lt_not (hi i hi2) q)) (fun s _ c hc => by cases hc) (fun j hj q => hsep2 j (by simpa using q) (by simpa using hj))
      rw [List.append_nil] at hmid
      have hszm : sizeL ((t0 :: tr ++ [o]).map Sprout.kid) ≤ 392 := by
        have c1 := (cost_kid (((rightL_iff _).1 O.ok).1 o.kid (by simp))).2
        have := sizeL_app ((t0 :: tr).map Sprout.kid) [o.kid]
        rw [sizeL_cons] at this
        have e : sizeL ([] : List Kid) = 1 := rfl
        rw [List.map_append]
        show sizeL ((t0 :: tr).map Sprout.kid ++ [o.kid]) ≤ 392
        change Keyed.cost o.kid ≤ 36 at c1
        omega
      obtain ⟨us, p', pages, k1, k2', k3, k4, k5, K, k7, k8, k9⟩ := twigsP_is p x m _ hmid (by simp) hszm hL hxt.2 (by
        intro q
        rw [List.flatMap_append, List.mem_append] at q
        rcases q with q | q
        · exact nd.1 q
        · exact ho (by simpa using q))
      have hns : ((cutT ((t0 :: tr ++ [o]).map Sprout.kid)).map Node.twig).length ≤ 2 := by rw [← K.len, k7]; exact k4
      refine ⟨_, us, p', pages, h, ?_, k2', ?_, k4, k5, K.moved (by omega) 2 hns, ?_, fun j => ?_, fun b' hob hkb u hu => ?_⟩
      · simpa using k1
      · rw [k3]; simp
      · have := K.few; rw [← K.len, k7] at this; exact this
      · rw [k8]
        have hx : j ∈ (t0 :: tr).flatMap Sprout.ids → j ≠ x := fun q e => nd.1 (e ▸ q)
        rw [List.flatMap_append, List.mem_append, List.mem_cons]
        have e : ∀ j, j ∈ [o].flatMap Sprout.ids ↔ j ∈ o.ids := fun j => by simp
        rw [e]
        constructor
        · rintro (q | q | q)
          · exact .inl q
          · exact .inr (.inl ⟨.inr q, hx q⟩)
          · exact .inr (.inr q)
        · rintro (q | ⟨q, r⟩ | q)
          · exact .inl q
          · exact .inr (.inl (q.resolve_left r))
          · exact .inr (.inr q)
      · obtain ⟨s, hs, es⟩ := k9 u hu
        rw [← es]
        rcases List.mem_append.1 hs with hs | hs
        · exact not_lt_trans hkb (hd_le ((rightL_iff _).1 ok.1).2 s.kid (List.mem_map_of_mem hs))
        · rw [List.mem_singleton.1 hs]; exact hob
theorem forest_key_lt {L : List Node} {n : Nat} {ts : List Sprout} (F : Forest L n ts) {s : Sprout} (hs : s ∈ ts) {k : Bytes} (h : ∀ i ∈ s.items, i.key < k) : s.kid.key < k := by
  obtain ⟨i, hi⟩ := List.exists_mem_of_ne_nil _ (F.sub s hs).ne
  have h1 := not_lt_trans (F.bd.lo s hs) ((F.sub s hs).low_le i hi)
  apply Classical.byContradiction
  intro q
  exact h1 (lt_of_lt_not (h i hi) q)
theorem seg_mid {L L' : List Node} {n : Nat} {A ys C us : List Sprout} {y : Sprout} (F : Forest L n (A ++ y :: ys ++ C)) (W : Forest L' n us) (hsame : ∀ j ∈ (A ++ C).flatMap Sprout.ids, nodeAt L' j = nodeAt L j)
    (hit : ∀ i ∈ us.flatMap Sprout.items, i ∈ (y :: ys).flatMap Sprout.items) (hkey : ∀ u ∈ us, ¬ u.kid.key < y.kid.key) (hids : ∀ j ∈ (A ++ C).flatMap Sprout.ids, j ∉ us.flatMap Sprout.ids) :
    ∃ us', us'.map Sprout.kid = setHead y.kid.key (us.map Sprout.kid) ∧ Forest L' n (A ++ us' ++ C) ∧ us'.flatMap Sprout.items = us.flatMap Sprout.items ∧ us'.flatMap Sprout.ids = us.flatMap Sprout.ids ∧ us'.length = us.length ∧ ∀ u ∈ us', ¬ u.kid.key < y.kid.key := by
  have hAC : (A ++ C).Sublist (A ++ y :: ys ++ C) := by
    rw [List.append_assoc]
    exact (List.sublist_append_right _ _).append_left _
  have FAC := (F.less hAC).keep hsame
  cases us with
  | nil => exact ⟨[], rfl, by rw [List.append_nil]; exact FAC, rfl, rfl, rfl, fun u hu => by cases hu⟩
  | cons u0 us =>
    have hky := kid_len F (t := y) (by simp)
    have F1 := forest_head W y.kid.key hky (hkey u0 (by simp))
    refine ⟨⟨⟨y.kid.key, u0.kid.page⟩, u0.low, u0.items, u0.ids⟩ :: us, rfl, ?_, by simp, by simp, by simp, fun u hu => ?_⟩
    · have hk2 : ∀ s ∈ (⟨⟨y.kid.key, u0.kid.page⟩, u0.low, u0.items, u0.ids⟩ :: us : List Sprout), ¬ s.kid.key < y.kid.key := by
        intro s hs
        rcases List.mem_cons.1 hs with rfl | hs
        · exact List.lt_irrefl _
        · exact hkey s (by simp [hs])
      have hhi := F.bd.hi
      have hri := ((rightL_iff _).1 F.ok).2
      unfold Rising at hri
      rw [List.pairwise_map, List.append_assoc, List.pairwise_append] at hri
      rw [List.append_assoc, List.pairwise_append] at hhi
      refine forest_mid FAC F1 (fun a ha s hs => ?_) (fun s hs c hc => ?_) (fun j hj q => hids j hj (by simpa using q))
      · have q1 : a.kid.key < y.kid.key := hri.2.2 a ha y (by simp)
        exact ⟨lt_of_lt_not q1 (hk2 s hs), fun i hi => lt_of_lt_not (hhi.2.2 a ha y (by simp) i hi) (hk2 s hs)⟩
      · have q : ∀ i ∈ s.items, i.key < c.kid.key := fun i hi => by
          have hm : i ∈ (u0 :: us).flatMap Sprout.items := by
            rcases List.mem_cons.1 hs with rfl | hs
            · simp only [List.flatMap_cons, List.mem_append]; exact .inl hi
            · exact List.mem_flatMap.2 ⟨s, by simp [hs], hi⟩
          obtain ⟨t, ht, hi2⟩ := List.mem_flatMap.1 (hit i hm)
          have := hhi.2.1
          rw [List.pairwise_append] at this
          exact this.2.2 t ht c hc i hi2
        exact ⟨forest_key_lt F1 hs q, q⟩
    · rcases List.mem_cons.1 hu with rfl | hu
      · exact List.lt_irrefl _
      · exact hkey u (by simp [hu])
theorem mem_AC {A C : List Sprout} {t : Sprout} {j : Int} : j ∈ (A ++ t :: C).flatMap Sprout.ids ↔ j ∈ t.ids ∨ j ∈ (A ++ C).flatMap Sprout.ids := by
  simp only [List.flatMap_append, List.flatMap_cons, List.mem_append]
  constructor
  · rintro (q | q | q)
    · exact .inr (.inl q)
    · exact .inl q
    · exact .inr (.inr q)
  · rintro (q | q | q)
    · exact .inr (.inl q)
    · exact .inl q
    · exact .inr (.inr q)
theorem sep_AC {A C : List Sprout} {t : Sprout} (nd : ((A ++ t :: C).flatMap Sprout.ids).Nodup) : ∀ j ∈ (A ++ C).flatMap Sprout.ids, j ∉ t.ids := by
  intro j hj q
  rw [List.flatMap_append, List.flatMap_cons, List.nodup_append, List.nodup_append] at nd
  rw [List.flatMap_append] at hj
  rcases List.mem_append.1 hj with hj | hj
  · exact nd.2.2 j hj j (List.mem_append_left _ q) rfl
  · exact nd.2.1.2.2 j q j hj rfl
theorem keys_seg {L : List Node} {n : Nat} {A ys C : List Sprout} {y : Sprout} (F : Forest L n (A ++ y :: ys ++ C)) {us' : List Sprout} (hu : ∀ u ∈ us', ¬ u.kid.key < y.kid.key) (b' : Bytes) (hb : ¬ hd ((A ++ y :: ys ++ C).map Sprout.kid) < b') : ∀ s ∈ A ++ us' ++ C, ¬ s.kid.key < b' := by
  have hall : ∀ s ∈ A ++ y :: ys ++ C, ¬ s.kid.key < b' := fun s hs => not_lt_trans hb (hd_le ((rightL_iff _).1 F.ok).2 s.kid (List.mem_map_of_mem hs))
  intro s hs
  rcases List.mem_append.1 hs with hs | hs
  · rcases List.mem_append.1 hs with hs | hs
    · exact hall s (by simp [hs])
    · exact not_lt_trans (hall y (by simp)) (hu s hs)
  · exact hall s (by simp [hs])
theorem swap_step {p p1 : PSt} {n : Nat} {A C w : List Sprout} {t : Sprout} {few : Nat} (F : Forest p.L n (A ++ t :: C)) (hsz : sizeL ((A ++ t :: C).map Sprout.kid) ≤ 232) (M : Moved2 p t.ids p1 (w.flatMap Sprout.ids) few) (W : Forest p1.L n w) (hw : w.length ≤ 2)
    (hit : ∀ i ∈ w.flatMap Sprout.items, i ∈ t.items) (hkey : ∀ b' : Bytes, ¬ t.low < b' → ∀ s ∈ w, ¬ s.kid.key < b') :
    ∃ ls, swapL ((A ++ t :: C).map Sprout.kid) A.length (setHead t.kid.key (w.map Sprout.kid)) = ls.map Sprout.kid ∧ Forest p1.L n ls ∧ ls.flatMap Sprout.items = A.flatMap Sprout.items ++ w.flatMap Sprout.items ++ C.flatMap Sprout.items ∧
      (∀ j, j ∈ ls.flatMap Sprout.ids ↔ j ∈ (A ++ C).flatMap Sprout.ids ∨ j ∈ w.flatMap Sprout.ids) ∧ ls.length + 1 = (A ++ t :: C).length + w.length ∧ (∀ b' : Bytes, ¬ hd ((A ++ t :: C).map Sprout.kid) < b' → ∀ s ∈ ls, ¬ s.kid.key < b') ∧ sizeL (ls.map Sprout.kid) ≤ 392 := by
  have hsep := sep_AC F.nd
  have hthere : ∀ j ∈ (A ++ C).flatMap Sprout.ids, j < (p.L.length + 2 : Nat) := fun j hj => by
    obtain ⟨s, hs, hj⟩ := List.mem_flatMap.1 hj
    refine ((F.sub s ?_).there j hj).2
    rcases List.mem_append.1 hs with hs | hs
    · simp [hs]
    · simp [hs]
  have e0 : A ++ t :: C = A ++ t :: [] ++ C := by simp
  obtain ⟨us', h1, h2, h3, h4, h5, h6⟩ := seg_mid (A := A) (y := t) (ys := []) (C := C) (us := w) (by rw [← e0]; exact F) W (fun j hj => M.other j (hthere j hj) (.inl (hsep j hj))) (fun i hi => by simpa using hit i hi) (fun u hu => hkey _ (F.bd.lo t (by simp)) u hu)
    (fun j hj q => by
      rcases M.new j q with q | q
      · exact hsep j hj q
      · have := hthere j hj; omega)
  refine ⟨A ++ us' ++ C, ?_, h2, by rw [List.flatMap_append, List.flatMap_append, h3], fun j => ?_, ?_, ?_, ?_⟩
  · unfold swapL
    have q1 : ((A ++ t :: C).map Sprout.kid).take A.length = A.map Sprout.kid := by
      rw [List.map_append]
      have := List.take_left (l₁ := A.map Sprout.kid) (l₂ := (t :: C).map Sprout.kid)
      rwa [List.length_map] at this
    have q2 : ((A ++ t :: C).map Sprout.kid).drop (A.length + 1) = C.map Sprout.kid := by
      have := List.drop_left (l₁ := (A ++ [t]).map Sprout.kid) (l₂ := C.map Sprout.kid)
      simpa using this
    rw [q1, q2, ← h1, List.map_append, List.map_append]
  · rw [← h4]
    simp only [List.flatMap_append, List.mem_append]
    constructor
    · rintro ((q | q) | q)
      · exact .inl (.inl q)
      · exact .inr q
      · exact .inl (.inr q)
    · rintro ((q | q) | q)
      · exact .inl (.inl q)
      · exact .inr q
      · exact .inl (.inr q)
  · simp only [List.length_append, List.length_cons, h5]; omega
  · intro b' hb
    exact keys_seg (by rw [← e0]; exact F) h6 b' (by rw [← e0]; exact hb)
  · have q1 := sizeL_app (A.map Sprout.kid ++ us'.map Sprout.kid) (C.map Sprout.kid)
    have q2 := sizeL_app (A.map Sprout.kid) (us'.map Sprout.kid)
    have q3 := sizeL_app (A.map Sprout.kid) (t.kid :: C.map Sprout.kid)
    have q4 := size_map _ (h2.less (us := us') (by rw [List.append_assoc]; exact (List.sublist_append_left _ _).trans (List.sublist_append_right _ _))) rfl
    rw [List.map_append, List.map_cons] at hsz
    rw [sizeL_cons t.kid] at q3
    rw [List.map_append, List.map_append]
    have q6 := sizeL_pos (C.map Sprout.kid)
    omega
theorem join_step {p p1 : PSt} {m : Nat} {A C : List Sprout} {t o : Sprout} {few : Nat} {depth : Int} (F : Forest p.L (m + 1) (A ++ t :: C)) (h2 : 2 ≤ (A ++ t :: C).length) (hsz : sizeL ((A ++ t :: C).map Sprout.kid) ≤ 232) (M : Moved2 p t.ids p1 o.ids few) (O : Forest p1.L m [o])
    (hit : ∀ i ∈ o.items, i ∈ t.items) (hkey : ∀ b' : Bytes, ¬ t.low < b' → ¬ o.kid.key < b') (hd12 : depth ≤ 12) (hs : p1.stop < 0) (hL : p1.L.length + 2 ≤ 3998) :
    ∃ ls p2 pages x, joinP p1 ((A ++ t :: C).map Sprout.kid) A.length ⟨t.kid.key, o.kid.page⟩ depth = (.ok (ls.map Sprout.kid), p2) ∧ Forest p2.L (m + 1) ls ∧ ls.flatMap Sprout.items = A.flatMap Sprout.items ++ o.items ++ C.flatMap Sprout.items ∧ ls ≠ [] ∧
      Moved2 p1 [x] p2 pages 2 ∧ x ∈ (A ++ C).flatMap Sprout.ids ∧ (∀ j, j ∈ ls.flatMap Sprout.ids ↔ j ∈ pages ∨ (j ∈ (A ++ C).flatMap Sprout.ids ∧ j ≠ x) ∨ j ∈ o.ids) ∧ (ls.length = 1 → p2.L.length ≤ p1.L.length + 1) ∧
      (∀ b' : Bytes, ¬ hd ((A ++ t :: C).map Sprout.kid) < b' → ∀ s ∈ ls, ¬ s.kid.key < b') ∧ sizeL (ls.map Sprout.kid) ≤ 392 := by
  have hsep := sep_AC F.nd
  have hthere : ∀ j ∈ (A ++ C).flatMap Sprout.ids, j < (p.L.length + 2 : Nat) := fun j hj => by
    obtain ⟨s, hs, hj⟩ := List.mem_flatMap.1 hj
    refine ((F.sub s ?_).there j hj).2
    rcases List.mem_append.1 hs with hs | hs
    · simp [hs]
    · simp [hs]
  have hsame : ∀ j ∈ (A ++ C).flatMap Sprout.ids, nodeAt p1.L j = nodeAt p.L j := fun j hj => M.other j (hthere j hj) (.inl (hsep j hj))
  have hosep : ∀ j ∈ o.ids, j ∉ (A ++ C).flatMap Sprout.ids := fun j hj q => by
    rcases M.new j hj with e | e
    · exact hsep j q e
    · have := hthere j q; omega
  have htk := kid_len F (t := t) (by simp)
  have hO' := forest_head (ws := []) O t.kid.key htk (hkey _ (F.bd.lo t (by simp)))
  have hri := ((rightL_iff _).1 F.ok).2
  have hhi := F.bd.hi
  unfold Rising at hri
  rw [List.pairwise_map] at hri
  have hlen : ¬ ((A ++ t :: C).map Sprout.kid).length < 2 := by rw [List.length_map]; omega
  rcases List.eq_nil_or_concat A with rfl | ⟨A', a, rfl⟩
  · -- the one behind
    obtain ⟨c, C', rfl⟩ := List.exists_cons_of_ne_nil (l := C) (by intro q; subst q; simp at h2)
    simp only [List.nil_append] at *
    have hcT : Tree p1.L (m + 1) c.kid.page c.low c.items c.ids := (F.sub c (by simp)).keep fun j hj => hsame j (by simp [hj])
    rw [List.pairwise_cons, List.pairwise_cons] at hri hhi
    obtain ⟨ks, us, p2, pages, g1, g2, g3, g4, g5, g6, g7, g8, g9, g10⟩ := join_core p1 m c.kid.page c.low c.items c.ids hcT _ hO' true c.kid.key (kid_len F (by simp)) (F.bd.lo c (by simp)) (fun j hj q => hosep j hj (by simp [q]))
      (by simp only [if_true]; exact ⟨hri.1 c (by simp), fun i hi => hhi.1 c (by simp) i (hit i hi)⟩) hL
    simp only [if_true] at g2 g4 g10
    have hukey : ∀ u ∈ us, ¬ u.kid.key < t.kid.key := g10 _ (List.lt_irrefl _) (List.lt_asymm (hri.1 c (by simp)))
    have hnc : ∀ j ∈ C'.flatMap Sprout.ids, j ≠ c.kid.page ∧ j ∉ c.ids := fun j hj => by
      have nd := F.nd
      rw [List.flatMap_cons, List.flatMap_cons, List.nodup_append, List.nodup_append] at nd
      have : j ∉ c.ids := fun q => nd.2.1.2.2 j q j hj rfl
      exact ⟨fun e => this (e ▸ hcT.self), this⟩
    have hg1 := M.grow
    have hinC : ∀ j ∈ C'.flatMap Sprout.ids, j ∈ (c :: C').flatMap Sprout.ids := fun j hj => by rw [List.flatMap_cons]; exact List.mem_append_right _ hj
    obtain ⟨us', k1, k2, k3, k4, k5, k6⟩ := seg_mid (A := []) (y := t) (ys := [c]) (C := C') (us := us) (by simpa using F) g3
      (fun j hj => (g7.other j (by have := hthere j (hinC j hj); omega) (.inl (by simpa using (hnc j hj).1))).trans (hsame j (hinC j hj)))
      (fun i hi => by
        rw [g4] at hi
        rcases List.mem_append.1 hi with hi | hi
        · simp [hit i hi]
        · simp [hi]) hukey
      (fun j hj q => by
        rcases (g9 j).1 q with q | q | q
        · rcases g7.new j q with q | q
          · exact (hnc j hj).1 (by simpa using q)
          · have := hthere j (hinC j hj); omega
        · exact (hnc j hj).2 q.1
        · exact hosep j q (hinC j hj))
    simp only [List.nil_append] at k2
    refine ⟨us' ++ C', p2, pages, c.kid.page, ?_, k2, ?_, ?_, g7, ?_, fun j => ?_, fun q => ?_, fun b' hb => ?_, ?_⟩
    · unfold joinP
      rw [if_neg hlen]
      simp only [List.length_nil, if_true, List.map_cons, List.getElem?_cons_succ, List.getElem?_cons_zero, Nat.zero_sub]
      rw [loadP_is g1 hd12 hs]
      simp only
      rw [g2]
      simp only [List.map_append, k1]
      rfl
    · rw [List.flatMap_append, k3, g4]; simp
    · intro q
      rw [List.append_eq_nil_iff] at q
      have := q.1
      subst this
      exact g6 (List.length_eq_zero_iff.1 k5.symm)
    · rw [List.flatMap_cons]; exact List.mem_append_left _ hcT.self
    · rw [List.flatMap_append, k4, List.mem_append, g9, List.flatMap_cons, List.mem_append]
      constructor
      · rintro ((q | q | q) | q)
        · exact .inl q
        · exact .inr (.inl ⟨.inl q.1, q.2⟩)
        · exact .inr (.inr q)
        · exact .inr (.inl ⟨.inr q, (hnc j q).1⟩)
      · rintro (q | ⟨q | q, r⟩ | q)
        · exact .inl (.inl q)
        · exact .inl (.inr (.inl ⟨q, r⟩))
        · exact .inr q
        · exact .inl (.inr (.inr q))
    · rw [List.length_append, k5] at q
      omega
    · have := keys_seg (A := []) (y := t) (ys := [c]) (C := C') (by simpa using F) k6 b' (by simpa using hb)
      simpa using this
    · have q4 := size_map _ (k2.less (us := us') (List.sublist_append_left _ _)) rfl
      have q1 := sizeL_app (us'.map Sprout.kid) (C'.map Sprout.kid)
      rw [List.map_cons, List.map_cons, sizeL_cons, sizeL_cons] at hsz
      rw [List.map_append]
      omega
  · -- the one ahead
    rw [List.concat_eq_append] at *
    have hin : ∀ s ∈ A' ++ [a] ++ C, s ∈ A' ++ [a] ++ t :: C := fun s hs => by
      rcases List.mem_append.1 hs with hs | hs
      · exact List.mem_append_left _ hs
      · exact List.mem_append_right _ (List.mem_cons_of_mem _ hs)
    have haT : Tree p1.L (m + 1) a.kid.page a.low a.items a.ids := (F.sub a (by simp)).keep fun j hj => hsame j (by simp [hj])
    rw [List.append_assoc, List.cons_append, List.nil_append, List.pairwise_append, List.pairwise_cons] at hri hhi
    obtain ⟨ks, us, p2, pages, g1, g2, g3, g4, g5, g6, g7, g8, g9, g10⟩ := join_core p1 m a.kid.page a.low a.items a.ids haT _ hO' false [] (by simp) (by simp) (fun j hj q => hosep j hj (by simp [q]))
      (by simp only [Bool.false_eq_true, if_false]; exact fun i hi => hhi.2.1.1 t (by simp) i hi) hL
    simp only [Bool.false_eq_true, if_false] at g2 g4 g10
    have hukey : ∀ u ∈ us, ¬ u.kid.key < a.kid.key := g10 _ (List.lt_asymm (hri.2.1.1 t (by simp))) (F.bd.lo a (by simp))
    have nd := F.nd
    have hnc : ∀ j ∈ (A' ++ C).flatMap Sprout.ids, j ≠ a.kid.page ∧ j ∉ a.ids := fun j hj => by
      have e : A' ++ [a] ++ t :: C = A' ++ a :: (t :: C) := by simp
      rw [e] at nd
      have q := sep_AC nd j (by
        rw [List.flatMap_append, List.mem_append] at hj ⊢
        exact hj.imp id fun q => by rw [List.flatMap_cons]; exact List.mem_append_right _ q)
      exact ⟨fun e => q (e ▸ haT.self), q⟩
    have hg1 := M.grow
    have hinC : ∀ j ∈ (A' ++ C).flatMap Sprout.ids, j ∈ (A' ++ [a] ++ C).flatMap Sprout.ids := fun j hj => by
      rw [List.append_assoc, List.cons_append, List.nil_append, mem_AC]; exact .inr hj
    have e0 : A' ++ [a] ++ t :: C = A' ++ a :: [t] ++ C := by simp
    obtain ⟨us', k1, k2, k3, k4, k5, k6⟩ := seg_mid (A := A') (y := a) (ys := [t]) (C := C) (us := us) (by rw [← e0]; exact F) g3
      (fun j hj => (g7.other j (by have := hthere j (hinC j hj); omega) (.inl (by simpa using (hnc j hj).1))).trans (hsame j (hinC j hj)))
      (fun i hi => by
        rw [g4] at hi
        rcases List.mem_append.1 hi with hi | hi
        · simp [hi]
        · simp [hit i hi]) hukey
      (fun j hj q => by
        rcases (g9 j).1 q with q | q | q
        · rcases g7.new j q with q | q
          · exact (hnc j hj).1 (by simpa using q)
          · have := hthere j (hinC j hj); omega
        · exact (hnc j hj).2 q.1
        · exact hosep j q (hinC j hj))
    have hAl : (A' ++ [a]).length ≠ 0 := by simp
    have hAl1 : (A' ++ [a]).length - 1 = A'.length := by simp
    refine ⟨A' ++ us' ++ C, p2, pages, a.kid.page, ?_, k2, ?_, ?_, g7, ?_, fun j => ?_, fun q => ?_, fun b' hb => ?_, ?_⟩
    · unfold joinP
      rw [if_neg hlen, if_neg hAl, hAl1]
      have q0 : ((A' ++ [a] ++ t :: C).map Sprout.kid)[A'.length]? = some a.kid := by
        rw [List.getElem?_map, List.append_assoc, List.getElem?_append_right (Nat.le_refl _), Nat.sub_self]; rfl
      have q1 : ((A' ++ [a] ++ t :: C).map Sprout.kid).take A'.length = A'.map Sprout.kid := by
        rw [List.append_assoc, List.map_append]
        have := List.take_left (l₁ := A'.map Sprout.kid) (l₂ := ([a] ++ t :: C).map Sprout.kid)
        rwa [List.length_map] at this
      have q2 : ((A' ++ [a] ++ t :: C).map Sprout.kid).drop (A'.length + 2) = C.map Sprout.kid := by
        have := List.drop_left (l₁ := (A' ++ [a, t]).map Sprout.kid) (l₂ := C.map Sprout.kid)
        simpa using this
      rw [q0]
      simp only
      rw [loadP_is g1 hd12 hs]
      simp only
      rw [if_neg hAl, g2, q1, q2]
      simp only [List.map_append, k1]
    · rw [List.flatMap_append, List.flatMap_append, k3, g4]; simp
    · intro q
      rw [List.append_eq_nil_iff, List.append_eq_nil_iff] at q
      have := q.1.2
      subst this
      exact g6 (List.length_eq_zero_iff.1 k5.symm)
    · rw [List.append_assoc, List.cons_append, List.nil_append, mem_AC]; exact .inl haT.self
    · have e : ∀ j, j ∈ (A' ++ [a] ++ C).flatMap Sprout.ids ↔ j ∈ a.ids ∨ j ∈ (A' ++ C).flatMap Sprout.ids := fun j => by rw [List.append_assoc, List.cons_append, List.nil_append, mem_AC]
      rw [e, List.flatMap_append, List.flatMap_append, k4, List.mem_append, List.mem_append, g9, List.flatMap_append, List.mem_append]
      have hnA : j ∈ A'.flatMap Sprout.ids → j ≠ a.kid.page := fun q => (hnc j (by rw [List.flatMap_append]; exact List.mem_append_left _ q)).1
      have hnC : j ∈ C.flatMap Sprout.ids → j ≠ a.kid.page := fun q => (hnc j (by rw [List.flatMap_append]; exact List.mem_append_right _ q)).1
      constructor
      · rintro ((q | q | q | q) | q)
        · exact .inr (.inl ⟨.inr (.inl q), hnA q⟩)
        · exact .inl q
        · exact .inr (.inl ⟨.inl q.1, q.2⟩)
        · exact .inr (.inr q)
        · exact .inr (.inl ⟨.inr (.inr q), hnC q⟩)
      · rintro (q | ⟨q | q | q, r⟩ | q)
        · exact .inl (.inr (.inl q))
        · exact .inl (.inr (.inr (.inl ⟨q, r⟩)))
        · exact .inl (.inl q)
        · exact .inr q
        · exact .inl (.inr (.inr (.inr q)))
    · rw [List.length_append, List.length_append, k5] at q
      have := List.length_pos_iff.2 g6
      omega
    · exact keys_seg (by rw [← e0]; exact F) k6 b' (by rw [← e0]; exact hb)
    · have q4 := size_map _ (k2.less (us := us') (by rw [List.append_assoc]; exact (List.sublist_append_left _ _).trans (List.sublist_append_right _ _))) rfl
      have q1 := sizeL_app (A'.map Sprout.kid ++ us'.map Sprout.kid) (C.map Sprout.kid)
      have q2 := sizeL_app (A'.map Sprout.kid) (us'.map Sprout.kid)
      have q3 := sizeL_app (A'.map Sprout.kid) (a.kid :: t.kid :: C.map Sprout.kid)
      have e : (A' ++ [a] ++ t :: C).map Sprout.kid = A'.map Sprout.kid ++ a.kid :: t.kid :: C.map Sprout.kid := by simp
      rw [e] at hsz
      rw [sizeL_cons a.kid, sizeL_cons t.kid] at q3
      rw [List.map_append, List.map_append]
      have q6 := sizeL_pos (C.map Sprout.kid)
      omega
theorem dropL_ne {l : List Item} {k : Bytes} (h : (dropL l k).2 = false) : (dropL l k).1 = l := by
  unfold dropL at h ⊢
  cases hb : behind l k with
  | nil => rfl
  | cons x r =>
    rw [hb] at h
    simp only at h ⊢
    split
    · rename_i hx
      rw [if_pos hx] at h
      cases h
    · rfl
theorem delP_is (key : Bytes) (n : Nat) : ∀ (p : PSt) (id : Int) (b : Bytes) (l : List Item) (ids : List Int) (depth : Int) (f : Nat), Tree p.L n id b l ids → n < f → depth + n ≤ 12 → p.stop < 0 → p.L.length + 3 + 2 * n ≤ 3998 →
    ((dropL l key).2 = false ∧ delP f p id key depth = (.ok ⟨[], false, false⟩, p)) ∨
    ((dropL l key).2 = true ∧ ∃ ts p' thin, delP f p id key depth = (.ok ⟨ts.map Sprout.kid, thin, true⟩, p') ∧ ts.flatMap Sprout.items = (dropL l key).1 ∧ Moved2 p ids p' (ts.flatMap Sprout.ids) (1 + 2 * n) ∧
      (∀ b' : Bytes, ¬ b < b' → ∀ s ∈ ts, ¬ s.kid.key < b') ∧
      ((thin = false ∧ Forest p'.L n ts ∧ ts.length ≤ 2 ∧ (ts = [] → p'.L.length ≤ p.L.length)) ∨ (thin = true ∧ ∃ m t, n = m + 1 ∧ ts = [t] ∧ Forest p'.L m [t] ∧ p'.L.length + 1 ≤ p.L.length + n))) := by
  induction n with
  | zero =>
    intro p id b l ids depth f h hf hdp hs hL
    obtain ⟨f, rfl⟩ : ∃ g, f = g + 1 := ⟨f - 1, by omega⟩
    cases h with
    | leaf id l h ne ok =>
      have hid := nodeAt_lt h
      have hsub := dropL_sub l key
      have hsz := sizeL_sub hsub
      have ok2 := ok.2.1
      by_cases hfd : (dropL l key).2 = true
      · right
        refine ⟨hfd, ?_⟩
        obtain ⟨ts, p', h1, h2, h3, h4, h5, h6, h7⟩ := leavesP_is p id (dropL l key).1 (rightL_sub ok.1 hsub) (by omega) (by omega) hid.2
        have hc : (cutL (dropL l key).1).length ≤ 1 := by
          by_cases hne : (dropL l key).1 = []
          · rw [hne, cutL_nil]; simp
          · rw [cut_whole _ hne (by omega) (by have := hsub.length_le; have := ok.2.2; omega)]; simp
        refine ⟨ts, p', false, ?_, h3, h5.moved (by omega) _ (by rw [List.length_map]; omega), fun b' hb s hs => ?_, .inl ⟨rfl, h2, by omega, fun q => ?_⟩⟩
        · rw [delP, loadP_is h (by omega) hs]
          simp only
          rw [if_pos hfd, h1]
        · obtain ⟨x, hx, ex⟩ := h6 s hs
          rw [← ex]
          have hx2 : x ∈ (dropL l key).1 := by rw [← h3]; exact List.mem_flatMap.2 ⟨s, hs, hx⟩
          exact not_lt_trans hb (hd_le ((rightL_iff _).1 ok.1).2 x (hsub.subset hx2))
        · subst q
          have := h5.few
          rw [List.length_map, ← h7] at this
          exact this
      · left
        refine ⟨by simpa using hfd, ?_⟩
        rw [delP, loadP_is h (by omega) hs]
        simp only
        rw [if_neg hfd]
  | succ n ih =>
    intro p id b l ids depth f h hf hdp hs hL
    obtain ⟨f, rfl⟩ : ∃ g, f = g + 1 := ⟨f - 1, by omega⟩
    cases h with
    | twig _ _ ts h two ok sub bd nd =>
      have hid := nodeAt_lt h
      have hri := (rightL_iff _).1 ok.1
      rw [List.nodup_cons] at nd
      have F : Forest p.L n ts := ⟨sub, bd, ok.1, nd.2⟩
      obtain ⟨A', x, C', e1, e2, e3, e4⟩ := findK_is hri.2 (by intro q; rw [List.map_eq_nil_iff] at q; subst q; simp at two) key
      obtain ⟨A, r, rfl, rfl, er⟩ := List.map_eq_append_iff.1 e1
      obtain ⟨t, C, rfl, rfl, rfl⟩ := List.map_eq_cons_iff.1 er
      have hsep := sep_AC nd.2
      have hidt : id ∉ t.ids := fun q => nd.1 (List.mem_flatMap.2 ⟨t, by simp, q⟩)
      have hidAC : id ∉ (A ++ C).flatMap Sprout.ids := fun q => nd.1 (mem_AC.2 (.inr q))
      have hthere : ∀ j ∈ id :: (A ++ t :: C).flatMap Sprout.ids, j < (p.L.length + 2 : Nat) := fun j hj => by
        rcases List.mem_cons.1 hj with rfl | hj
        · exact hid.2
        · obtain ⟨s, hs, hj⟩ := List.mem_flatMap.1 hj
          exact ((sub s hs).there j hj).2
      have hC : ∀ c ∈ C, key < c.kid.key := fun c hc => e3 _ (List.mem_map_of_mem hc)
      have hA : A = [] ∨ ¬ key < t.kid.key := e4.imp (fun q => by simpa using q) (fun q => q)
      have hkid : ((A ++ t :: C).map Sprout.kid)[findK ((A ++ t :: C).map Sprout.kid) key]? = some t.kid := by
        rw [e2, List.map_append, List.getElem?_append_right (by simp)]
        simp
      have hfk : findK ((A ++ t :: C).map Sprout.kid) key = A.length := by rw [e2, List.length_map]
      have hdrop := dropL_app (A.flatMap Sprout.items) t.items (C.flatMap Sprout.items) key (fun x hx => by
          obtain ⟨s, hs, hx⟩ := List.mem_flatMap.1 hx
          have hb := bd.hi
          rw [List.pairwise_append] at hb
          have h1 := hb.2.2 s hs t (by simp) x hx
          rcases hA with q | q
          · subst q; cases hs
          · exact lt_of_lt_not h1 q) (fun x hx => by
          obtain ⟨s, hs, hx⟩ := List.mem_flatMap.1 hx
          have h1 := not_lt_trans (bd.lo s (by simp [hs])) ((sub s (by simp [hs])).low_le x hx)
          exact lt_of_lt_not (hC s hs) h1)
      have ewh : (A ++ t :: C).flatMap Sprout.items = A.flatMap Sprout.items ++ t.items ++ C.flatMap Sprout.items := by simp
      rw [ewh]
      have hload : loadP p id depth = (.ok (.twig ((A ++ t :: C).map Sprout.kid)), p) := loadP_is h (by omega) hs
      rcases ih p t.kid.page t.low t.items t.ids (depth + 1) f (sub t (by simp)) (by omega) (by omega) hs (by omega) with ⟨i1, i2⟩ | ⟨i1, w, p1, thin, i2, i3, M, i5, i6⟩
      · left
        refine ⟨by rw [hdrop, i1]; simp, ?_⟩
        rw [delP, hload]
        simp only
        rw [hkid]
        simp only
        rw [i2]
        simp
      · right
        have hfound : dropL (A.flatMap Sprout.items ++ t.items ++ C.flatMap Sprout.items) key = (A.flatMap Sprout.items ++ (dropL t.items key).1 ++ C.flatMap Sprout.items, true) := by rw [hdrop, if_pos i1]
        refine ⟨by rw [hfound], ?_⟩
        have hitw : ∀ i ∈ w.flatMap Sprout.items, i ∈ t.items := fun i hi => (dropL_sub t.items key).subset (by rw [← i3]; exact hi)
        have hs1 : p1.stop < 0 := by rw [M.stop]; exact hs
        have hI : id ∈ id :: (A ++ t :: C).flatMap Sprout.ids := by simp
        have M1 : Moved2 p (id :: (A ++ t :: C).flatMap Sprout.ids) p1 (id :: ((A ++ C).flatMap Sprout.ids ++ w.flatMap Sprout.ids)) (1 + 2 * n) := M.frame (c := id :: (A ++ C).flatMap Sprout.ids) (fun j => by
            rw [List.mem_cons, List.mem_cons, mem_AC]
            constructor
            · rintro (q | q | q)
              · exact .inr (.inl q)
              · exact .inl q
              · exact .inr (.inr q)
            · rintro (q | q | q)
              · exact .inr (.inl q)
              · exact .inl q
              · exact .inr (.inr q)) (fun j => by
            rw [List.mem_cons, List.mem_cons, List.mem_append]
            constructor
            · rintro (q | q | q)
              · exact .inr (.inl q)
              · exact .inr (.inr q)
              · exact .inl q
            · rintro (q | q | q)
              · exact .inr (.inr q)
              · exact .inl q
              · exact .inr (.inl q)) (fun j hj => by
            rcases List.mem_cons.1 hj with rfl | hj
            · exact hidt
            · exact hsep j hj)
        have hidw : id ∉ w.flatMap Sprout.ids := fun q => by
          rcases M.new id q with q | q
          · exact hidt q
          · have := hid.2; omega
        have hwsep : ∀ j ∈ w.flatMap Sprout.ids, j ∉ (A ++ C).flatMap Sprout.ids := fun j hj q => by
          rcases M.new j hj with e | e
          · exact hsep j q e
          · have := hthere j (List.mem_cons_of_mem _ (mem_AC.2 (.inr q))); omega
        have hg1 := M.grow
        have FIN : ∀ (ls : List Sprout) (p2 : PSt) (few : Nat), Forest p2.L n ls → ls.flatMap Sprout.items = A.flatMap Sprout.items ++ (dropL t.items key).1 ++ C.flatMap Sprout.items → ls ≠ [] → sizeL (ls.map Sprout.kid) ≤ 392 →
            Moved2 p (id :: (A ++ t :: C).flatMap Sprout.ids) p2 (id :: ls.flatMap Sprout.ids) few → id ∉ ls.flatMap Sprout.ids → p2.L.length ≤ p.L.length + 1 + 2 * n → (ls.length = 1 → p2.L.length ≤ p.L.length + n) →
            (∀ b' : Bytes, ¬ hd ((A ++ t :: C).map Sprout.kid) < b' → ∀ s ∈ ls, ¬ s.kid.key < b') →
            ∃ ts p' thin, (if (ls.map Sprout.kid).length = 1 then ((.ok ⟨ls.map Sprout.kid, true, true⟩, freeP p2 id) : Res Rest) else match twigsP p2 id (ls.map Sprout.kid) with
                | (.error e, p) => (.error e, p)
                | (.ok w, p) => (.ok ⟨w, false, true⟩, p)) = (.ok ⟨ts.map Sprout.kid, thin, true⟩, p') ∧ ts.flatMap Sprout.items = A.flatMap Sprout.items ++ (dropL t.items key).1 ++ C.flatMap Sprout.items ∧ Moved2 p (id :: (A ++ t :: C).flatMap Sprout.ids) p' (ts.flatMap Sprout.ids) (1 + 2 * (n + 1)) ∧
              (∀ b' : Bytes, ¬ hd ((A ++ t :: C).map Sprout.kid) < b' → ∀ s ∈ ts, ¬ s.kid.key < b') ∧
              ((thin = false ∧ Forest p'.L (n + 1) ts ∧ ts.length ≤ 2 ∧ (ts = [] → p'.L.length ≤ p.L.length)) ∨ (thin = true ∧ ∃ m t, n + 1 = m + 1 ∧ ts = [t] ∧ Forest p'.L m [t] ∧ p'.L.length + 1 ≤ p.L.length + (n + 1))) := by
          intro ls p2 few F2 h2 h3 h4 M2 h6 h7 h8 h9
          by_cases hl : ls.length = 1
          · obtain ⟨s, rfl⟩ := List.length_eq_one_iff.1 hl
            have M3 := M2.andthen (freeP_moved p2 id) hI (by simp) (ids2 := [s].flatMap Sprout.ids) (fun j => by
              constructor
              · exact fun q => .inr ⟨List.mem_cons_of_mem _ q, fun e => h6 (e ▸ q)⟩
              · rintro (q | ⟨q, r⟩)
                · cases q
                · exact (List.mem_cons.1 q).resolve_left r) hthere
            have e8 := h8 hl
            refine ⟨[s], freeP p2 id, true, by rw [if_pos (by simp)], h2, M3.same (fun _ => Iff.rfl) (fun _ => Iff.rfl) (by show p2.L.length ≤ _; omega), h9, .inr ⟨rfl, n, s, rfl, rfl, F2, by show p2.L.length + 1 ≤ _; omega⟩⟩
          · have hpos := List.length_pos_iff.2 h3
            obtain ⟨us, p3, pages, k1, k2, k3, k4, k5, K, k7, k8, k9⟩ := twigsP_is p2 id n ls F2 (by omega) h4 (by omega) (by have := M2.grow; have := hid.2; omega) h6
            have hns : ((cutT (ls.map Sprout.kid)).map Node.twig).length ≤ 2 := by rw [← K.len, k7]; exact k4
            have K2 := K.moved (by omega) 2 hns
            have M3 := M2.andthen K2 hI (by simp) (ids2 := us.flatMap Sprout.ids) (fun j => by
              rw [k8]
              constructor
              · rintro (q | q)
                · exact .inl q
                · exact .inr ⟨List.mem_cons_of_mem _ q, fun e => h6 (e ▸ q)⟩
              · rintro (q | ⟨q, r⟩)
                · exact .inl q
                · exact .inr ((List.mem_cons.1 q).resolve_left r)) hthere
            refine ⟨us, p3, false, ?_, by rw [k3, h2], M3.same (fun _ => Iff.rfl) (fun _ => Iff.rfl) (by have := K2.few; omega), fun b' hb u hu => ?_, .inl ⟨rfl, k2, k4, fun q => absurd q k5⟩⟩
            · rw [if_neg (by rw [List.length_map]; exact hl), k1]
            · obtain ⟨s, hs, es⟩ := k9 u hu
              rw [← es]
              exact h9 b' hb s hs
        rw [delP, hload]
        simp only
        rw [hkid]
        simp only
        rw [i2, hfound]
        simp only [if_true]
        rcases i6 with ⟨rfl, W, hw2, hwe⟩ | ⟨rfl, m, o, rfl, rfl, O, hop⟩
        · obtain ⟨ls, s1, s2, s3, s4, s5, s6, s7⟩ := swap_step F ok.2.1 M W hw2 hitw i5
          rw [hfk, s1]
          simp only [Bool.false_eq_true, if_false]
          rw [i3] at s3
          refine FIN ls p1 (1 + 2 * n) s2 s3 ?_ s7 ?_ ?_ ?_ ?_ s6
          · intro q; subst q; simp only [List.length_nil, List.length_append, List.length_cons] at s5 two; omega
          · refine M1.same (fun _ => Iff.rfl) (fun j => ?_) M.few
            rw [List.mem_cons, List.mem_cons, s4, List.mem_append]
          · intro q
            rcases (s4 id).1 q with q | q
            · exact hidAC q
            · exact hidw q
          · have := M.few; omega
          · intro q
            have : w = [] := List.length_eq_zero_iff.1 (by omega)
            have := hwe this
            omega
        · simp only [List.flatMap_cons, List.flatMap_nil, List.append_nil] at M hitw hidw hwsep i3 M1
          have hO := i5
          obtain ⟨ls, p2, pages, x, s1, s2, s3, s4, g7, s6, s7, s8, s9, s10⟩ := join_step (depth := depth + 1) F two ok.2.1 M O hitw (fun b' hb => i5 b' hb o (by simp)) (by omega) hs1 (by omega)
          rw [hfk]
          simp only [List.map_cons, List.map_nil]
          rw [s1]
          rw [i3] at s3
          have hxI : x ∈ id :: (A ++ t :: C).flatMap Sprout.ids := List.mem_cons_of_mem _ (mem_AC.2 (.inr s6))
          have M2 := M1.andthen g7 hxI (List.mem_cons_of_mem _ (List.mem_append_left _ s6)) (ids2 := id :: ls.flatMap Sprout.ids) (fun j => by
            rw [List.mem_cons, List.mem_cons, s7, List.mem_append]
            constructor
            · rintro (q | q | q | q)
              · exact .inr ⟨.inl q, fun e => hidAC (by rw [← q, e]; exact s6)⟩
              · exact .inl q
              · exact .inr ⟨.inr (.inl q.1), q.2⟩
              · exact .inr ⟨.inr (.inr q), fun e => hwsep j q (e ▸ s6)⟩
            · rintro (q | ⟨q | q | q, r⟩)
              · exact .inr (.inl q)
              · exact .inl q
              · exact .inr (.inr (.inl ⟨q, r⟩))
              · exact .inr (.inr (.inr q))) hthere
          have hg7 := g7.few
          refine FIN ls p2 _ s2 s3 s4 s10 M2 ?_ (by omega) (fun q => ?_) s9
          · intro q
            rcases (s7 id).1 q with q | q | q
            · rcases g7.new id q with q | q
              · exact hidAC (by rw [List.mem_singleton.1 q]; exact s6)
              · have := hid.2; omega
            · exact hidAC q.1
            · exact hidw q
          · have := s8 q; omega
theorem delTree_is (p : PSt) (root : Int) (l : List Item) (ids : List Int) (key : Bytes) (R : Rooted p.L root l ids) (hs : p.stop < 0) (m : Nat) (hm : l.length < 2 ^ m) (hm2 : m ≤ 11) (hL : p.L.length + 4 + 2 * m ≤ 3998) :
    ((dropL l key).2 = false ∧ delTree p root key = (.ok (root, false), p)) ∨
    ((dropL l key).2 = true ∧ ∃ root' p' ids', delTree p root key = (.ok (root', true), p') ∧ Rooted p'.L root' (dropL l key).1 ids' ∧ Moved2 p ids p' ids' (2 + 2 * m)) := by
  unfold delTree
  cases R with
  | none => exact .inl ⟨rfl, by rw [if_pos rfl]⟩
  | some n _ b _ _ h =>
    have hself := h.there _ h.self
    rw [if_neg (by omega)]
    have hmany := h.many
    have hn : n < m := by
      apply Classical.byContradiction
      intro q
      have := Nat.pow_le_pow_right (n := 2) (by omega) (Nat.le_of_not_lt q)
      omega
    rcases delP_is key n p root b l ids 1 13 h (by omega) (by omega) hs (by omega) with ⟨i1, i2⟩ | ⟨i1, ts, p1, thin, i2, i3, M, i5, i6⟩
    · exact .inl ⟨i1, by rw [i2]; simp⟩
    · right
      refine ⟨i1, ?_⟩
      rw [i2]
      simp only [if_true]
      have hg := M.grow
      have hf := M.few
      have fin : ∀ k, Forest p1.L k ts → ts ≠ [] → ts.length ≤ 3 → ∃ root' p' ids', (match topP 20 p1 (ts.map Sprout.kid) with
          | (.error e, p) => (.error e, p)
          | (.ok id, p) => ((.ok (id, true), p) : Res (Int × Bool))) = (.ok (root', true), p') ∧ Rooted p'.L root' (dropL l key).1 ids' ∧ Moved2 p ids p' ids' (2 + 2 * m) := by
        intro k h2 h4 h5
        obtain ⟨root', p', ids', t1, t2, t3, ns, pages, K2, t5, t6⟩ := topP_is p1 k ts h2 h4 h5 (by omega) 20 (by omega)
        have M2 := M.top K2 t6 h.there
        refine ⟨root', p', ids', by rw [t1], by rw [i3] at t2; exact t2, ?_⟩
        refine ⟨M2.new, M2.other, M2.grow, by have := M2.few; omega, M2.gone, M2.twice, M2.mine, M2.bad, M2.stop, M2.all⟩
      rcases i6 with ⟨rfl, W, hw2, hwe⟩ | ⟨rfl, k, o, rfl, rfl, O, hop⟩
      · by_cases hne : ts = []
        · subst hne
          refine ⟨0, p1, [], rfl, ?_, M.same (fun _ => Iff.rfl) (fun _ => Iff.rfl) (by omega)⟩
          rw [← i3]
          exact .none
        · exact fin n W hne (by omega)
      · exact fin k O (by simp) (by simp)
end
end Go.Proofs.YtbhiamcmiopnoaaGreatDoor
