/- Package bucket: a path's names, whole. Conditions: one goroutine; the path is no longer than 4 GB; the library's bound MaxLen is some number. -/
import Derived.Test.YtlkknekflgclgaaDoorZPath1
namespace Go.Proofs.YtlkknekflgclgaaDoor
open Go.RowKit Go.MuLone

/-- The library's bound is some number. -/
def MaxAt (w : World) : Prop := ∃ m, w.cell? ⟨0, 0, none⟩ = some (.int .i64 m)
theorem MaxAt.still {w w' : World} (h : MaxAt w) (ho : Only (fun _ => False) w w') : MaxAt w' := by
  obtain ⟨m, hm⟩ := h
  exact ⟨m, (ho.cell (p := ⟨0, 0, none⟩) (lt_of_cell hm) id).trans hm⟩
theorem MaxAt.only {w w' : World} {F : Nat → Prop} (h : MaxAt w) (ho : Only F w w') (hF : ¬ F 0) : MaxAt w' := by
  obtain ⟨m, hm⟩ := h
  exact ⟨m, (ho.cell (p := ⟨0, 0, none⟩) (lt_of_cell hm) hF).trans hm⟩
theorem Clone_is (w : World) (s : Bytes) (hs : s.length ≤ 4294967280) : Calls Tryd.prog 31 #[str s] w fun e w' => e = .returned (str s) ∧ Only (fun _ => False) w w' := by
  have HC : Hid (Calls Tryd.prog 43 #[str s] w fun e w' => e = .returned (str s) ∧ Only (fun _ => False) w w') := Lib.hid ((stringslite_Clone ⟨s.toArray⟩ w (by show s.toArray.size ≤ _; simp; omega)).mono (by
    rintro e w' ⟨he, hb⟩
    exact ⟨he, Only.of_below hb⟩))
  go_enter Tryd.func31, Tryd.ntmps31
  go_wp2_with fail
  (with_reducible refine HC.out.mono ?_)
  rintro e w2 ⟨rfl, o2⟩
  have HO := Lib.hid o2
  clear o2
  go_wp2_with fail
  go_ret
  exact ⟨rfl, HO.out⟩
theorem Contains_is (w : World) (g : Nat) (l : List Bytes) (hl : StrRow w g l) (hn : l.length ≤ 1000000) (hs : ∀ x ∈ l, x.length ≤ maxLen) :
    Calls Tryd.prog 32 #[.slice (some ⟨g, 0, none⟩) l.length l.length, .func (.func 33) #[] #[]] w fun e w' => e = .returned (.bool (l.any (fun x => !wordB x))) ∧ w = w' := by
  have HI := Lib.hid (Index_is w g l hl hn hs)
  go_enter Tryd.func32, Tryd.ntmps32
  go_wp2_with fail
  (with_reducible refine HI.out.mono ?_)
  rintro e _ ⟨r, rfl, hr, rfl⟩
  have HR := Lib.hid hr
  clear hr HI
  go_wp2_with fail
  go_ret
  rw [← HR.out]
  exact ⟨rfl, rfl⟩
/-- May the names be? -/
def pathOk (s : Bytes) : Bool := decide ((partsP s).length ≤ 4) && !(partsP s).any (fun x => !wordB x)
theorem partsP_len : ∀ (s x : Bytes), x ∈ partsP s → x.length ≤ s.length
  | [], x, h => by simp [partsP] at h; subst h; simp
  | c :: r, x, h => by
    unfold partsP at h
    split at h
    · rcases List.mem_cons.1 h with rfl | h
      · simp
      · have := partsP_len r x h; simp; omega
    · split at h
      · rename_i p ps hp
        rcases List.mem_cons.1 h with rfl | h
        · have := partsP_len r p (by rw [hp]; simp); simp; omega
        · have := partsP_len r x (by rw [hp]; simp [h]); simp; omega
      · simp at h; subst h; simp
theorem partsP_many (s : Bytes) : (partsP s).length ≤ s.length + 1 := by
  induction s with
  | nil => simp [partsP]
  | cons c r ih =>
    unfold partsP
    split
    · simp; omega
    · split
      · rename_i p ps hp
        rw [hp] at ih
        simp at ih ⊢
        omega
      · simp
/-- What Path tells. -/
def PathEnds (w : World) (s : Bytes) : Ending → World → Prop := fun e w' =>
  if pathOk s then ∃ g, e = .returned (.tuple #[.slice (some ⟨g, 0, none⟩) (partsP s).length (partsP s).length, .int .i64 0]) ∧ StrRow w' g (partsP s) ∧ w.heap.size ≤ g ∧ Only (fun _ => False) w w'
  else e = .returned (.tuple #[.slice none 0 0, .int .i64 1]) ∧ Only (fun _ => False) w w'
set_option maxRecDepth 100000 in
theorem Path_is (w : World) (s : Bytes) (hs : s ≠ []) (hs2 : s.length < 1000000) (hm : MaxAt w) : Calls Tryd.prog 23 #[str s] w (PathEnds w s) := by
  have hml : maxLen = 9223372036854775807 := by decide
  have HC := Lib.hid (Clone_is w s (by omega))
  have HS : Hid (∀ W, Only (fun _ => False) w W → Calls Tryd.prog 30 #[str s, .string ⟨#[47]⟩] W fun e w' => e = .returned (.slice (some ⟨W.heap.size, 0, none⟩) (partsP s).length (partsP s).length) ∧ w' = W.alloc (.cells ((partsP s).map str).toArray 9)) := Lib.hid (fun W hW => by
    obtain ⟨m, hm2⟩ := hm.still hW
    refine (strings_Split ⟨s.toArray⟩ ⟨#[47]⟩ m W (by show s.toArray.size < _; simp; omega) hm2 (by decide)).mono ?_
    rintro e w' ⟨rfl, rfl⟩
    rw [split_cells]
    have h2 : Lib.countB ⟨s.toArray⟩ ⟨#[47]⟩ + 1 = (partsP s).length := count_parts s
    rw [h2]
    exact ⟨rfl, rfl⟩)
  have HCt : Hid (∀ W g, StrRow W g (partsP s) → Calls Tryd.prog 32 #[.slice (some ⟨g, 0, none⟩) (partsP s).length (partsP s).length, .func (.func 33) #[] #[]] W fun e w' => e = .returned (.bool ((partsP s).any (fun x => !wordB x))) ∧ W = w') := Lib.hid (fun W g h => Contains_is W g (partsP s) h (by have := partsP_many s; omega) (fun x hx => by have := partsP_len s x hx; omega))
  have hne : ((⟨s.toArray⟩ : ByteArray) = ⟨#[]⟩) = False := eq_false (fun q => hs (by
    have := congrArg (fun b : ByteArray => b.data.toList) q
    simpa using this))
  have hsi : s.isEmpty = false := by cases s with | nil => exact absurd rfl hs | cons c r => rfl
  clear hm
  unfold PathEnds pathOk
  generalize hpl : (partsP s).length = n at *
  generalize hb : (partsP s).any (fun x => !wordB x) = b at *
  generalize hnn : decide (n ≤ 4) = nn at *
  go_enter Tryd.func23, Tryd.ntmps23
  go_wp2_with fail
  (with_reducible refine HC.out.mono ?_)
  rintro e w2 ⟨rfl, o2⟩
  have HS2 := Lib.hid (HS.out w2 o2)
  have HO2 := Lib.hid o2
  clear o2 HC HS
  go_wp2_with fail
  (with_reducible refine HS2.out.mono ?_)
  rintro e w3 ⟨rfl, hw3⟩
  have hrow : StrRow w3 w2.heap.size (partsP s) := by rw [hw3]; exact blk_new w2 _
  have ho3 : Only (fun _ => False) w w3 := by rw [hw3]; exact HO2.out.alloc _
  have HR := Lib.hid hrow
  have HO3 := Lib.hid ho3
  have hg := HO2.out.size
  clear hw3 hrow ho3 HS2 HO2
  by_cases hn : n ≤ 4
  · have hn1 : ¬ ((n : Int) > 4) := by omega
    have hn2 : decide ((n : Int) > 4) = false := decide_eq_false hn1
    obtain rfl : true = nn := by rw [← hnn]; exact (decide_eq_true hn).symm
    have HC3 := Lib.hid (HCt.out w3 _ HR.out)
    clear HCt hnn
    go_wp2_with fail
    (with_reducible refine HC3.out.mono ?_)
    rintro e _ ⟨rfl, rfl⟩
    cases b with
    | true =>
      go_wp2_with fail
      go_ret2
      exact ⟨rfl, HO3.out⟩
    | false =>
      go_wp2_with fail
      go_ret2
      exact ⟨_, rfl, HR.out, hg, HO3.out⟩
  · have hn1 : (n : Int) > 4 := by omega
    have hn2 : decide ((n : Int) > 4) = true := decide_eq_true hn1
    obtain rfl : false = nn := by rw [← hnn]; exact (decide_eq_false hn).symm
    clear HCt hnn
    go_wp2_with fail
    go_ret2
    exact ⟨rfl, HO3.out⟩
end Go.Proofs.YtlkknekflgclgaaDoor
