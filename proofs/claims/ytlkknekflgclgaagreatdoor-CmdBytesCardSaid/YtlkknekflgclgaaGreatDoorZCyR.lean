/- Replies in plain words; are two lists of them alike; does a number fit in two bytes. Conditions: one goroutine. -/
import Derived.Test.YtlkknekflgclgaaGreatDoorZCq7
namespace Go.Proofs.YtlkknekflgclgaaGreatDoor
open Go.RowKit Go.MuLone

structure Rp where
  err : Int
  val : Bytes
deriving DecidableEq
def rpC (c : Rp) : List Value := [.int .i64 c.err, str c.val]
/-- What stands for an error in a reply's bytes. -/
def errN (e : Int) : Nat := if e < 0 ∨ 65535 < e then 65535 else e.toNat
def rpB (c : Rp) : Bytes := lowB (errN c.err) 2 ++ textL (c.val.take 65535)
def repliesB (l : List Rp) : Bytes := lowB (min l.length 255) 1 ++ (l.take 255).flatMap rpB
theorem rp_neq (x y : Rp) (w : World) : (binOp .neq 68 (.agg #[.int .i64 x.err, .string ⟨x.val.toArray⟩]) (.agg #[.int .i64 y.err, .string ⟨y.val.toArray⟩])).run Tryz.prog w = .ok (.bool (!decide (x = y))) w := by
  have h : x = y ↔ x.err = y.err ∧ x.val = y.val := by cases x; cases y; simp
  simp [go_sem]
  by_cases h1 : x.err = y.err <;> by_cases h2 : x.val = y.val <;> simp [h, h1, h2]
theorem rp_at {w : World} {g off cap n : Nat} {l : List Rp} (h : RowAt rpC 2 w (.slice (some ⟨g, off, none⟩) n cap) l) {k : Nat} {x : Rp} (hx : l[k]? = some x) :
    w.cell? ⟨g, off + k * 2, none⟩ = some (.int .i64 x.err) ∧ w.cell? ⟨g, off + k * 2 + 1, none⟩ = some (str x.val) := by
  cases h with
  | some _ _ _ _ hc => exact ⟨hc k x 0 _ hx rfl, hc k x 1 _ hx rfl⟩
set_option maxRecDepth 100000 in
set_option maxHeartbeats 4000000 in
theorem SameReplies_is (w : World) (l l2 : List Rp) (v u : Value) (hv : RowAt rpC 2 w v l) (hu : RowAt rpC 2 w u l2) (hn : l.length ≤ 9223372036854775807) :
    Calls Tryz.prog 37 #[v, u] w fun e w' => e = .returned (.bool (decide (l = l2))) ∧ Only (fun _ => False) w w' := by
  obtain ⟨a, cap, rfl, ha⟩ := row_len hv
  obtain ⟨a2, cap2, rfl, ha2⟩ := row_len hu
  have HV := Lib.hid hv
  have HU := Lib.hid hu
  have HA := Lib.hid ha
  have HA2 := Lib.hid ha2
  generalize hdd : decide (l = l2) = d at *
  have hd1 : l ≠ l2 → d = false := fun h => by rw [← hdd]; exact decide_eq_false h
  have hd2 : l = l2 → d = true := fun h => by rw [← hdd]; exact decide_eq_true h
  have HD1 := Lib.hid hd1
  have HD2 := Lib.hid hd2
  clear hv hu ha ha2 hdd hd1 hd2
  by_cases h3 : l.length = l2.length
  · rw [← h3] at HU ⊢
    have H3 := Lib.hid h3
    clear h3
    go_enter Tryz.func37, Tryz.ntmps37
    go_wp2_with fail
    go_loopg [5] l.length (fun gh iv wr => ∃ i : Nat, gh + i = l.length ∧ iv = .int .i64 i ∧ Only (fun _ => False) w wr ∧ l.take i = l2.take i)
    case atStart => exact ⟨0, by omega, rfl, Only.refl _ _, rfl⟩
    case round =>
      obtain ⟨i, hgk, rfl, ho, htk⟩ := hrel
      have HOw := Lib.hid ho
      have HTK := Lib.hid htk
      clear ho htk
      by_cases hi : i < l.length
      · obtain ⟨x, hx⟩ : ∃ x, l[i]? = some x := ⟨_, List.getElem?_eq_getElem hi⟩
        obtain ⟨y, hy⟩ : ∃ y, l2[i]? = some y := ⟨_, List.getElem?_eq_getElem (by have := H3.out; omega)⟩
        obtain ⟨g, off, rfl⟩ := HA.out (fun e => by rw [e] at hi; simp at hi)
        obtain ⟨g2, off2, rfl⟩ := HA2.out (fun e => by rw [e] at hy; simp at hy)
        obtain ⟨c0, c1⟩ := rp_at (row_still HV.out HOw.out) hx
        obtain ⟨d0, d1⟩ := rp_at (row_still HU.out HOw.out) hy
        have hi1 : (i : Int) < (l.length : Int) := by omega
        have hi0 : (0 : Int) ≤ (i : Int) := by omega
        have hwi : IntKind.i64.wrap ((i : Int) + 1) = (i : Int) + 1 := IntWalk.i64_in _ (by omega)
        have HX : Hid (l[i]? = some x) := Lib.hid hx
        have HY : Hid (l2[i]? = some y) := Lib.hid hy
        by_cases hxy : x = y
        · subst hxy
          have hne := fun W => rp_neq x x W
          simp only [decide_true, Bool.not_true] at hne
          go_wp2_with fail
          go_region
          all_goals (
            go_wp2_with fail
            go_roundg (gk - 1)
            case measure => omega
            case rel =>
              refine ⟨i + 1, by omega, by go_num, by first | exact HOw.out | exact HOw.out.drew, ?_⟩
              rw [List.take_add_one, List.take_add_one, HX.out, HY.out, HTK.out])
        · have hne := fun W => rp_neq x y W
          rw [decide_eq_false hxy] at hne
          simp only [Bool.not_false] at hne
          obtain rfl := HD1.out (fun q => hxy (by
            have h1 := HX.out
            rw [q, HY.out] at h1
            exact (Option.some.inj h1).symm))
          go_wp2_with fail
          go_region
          all_goals (
            go_wp2_with fail
            go_ret
            exact ⟨rfl, by first | exact HOw.out | exact HOw.out.drew⟩)
      · obtain rfl : i = l.length := by omega
        have hi1 : ¬ ((l.length : Int) < (l.length : Int)) := by omega
        obtain rfl := HD2.out (by
          have h1 := HTK.out
          have h2 := H3.out
          rw [List.take_length] at h1
          rw [h1, h2, List.take_length])
        go_wp2_with fail
        go_ret
        exact ⟨rfl, HOw.out⟩
  · obtain rfl := HD1.out (fun q => h3 (by rw [q]))
    have h4 : ((l.length : Int) != (l2.length : Int)) = true := by
      have : (l.length : Int) ≠ (l2.length : Int) := by omega
      simpa using this
    clear h3
    go_enter Tryz.func37, Tryz.ntmps37
    go_wp2_with fail
    go_ret
    exact ⟨rfl, Only.refl _ _⟩
end Go.Proofs.YtlkknekflgclgaaGreatDoor
