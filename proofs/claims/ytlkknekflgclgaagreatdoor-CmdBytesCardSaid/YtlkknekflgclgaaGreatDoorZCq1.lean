/- Package cmd: may a command be; is there one in a list that can't. Conditions: one goroutine. -/
import Derived.Test.YtlkknekflgclgaaGreatDoorZCqP
import Derived.Test.YtlkknekflgclgaaGreatDoorZRowG
import Derived.Conc.MuLone
import Derived.Deep.LoopGhost
namespace Go.Proofs.YtlkknekflgclgaaGreatDoor
open Go.RowKit Go.MuLone

def cmdV (c : Cq) : Value := .agg (cmdC c).toArray
set_option maxRecDepth 100000 in
set_option maxHeartbeats 1000000 in
theorem CValid_is (c : Cq) (w : World) : Calls Tryz.prog 99 #[cmdV c] w fun e w' => e = .returned (.bool (okC c)) ∧ Only (fun _ => False) w w' := by
  unfold cmdV cmdC
  go_enter Tryz.func99, Tryz.ntmps99
  go_wp2_with fail
  all_goals
    go_ret
    refine ⟨congrArg (fun b => Ending.returned (Value.bool b)) ?_, (Only.refl _ w).alloc _⟩
    unfold okC
    first
    | exact (decide_eq_false (by omega)).symm
    | exact decide_eq_decide.2 (by omega)
    | done
theorem CFn_is (c : Cq) (w : World) : Calls Tryz.prog 98 #[cmdV c] w fun e w' => e = .returned (.bool (!okC c)) ∧ Only (fun _ => False) w w' := by
  have HV : Hid (∀ W, Calls Tryz.prog 99 #[.agg #[.int .i64 c.kind, str c.path, str c.key, str c.val, str c.old]] W fun e w' => e = .returned (.bool (okC c)) ∧ Only (fun _ => False) W w') := Lib.hid (CValid_is c)
  have ho := Lib.hid ((Only.refl (fun _ => False) w).alloc (.cells #[.int .i64 c.kind, str c.path, str c.key, str c.val, str c.old] 119))
  unfold cmdV cmdC
  go_enter Tryz.func98, Tryz.ntmps98
  go_wp2_with fail
  (with_reducible refine (HV.out _).mono ?_)
  rintro e w2 ⟨rfl, o2⟩
  have HO := Lib.hid (ho.out.trans o2 (fun _ _ q => q))
  clear o2
  go_wp2_with fail
  go_ret
  exact ⟨rfl, HO.out⟩
/-- The cells of a row's k-th command. -/
theorem cmd_at {w : World} {g off cap n : Nat} {l : List Cq} (h : RowAt cmdC 5 w (.slice (some ⟨g, off, none⟩) n cap) l) {k : Nat} {x : Cq} (hx : l[k]? = some x) :
    w.cell? ⟨g, off + k * 5, none⟩ = some (.int .i64 x.kind) ∧ w.cell? ⟨g, off + k * 5 + 1, none⟩ = some (str x.path) ∧ w.cell? ⟨g, off + k * 5 + 2, none⟩ = some (str x.key) ∧ w.cell? ⟨g, off + k * 5 + 3, none⟩ = some (str x.val) ∧ w.cell? ⟨g, off + k * 5 + 4, none⟩ = some (str x.old) := by
  cases h with
  | some _ _ _ _ hc => exact ⟨hc k x 0 _ hx rfl, hc k x 1 _ hx rfl, hc k x 2 _ hx rfl, hc k x 3 _ hx rfl, hc k x 4 _ hx rfl⟩
theorem row_len {α : Type} {enc : α → List Value} {k : Nat} {w : World} {v : Value} {l : List α} (h : RowAt enc k w v l) : ∃ a cap, v = .slice a l.length cap ∧ (l ≠ [] → ∃ g off, a = some ⟨g, off, none⟩) := by
  cases h with
  | none => exact ⟨none, 0, rfl, fun q => absurd rfl q⟩
  | some g off cap xs hc => exact ⟨_, _, rfl, fun _ => ⟨g, off, rfl⟩⟩
theorem row_still {α : Type} {enc : α → List Value} {k : Nat} {w w' : World} {v : Value} {l : List α} (h : RowAt enc k w v l) (ho : Only (fun _ => False) w w') : RowAt enc k w' v l := row_only h ho (fun _ _ => id)
def CIndexEnds (w : World) (l : List Cq) : Ending → World → Prop := fun e w' => ∃ r : Int, e = .returned (.int .i64 r) ∧ decide (r ≥ 0) = l.any (fun x => !okC x) ∧ Only (fun _ => False) w w'
set_option maxRecDepth 100000 in
theorem CIndex_is (w : World) (v : Value) (l : List Cq) (hl : RowAt cmdC 5 w v l) (hn : l.length ≤ 9223372036854775807) :
    Calls Tryz.prog 153 #[v, .func (.func 98) #[] #[]] w (CIndexEnds w l) := by
  have hcf : ∀ cap w, (callFunc 98 cap).run Tryz.prog w = .ok (.enter 98 cap) w := fun cap w => run_callFunc_enter Tryz.func98 (by kernel_rfl) rfl cap w
  obtain ⟨a, cap, rfl, ha⟩ := row_len hl
  have HL := Lib.hid hl
  have HA := Lib.hid ha
  clear hl ha
  go_enter Tryz.func153, Tryz.ntmps153
  go_wp2_with fail
  go_loopg [8] l.length (fun gh iv wr => ∃ i : Nat, gh + i = l.length ∧ iv = .int .i64 i ∧ Only (fun _ => False) w wr ∧ ∀ x ∈ l.take i, okC x = true)
  case atStart => exact ⟨0, by omega, rfl, Only.refl _ _, by simp⟩
  case round =>
    obtain ⟨i, hgk, rfl, ho, hall⟩ := hrel
    have HB := Lib.hid hall
    have HO := Lib.hid ho
    clear hall ho
    by_cases hi : i < l.length
    · obtain ⟨x, hx⟩ : ∃ x, l[i]? = some x := ⟨_, List.getElem?_eq_getElem hi⟩
      obtain ⟨g, off, rfl⟩ := HA.out (fun e => by rw [e] at hi; simp at hi)
      obtain ⟨c0, c1, c2, c3, c4⟩ := cmd_at (row_still HL.out HO.out) hx
      have hi1 : (i : Int) < (l.length : Int) := by omega
      have hwi : IntKind.i64.wrap ((i : Int) + 1) = (i : Int) + 1 := IntWalk.i64_in _ (by omega)
      have HF : Hid (Calls Tryz.prog 98 #[.agg #[.int .i64 x.kind, str x.path, str x.key, str x.val, str x.old]] wr fun e w' => e = .returned (.bool (!okC x)) ∧ Only (fun _ => False) wr w') := Lib.hid (CFn_is x wr)
      have HX := Lib.hid hx
      clear hx
      go_wp2_with fail
      (with_reducible refine HF.out.mono ?_)
      rintro e w3 ⟨rfl, o3⟩
      have HO3 := Lib.hid (HO.out.trans o3 (fun _ _ q => q))
      clear o3 c0 c1 c2 c3 c4 HF
      cases hb : okC x with
      | true =>
        go_wp2_with fail
        go_roundg (gk - 1)
        case measure => omega
        case rel =>
          refine ⟨i + 1, by omega, by go_num, HO3.out, fun y hy => ?_⟩
          rw [List.take_add_one, HX.out] at hy
          simp at hy
          rcases hy with hy | rfl
          · exact HB.out y hy
          · exact hb
      | false =>
        go_wp2_with fail
        go_ret
        refine ⟨_, rfl, ?_, HO3.out⟩
        have h1 : l.any (fun x => !okC x) = true := by
          rw [List.any_eq_true]
          exact ⟨x, List.mem_of_getElem? HX.out, by rw [hb]; rfl⟩
        rw [h1]
        exact decide_eq_true (by omega)
    · obtain rfl : i = l.length := by omega
      have hi1 : ¬ ((l.length : Int) < (l.length : Int)) := by omega
      go_wp2_with fail
      go_ret
      refine ⟨_, rfl, ?_, HO.out⟩
      have h1 : l.any (fun x => !okC x) = false := by
        rw [List.any_eq_false]
        intro y hy
        have := HB.out y (by rw [List.take_length]; exact hy)
        rw [this]
        simp
      rw [h1]
      rfl
theorem CContains_is (w : World) (v : Value) (l : List Cq) (hl : RowAt cmdC 5 w v l) (hn : l.length ≤ 9223372036854775807) :
    Calls Tryz.prog 97 #[v, .func (.func 98) #[] #[]] w fun e w' => e = .returned (.bool (l.any (fun x => !okC x))) ∧ Only (fun _ => False) w w' := by
  have HI := Lib.hid (CIndex_is w v l hl hn)
  clear hl
  go_enter Tryz.func97, Tryz.ntmps97
  go_wp2_with fail
  (with_reducible refine HI.out.mono ?_)
  rintro e w2 ⟨r, rfl, hr, ho⟩
  have HR := Lib.hid hr
  have HO := Lib.hid ho
  clear hr HI ho
  go_wp2_with fail
  go_ret
  rw [← HR.out]
  exact ⟨rfl, HO.out⟩
end Go.Proofs.YtlkknekflgclgaaGreatDoor
