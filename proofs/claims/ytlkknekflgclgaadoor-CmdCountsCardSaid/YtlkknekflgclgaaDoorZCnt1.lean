/- CmdCounts: the sums; a key that can be; the round of the loop in plain terms. Conditions: none. -/
import Derived.Test.YtlkknekflgclgaaDoorZCmd12
import Derived.Test.YtlkknekflgclgaaDoorZArgC
import Derived.Lib.ItoaLen
namespace Go.Proofs.YtlkknekflgclgaaDoor
open Go.RowKit

theorem keyErr_ok {c : UInt8} {k : Bytes} (h : (c :: k).length ≤ 32) (hc : c ≠ 0) : keyErr (c :: k) = 0 := by
  unfold keyErr
  rw [if_neg]
  intro q
  rcases q with q | q | q
  · simp at q
  · omega
  · simp [ownS, Lib.hasPrefix] at q
    exact hc q.symm
/-- What is added up of the first i. -/
def sumM (l : List Int) (i : Nat) : Int := ((l.take i).map fun x => x.tmod 1000000000000).sum
theorem sumM_step {l : List Int} {i : Nat} {x : Int} (h : l[i]? = some x) : sumM l (i + 1) = sumM l i + x.tmod 1000000000000 := by
  unfold sumM
  rw [List.take_add_one, h]
  simp
theorem tmod_small (x : Int) : -1000000000000 < x.tmod 1000000000000 ∧ x.tmod 1000000000000 < 1000000000000 := by
  constructor
  · have := Int.lt_tmod_of_pos x (b := 1000000000000) (by decide)
    omega
  · exact Int.tmod_lt_of_pos x (by decide)
theorem sumM_small (l : List Int) (i : Nat) (hi : i ≤ 41) : -50000000000000 < sumM l i ∧ sumM l i < 50000000000000 := by
  have key : ∀ j : Nat, -((j : Int) * 1000000000000) ≤ sumM l j ∧ sumM l j ≤ (j : Int) * 1000000000000 := by
    intro j
    induction j with
    | zero => simp [sumM]
    | succ j ih =>
      cases h : l[j]? with
      | none =>
        have : sumM l (j + 1) = sumM l j := by
          unfold sumM
          rw [List.take_add_one, h]
          simp
        omega
      | some x =>
        rw [sumM_step h]
        have := tmod_small x
        omega
  have := key i
  omega
/-- The state of the loop's round i: the key has the sum so far, or nothing yet. -/
structure CntAt (w wr : World) (st r a b nt : Nat) (k : Bytes) (l : List Int) (i : Nat) (V : Bytes → Option Bytes) : Prop where
  st : StAt wr st r
  box : BoxAt wr r { newBox a b with V := V, nv := i }
  val : (V k).getD [48] = Lib.itoa (sumM l i)
  tab : Tab nt wr
  only : Only (fun _ => False) w wr
theorem CntAt.still {w wr wr' : World} {st r a b nt : Nat} {k : Bytes} {l : List Int} {i : Nat} {V : Bytes → Option Bytes} (h : CntAt w wr st r a b nt k l i V) (ho : Only (fun _ => False) wr wr') : CntAt w wr' st r a b nt k l i V :=
  ⟨blk_still h.st ho id, h.box.still ho, h.val, h.tab.still ho, h.only.trans ho (fun _ _ q => q.elim)⟩
theorem CntAt.add {w wr : World} {st r a b nt : Nat} {k : Bytes} {l : List Int} {i : Nat} {V : Bytes → Option Bytes} {x : Int} (h : CntAt w wr st r a b nt k l i V) (hx : l[i]? = some x) (hi : i < 40) (hkey : keyErr k = 0) (hk : k.length ≤ 32)
    (h1 : st ≠ a) (h2 : nt ≤ a) (h3 : w.heap.size ≤ a) :
    Calls Tryd.prog 7 #[.pointer (some ⟨st, 0, none⟩), .agg #[.int .i64 3, str [], str k, str (Lib.itoa (x.tmod 1000000000000)), str []]] wr fun e w' => e = .returned (.agg #[.int .i64 0, str (Lib.itoa (sumM l (i + 1)))]) ∧ ∃ V', CntAt w w' st r a b nt k l (i + 1) V' := by
  have hs := sumM_step hx
  have b1 := sumM_small l i (by omega)
  have b2 := tmod_small x
  have hm : maxLen = 9223372036854775807 := by decide
  have l1 := Lib.itoa_length_le (sumM l i) (by omega) (by omega)
  have l2 := Lib.itoa_length_le (x.tmod 1000000000000) (by omega) (by omega)
  have l3 := Lib.itoa_length_le (sumM l i + x.tmod 1000000000000) (by omega) (by omega)
  refine (SAdd_is wr st r nt k (Lib.itoa (x.tmod 1000000000000)) _ (sumM l i) (x.tmod 1000000000000) h.st h1 hkey h.box h.tab h2 (by omega) (by omega) rfl (by show i < maxLen; omega)
    (by show ((V k).getD [48]).length ≤ maxLen; rw [h.val]; omega) (by show numS ((V k).getD [48]) = _; rw [h.val]; exact numS_itoa _ (by omega)) (numS_itoa _ (by omega)) (by omega) (by omega)).mono ?_
  rintro e w' ⟨rfl, hb, ho⟩
  rw [← hs]
  refine ⟨rfl, _, blk_still h.st ho h1, hb, ?_, h.tab.only ho (fun j hj => ?_), (Only.trans (h.only.mono (fun _ _ (q : False) => q.elim)) ho (fun _ _ q => q)).mono (fun j hj q => ?_)⟩
  · show (upM V k _ k).getD [48] = _
    rw [upM, if_pos rfl, hs]; rfl
  · show ¬ j = a
    omega
  · have q : j = a := q
    omega
/-- Behind the loop: the state, its one value. -/
structure EndAt (w W : World) (st r a b : Nat) (V : Bytes → Option Bytes) (n : Nat) : Prop where
  st : StAt W st r
  box : BoxAt W r { newBox a b with V := V, nv := n }
  only : Only (fun _ => False) w W
theorem EndAt.next {w W W' : World} {st r a b : Nat} {V V' : Bytes → Option Bytes} {n n' : Nat} (h : EndAt w W st r a b V n) (hb : BoxAt W' r { newBox a b with V := V', nv := n' }) (ho : Only (fun j => j = a) W W') (h1 : st ≠ a) (h3 : w.heap.size ≤ a) : EndAt w W' st r a b V' n' :=
  ⟨blk_still h.st ho h1, hb, (Only.trans (h.only.mono (fun _ _ (q : False) => q.elim)) ho (fun _ _ q => q)).mono (fun j hj q => by
    have q : j = a := q
    omega)⟩
section
variable {w W : World} {st r a b : Nat} {V : Bytes → Option Bytes} {n : Nat} {k : Bytes} (h : EndAt w W st r a b V n) (h1 : st ≠ a) (h3 : w.heap.size ≤ a) (hkey : keyErr k = 0) (hk : k.length ≤ maxLen)
include h h1 h3 hkey hk
theorem EndAt.put (hn : n < maxLen) : Calls Tryd.prog 7 #[.pointer (some ⟨st, 0, none⟩), .agg #[.int .i64 1, .string ⟨#[]⟩, str k, .string ⟨#[120]⟩, .string ⟨#[]⟩]] W fun e w' => e = .returned (.agg #[.int .i64 0, .string ⟨#[]⟩]) ∧ EndAt w w' st r a b (upM V k [120]) (n + 1) := by
  refine (SPut_is W st r k [120] _ h.st h1 hkey h.box hk rfl (by decide) hn).mono ?_
  rintro e w' ⟨rfl, hb, ho⟩
  exact ⟨rfl, h.next hb ho h1 h3⟩
theorem EndAt.bad (hV : V k = some [120]) : Calls Tryd.prog 7 #[.pointer (some ⟨st, 0, none⟩), .agg #[.int .i64 3, .string ⟨#[]⟩, str k, .string ⟨#[49]⟩, .string ⟨#[]⟩]] W fun e w' => e = .returned (.agg #[.int .i64 24, .string ⟨#[]⟩]) ∧ EndAt w w' st r a b V n := by
  refine (SAddBad_is W st r k [49] [120] _ h.st h1 hkey h.box hk (by decide) rfl hV (by decide) (by decide)).mono ?_
  rintro e w' ⟨rfl, hb, ho⟩
  exact ⟨rfl, h.next hb ho h1 h3⟩
theorem EndAt.other (hV : V k = some [120]) : Calls Tryd.prog 7 #[.pointer (some ⟨st, 0, none⟩), .agg #[.int .i64 4, .string ⟨#[]⟩, str k, .string ⟨#[122]⟩, .string ⟨#[121]⟩]] W fun e w' => e = .returned (.agg #[.int .i64 24, .string ⟨#[120]⟩]) ∧ EndAt w w' st r a b V n := by
  refine (SSwapOther_is W st r k [122] [121] [120] _ h.st h1 hkey h.box hk rfl hV (by decide) (by decide)).mono ?_
  rintro e w' ⟨rfl, hb, ho⟩
  exact ⟨rfl, h.next hb ho h1 h3⟩
theorem EndAt.same (hV : V k = some [120]) (hn : n < maxLen) : Calls Tryd.prog 7 #[.pointer (some ⟨st, 0, none⟩), .agg #[.int .i64 4, .string ⟨#[]⟩, str k, .string ⟨#[122]⟩, .string ⟨#[120]⟩]] W fun e w' => e = .returned (.agg #[.int .i64 0, .string ⟨#[]⟩]) ∧ EndAt w w' st r a b (upM V k [122]) (n + 1) := by
  refine (SSwapSame_is W st r k [122] [120] _ h.st h1 hkey h.box hk rfl hV (by decide) (by decide) hn).mono ?_
  rintro e w' ⟨rfl, hb, ho⟩
  exact ⟨rfl, h.next hb ho h1 h3⟩
theorem EndAt.del (hV : (V k).isSome = true) : Calls Tryd.prog 7 #[.pointer (some ⟨st, 0, none⟩), .agg #[.int .i64 2, .string ⟨#[]⟩, str k, .string ⟨#[]⟩, .string ⟨#[]⟩]] W fun e w' => e = .returned (.agg #[.int .i64 0, .string ⟨#[]⟩]) ∧ EndAt w w' st r a b (offM V k) n := by
  refine (SDelete_is W st r k _ h.st h1 hkey h.box hk rfl).mono ?_
  have he : delErr (V k) = 0 := by unfold delErr; rw [hV]; rfl
  rintro e w' ⟨rfl, hb, ho⟩
  refine ⟨?_, h.next hb ho h1 h3⟩
  show Ending.returned (replyV (delErr (V k)) []) = _
  rw [he]; rfl
theorem EndAt.gone (hV : V k = none) : Calls Tryd.prog 7 #[.pointer (some ⟨st, 0, none⟩), .agg #[.int .i64 4, .string ⟨#[]⟩, str k, .string ⟨#[]⟩, .string ⟨#[122]⟩]] W fun e w' => e = .returned (.agg #[.int .i64 8, .string ⟨#[]⟩]) ∧ EndAt w w' st r a b V n := by
  refine (SSwapNone_is W st r k [] [122] _ h.st h1 hkey h.box hk rfl hV).mono ?_
  rintro e w' ⟨rfl, hb, ho⟩
  exact ⟨rfl, h.next hb ho h1 h3⟩
end
end Go.Proofs.YtlkknekflgclgaaDoor
