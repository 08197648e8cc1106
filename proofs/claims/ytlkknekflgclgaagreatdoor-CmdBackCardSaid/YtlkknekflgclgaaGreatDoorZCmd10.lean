/- Package cmd: all that stands in a bucket with one value and no bucket within. Conditions: one goroutine. -/
import Derived.Test.YtlkknekflgclgaaGreatDoorZCmd9
import Derived.Test.YtlkknekflgclgaaGreatDoorZMap2
import Derived.Deep.RegionHeld3
namespace Go.Proofs.YtlkknekflgclgaaGreatDoor
open Go.RowKit

/-- The loop over the values: what is still to come, what stands in the answer. -/
structure AllAt (w wr : World) (o it no : Nat) (B : Box) (n v : Bytes) (D : DataW Unit) (left : Lit → Bool) (cnt : Nat) (ph : Bool) : Prop where
  rng : wr.ranges Tryz.prog 9 CS.R B.mv it B.nv D left cnt
  lf : ∀ z, left z = (Go.Maps.has D z && !(ph && z.sameKey (.string n)))
  out : MapSz CS 9 wr o (if ph then no + 2 else no + 1) (if ph then upM (upM (fun _ => none) (nameL [] []) (Lib.itoa B.seq)) (nameL [] n) v else upM (fun _ => none) (nameL [] []) (Lib.itoa B.seq)) (if ph then 2 else 1)
  only : Only (fun j => j = o) w wr
theorem str_inv {key : Value} {kl : Lit} (h : keyOf Tryz.prog 9 key = some kl) : ∃ x, key = str x := by
  cases key <;> simp [keyOf, Tryz.underlying9, mapKey] at h
  rename_i s
  exact ⟨s.data.toList, by simp [str]⟩
theorem cs_inv {v : Value} {y : DataW Unit × List MemPlace} (h : CS.R v = some y) : ∃ c, v = str c := by
  obtain ⟨x, hx, _⟩ := CS.back v y h
  exact ⟨x, hx⟩
theorem key_str {x : Bytes} {kl : Lit} (h : keyOf Tryz.prog 9 (str x) = some kl) : kl = .string x := by
  simp [keyOf, Tryz.underlying9, mapKey] at h
  exact h.2.symm
theorem AllAt.done {w wr : World} {o it no : Nat} {B : Box} {n v : Bytes} {D : DataW Unit} {left : Lit → Bool} {cnt : Nat} {ph : Bool} (h : AllAt w wr o it no B n v D left cnt ph) (hV : ∀ x, B.V x = if x = n then some v else none)
    (hH : ∀ x, Go.Maps.has D (.string x) = (B.V x).isSome) (_hR : ∀ x y zd, B.V x = some y → D.atKey (.string x) zd = CS.code y) (hl : ∀ kl, left kl = false) : ph = true := by
  have h1 := h.lf (.string n)
  rw [hl, hH n, hV n, if_pos rfl] at h1
  cases ph with
  | true => rfl
  | false => simp at h1
theorem AllAt.key {w wr : World} {o it no : Nat} {B : Box} {n v : Bytes} {D : DataW Unit} {left : Lit → Bool} {cnt : Nat} {ph : Bool} (h : AllAt w wr o it no B n v D left cnt ph) (hV : ∀ x, B.V x = if x = n then some v else none)
    (hH : ∀ x, Go.Maps.has D (.string x) = (B.V x).isSome) (hR : ∀ x y zd, B.V x = some y → D.atKey (.string x) zd = CS.code y) {x c : Bytes} {kl : Lit} {y : DataW Unit × List MemPlace} (hkx : keyOf Tryz.prog 9 (str x) = some kl) (hlk : left kl = true) (hRc : CS.R (str c) = some y) (hat : ∀ zd, D.atKey kl zd = y.1) :
    kl = .string n ∧ x = n ∧ c = v ∧ ph = false := by
  obtain rfl := key_str hkx
  have h1 := h.lf (.string x)
  rw [hlk, hH x] at h1
  have hxn : x = n := by
    apply Classical.byContradiction
    intro q
    rw [hV x, if_neg q] at h1
    simp at h1
  subst hxn
  have hph : ph = false := by
    cases ph with
    | false => rfl
    | true => simp [Lit.sameKey] at h1
  have hy := CS.reads c
  have h2 : some y = some (CS.code c, []) := hRc.symm.trans hy
  have h3 := hat (.lit (.string x))
  rw [hR x v _ (by rw [hV x, if_pos rfl]), Option.some.inj h2] at h3
  exact ⟨rfl, rfl, (CS.inj _ _ h3).symm, hph⟩
theorem cp_inv {v : Value} {y : DataW Unit × List MemPlace} (h : CP.R v = some y) : ∃ c, v = ptrV c := by
  obtain ⟨x, hx, _⟩ := CP.back v y h
  exact ⟨x, hx⟩
set_option maxRecDepth 100000 in
set_option maxHeartbeats 4000000 in
theorem ball_is (w : World) (r o no nt : Nat) (B : Box) (n v : Bytes) (hB : BoxAt w r B) (hn : n.length ≤ 65535) (hsq : -9223372036854775808 ≤ B.seq ∧ B.seq ≤ 9223372036854775807) (hV : ∀ x, B.V x = if x = n then some v else none) (hI : ∀ x, B.I x = none) (hT : Tab nt w) (hO : MapSz CS 9 w o no (fun _ => none) 0) (hno : no + 2 < maxLen)
    (d0 : r ≠ o) (d1 : B.mv ≠ o) (d2 : B.mi ≠ o) (_d3 : nt ≤ o) (hne : nameL [] [] ≠ nameL [] n) :
    Calls Tryz.prog 151 #[.pointer (some ⟨r, 0, none⟩), str [], .map (some o)] w fun e w' => e = .returned (.tuple #[]) ∧ MapSz CS 9 w' o (no + 2) (upM (upM (fun _ => none) (nameL [] []) (Lib.itoa B.seq)) (nameL [] n) v) 2 ∧ Only (fun j => j = o) w w' := by
  have HN : Hid (∀ W, Calls Tryz.prog 173 #[str [], str []] W fun e w' => e = .returned (str (nameL [] [])) ∧ Only (fun _ => False) W w') := Lib.hid (fun W => name_is W [] [] (by simp) (by simp))
  have HNm : Hid (∀ W, Calls Tryz.prog 173 #[str [], str n] W fun e w' => e = .returned (str (nameL [] n)) ∧ Only (fun _ => False) W w') := Lib.hid (fun W => name_is W [] n (by simp) hn)
  have HD : Hid (∀ W, Only (fun _ => False) w W → Calls Tryz.prog 169 #[.int .i64 B.seq] W fun e w' => e = .returned (str (Lib.itoa B.seq)) ∧ Only (fun _ => False) W w') := Lib.hid (fun W hW => Digits_is W _ hsq (hT.still hW).is)
  have HP1 : Hid (∀ W, Only (fun _ => False) w W → ∃ W', (Instr.mapUpdate 123 (.map (some o)) (str (nameL [] [])) (str (Lib.itoa B.seq))).run Tryz.prog W = .ok () W' ∧ MapSz CS 9 W' o (no + 1) (upM (fun _ => none) (nameL [] []) (Lib.itoa B.seq)) 1 ∧ Only (fun j => j = o) w W') := Lib.hid (fun W hW => by
    obtain ⟨W', h1, h2, h3⟩ := (hO.only hW id).put (t := 123) (by kernel_rfl) (by kernel_rfl) (nameL [] []) (Lib.itoa B.seq) (by simp [nameL, textL, lowB_length, maxLen]) (by omega)
    exact ⟨W', h1, h2, Only.trans (hW.mono (fun _ _ (q : False) => q.elim)) h3 (fun _ _ q => q)⟩)
  have c0 := hB.cells.1
  have HC : Hid (∀ W, Only (fun _ => False) w W → W.cell? ⟨r, 0, none⟩ = some (.int .i64 B.seq)) := Lib.hid (fun W hW => (hB.still hW).cells.1)
  have HC2 : Hid (∀ W, Only (fun j => j = o) w W → W.cell? ⟨r, 0, none⟩ = some (.int .i64 B.seq)) := Lib.hid (fun W hW => (hB.only hW d0 d1 d2).cells.1)
  have q0 := Only.refl (fun _ => False) w
  have q1 := (Only.refl (fun _ => False) w).drew
  have HB := Lib.hid hB
  have holt0 := hO.is.lt
  clear hB hT hO
  go_enter Tryz.func151, Tryz.ntmps151
  go_wp2_with fail
  go_region_held3 (fun w' => w'.cell? ⟨r, 0, none⟩ = some (.int .i64 B.seq)) (first | exact HC.out _ (by assumption) | exact HC2.out _ (by assumption)) (first | ((with_reducible refine (HN.out _).mono ?_); rintro _ w3 ⟨rfl, o3⟩; have q3 := Only.trans (S := fun _ => False) (by assumption) o3 (fun _ _ q => q); obtain ⟨mf, runf, isf, omf⟩ := HP1.out _ q3) | ((with_reducible refine (HD.out _ (by assumption)).mono ?_); rintro _ w4 ⟨rfl, o4⟩; have q4 := Only.trans (S := fun _ => False) (by assumption) o4 (fun _ _ q => q); obtain ⟨mf, runf, isf, omf⟩ := HP1.out _ q4))
  all_goals (
    have HZ := Lib.hid isf
    have HOm := Lib.hid omf
    have HB2 := Lib.hid (HB.out.only omf d0 d1 d2)
    clear isf omf runf
    have hc := HB2.out.cells.2.1
    obtain ⟨D, hown, hA⟩ := HB2.out.vals
    have HOW := Lib.hid hown
    have HH := Lib.hid (has_of hA)
    have HR : Hid (∀ x y zd, B.V x = some y → D.atKey (.string x) zd = CS.code y) := Lib.hid (fun x y zd h => by rw [hA, h])
    clear hown hA
    go_wp2_with (at_range; refine wpList_range_own _ rfl _ 123 rfl 9 9 (Maps.string_keyed Tryz.underlying9) Tryz.underlying123 CS.R B.mv B.nv D rfl HOW.out ?_; intro w6 hrg6 hg6 hs6; have HRG := Lib.hid (And.intro hrg6 (And.intro hg6 hs6)); clear hrg6 hg6 hs6)
    go_frame
    obtain ⟨it, hit⟩ : ∃ it, mf.heap.size = it := ⟨_, rfl⟩
    rw [hit] at HRG ⊢
    have hitlt : w.heap.size ≤ it := by rw [← hit]; exact HOm.out.size
    have holt : o < w.heap.size := holt0
    have HS0 : Hid (AllAt w w6 o it no B n v D (Go.Maps.has D) (Go.Maps.size D) false) := Lib.hid (by
      have o6 : Only (fun _ => False) mf w6 := (Only.refl (fun _ => False) mf).grown HRG.out.2.1 fun k _ h => by cases h
      exact ⟨HRG.out.1, fun z => by simp, HZ.out.only o6 id, HOm.out.trans o6 (fun _ _ q => q.elim)⟩)
    clear HRG hit HZ HOm HB2 HOW
    go_loopg [6] (Go.Maps.size D) (fun gh kv wr => ∃ left ph, AllAt w wr o it no B n v D left gh ph)
    case atStart => exact ⟨_, _, HS0.out⟩
    case round =>
      obtain ⟨left, ph, hL⟩ := hrel
      have HL := Lib.hid hL
      clear hL
      go_wp2_with (at_next; refine wpList_next_ranges _ rfl _ rfl 9 (Maps.string_keyed Tryz.underlying9) CS.R str str (fun key kl hk => str_inv hk) (fun v y h => cs_inv h) B.mv it B.nv D left gk rfl HL.out.rng ?_ ?_)
      · intro _ hl0
        obtain rfl := HL.out.done hV HH.out HR.out hl0
        have HM := Lib.hid HL.out.out
        have HOr := Lib.hid HL.out.only
        have hB3 := HB.out.only HOr.out d0 d1 d2
        have hc2 := hB3.cells.2.2
        obtain ⟨D2, hown2, hA2⟩ := hB3.ins
        have HOW2 := Lib.hid hown2
        have HH2 : Hid (∀ x, Go.Maps.has D2 (.string x) = false) := Lib.hid (fun x => by rw [has_of hA2 x, hI x]; rfl)
        clear hl0 hB3 hown2 hA2 HL
        go_wp2_with (at_range; refine wpList_range_own _ rfl _ 219 rfl 9 188 (Maps.string_keyed Tryz.underlying9) Tryz.underlying219 CP.R B.mi B.ni D2 rfl HOW2.out ?_; intro w6 hrg6 hg6 hs6; have HRG := Lib.hid (And.intro hrg6 (And.intro hg6 hs6)); clear hrg6 hg6 hs6)
        generalize wr = w0 at *
        have o6 : Only (fun _ => False) w0 w6 := (Only.refl (fun _ => False) w0).grown HRG.out.2.1 fun k _ h => by cases h
        have HF := Lib.hid (And.intro HRG.out.1 (And.intro (HM.out.only o6 id) (HOr.out.trans o6 (fun _ _ (q : False) => q.elim))))
        clear HRG HM HOr o6
        go_loopg [8] 0 (fun _ _ wz => wz = w6)
        case atStart => rfl
        case round =>
          subst hrel
          go_wp2_with (at_next; refine wpList_next_ranges _ rfl _ rfl 9 (Maps.string_keyed Tryz.underlying9) CP.R str ptrV (fun key kl hk => str_inv hk) (fun v y h => cp_inv h) B.mi w0.heap.size B.ni D2 (Go.Maps.has D2) (Go.Maps.size D2) rfl HF.out.1 ?_ ?_)
          · intro _ _
            go_wp2_with fail
            go_end0
            exact ⟨rfl, HF.out.2.1, HF.out.2.2⟩
          · intro x2 c2 kl2 y2 yp2 w7 cnt2 hkx2 hlk2
            rw [key_str hkx2, HH2.out] at hlk2
            cases hlk2
      · intro x c kl y yp w7 cnt' hkx hlk hRc hat hrg hlt hgr hsz hen
        obtain ⟨hkl, hxn, hcv, hph⟩ := HL.out.key hV HH.out HR.out hkx hlk hRc hat
        subst hkl hxn hcv hph
        have o7 : Only (fun j => j = it) wr w7 := (Only.refl (fun j => j = it) wr).grown hgr (fun k _ h => (Option.some.inj h).symm)
        have HO7 : Hid (MapSz CS 9 w7 o (no + 1) (upM (fun _ => none) (nameL [] []) (Lib.itoa B.seq)) 1) := Lib.hid (HL.out.out.only o7 (by omega))
        have HOw7 : Hid (Only (fun j => j = o) w w7) := Lib.hid (HL.out.only.trans o7 (fun i hi q => by omega))
        have HG7 := Lib.hid hrg
        have HLT := Lib.hid hlt
        have HLF := Lib.hid HL.out.lf
        clear o7 hrg hlt hgr HL hkx hlk hRc hat
        go_wp2_with fail
        (with_reducible refine (HNm.out _).mono ?_)
        rintro e w8 ⟨rfl, o8⟩
        obtain ⟨w9, hrun, hm9, ho9⟩ := (HO7.out.only o8 id).put (t := 123) (by kernel_rfl) (by kernel_rfl) (nameL [] x) c (by simp [nameL, textL, lowB_length, maxLen]; omega) (by omega)
        have hz : CS.val c = str c := rfl
        rw [hz] at hrun
        have HE := Lib.hid (And.intro hm9 (And.intro o8 ho9))
        clear hm9 o8 ho9
        go_wp2_with fail
        go_roundg cnt'
        case measure => exact HLT.out
        case rel =>
          obtain ⟨hm9, o8, ho9⟩ := HE.out
          have g8 : w7.grownBy w8 none := (o8.mono (T := fun j => (none : Option Nat) = some j) (fun _ _ (q : False) => q.elim)).grownBy
          have g9 : w8.grownBy w9 (some o) := (ho9.mono (T := fun j => some o = some j) (fun _ _ q => by rw [q])).grownBy
          refine ⟨_, true, (HG7.out.kept g8 (by simp) (by simp)).kept g9 (by simpa using d1) (by simp; omega), fun z => ?_, ?_, (HOw7.out.trans o8 (fun _ _ (q : False) => q.elim)).trans ho9 (fun _ _ q => q)⟩
          · rw [HLF.out z]; simp
          · have hno2 : upM (fun _ => none) (nameL [] []) (Lib.itoa B.seq) (nameL [] x) = none := if_neg (fun q => hne q.symm)
            rw [hno2] at hm9
            exact hm9
      done)
end Go.Proofs.YtlkknekflgclgaaGreatDoor
