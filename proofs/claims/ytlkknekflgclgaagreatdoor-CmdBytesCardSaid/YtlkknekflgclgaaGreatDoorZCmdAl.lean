/- Package cmd: all that stands in a bucket with one value and no bucket within. Conditions: one goroutine. -/
import Derived.Test.YtlkknekflgclgaaGreatDoorZCmd9
import Derived.Test.YtlkknekflgclgaaGreatDoorZMap2
import Derived.Deep.RegionHeld3
import Derived.Deep.RegionWith
namespace Go.Proofs.YtlkknekflgclgaaGreatDoor
open Go.RowKit

/-- The loop over the values: what is still to come, what stands in the answer. -/
structure AllAt (w wr : World) (o it no : Nat) (B : Box) (n v : Bytes) (D : DataW Unit) (left : Lit → Bool) (cnt : Nat) (ph : Bool) : Prop where
  rng : wr.ranges Tryz.prog 9 CS.R B.mv it B.nv D left cnt
  lf : ∀ z, left z = (Go.Maps.has D z && !(ph && z.sameKey (.string n)))
  out : MapSz CS 9 wr o (if ph then no + 2 else no + 1) (if ph then upM (upM (fun _ => none) (nameL [] []) (Lib.itoa B.seq)) (nameL [] n) v else upM (fun _ => none) (nameL [] []) (Lib.itoa B.seq)) (if ph then 2 else 1)
  only : Only (fun j => j = o) w wr
theorem str_inv {key : Value} {kl : Lit} (h : keyOf Tryz.prog 9 key = some kl) : ∃ x, key = str x := by
  cases key <;> simp [keyOf, Tryz.underlying9, mapKey] at h
  rename_i s
  exact ⟨s.data.toList, by simp [str]⟩
theorem cs_inv {v : Value} {y : DataW Unit × List MemPlace} (h : CS.R v = some y) : ∃ c, v = str c := by
  obtain ⟨x, hx, _⟩ := CS.back v y h
  exact ⟨x, hx⟩
theorem key_str {x : Bytes} {kl : Lit} (h : keyOf Tryz.prog 9 (str x) = some kl) : kl = .string x := by
  simp [keyOf, Tryz.underlying9, mapKey] at h
  exact h.2.symm
theorem AllAt.done {w wr : World} {o it no : Nat} {B : Box} {n v : Bytes} {D : DataW Unit} {left : Lit → Bool} {cnt : Nat} {ph : Bool} (h : AllAt w wr o it no B n v D left cnt ph) (hV : ∀ x, B.V x = if x = n then some v else none)
    (hH : ∀ x, Go.Maps.has D (.string x) = (B.V x).isSome) (_hR : ∀ x y zd, B.V x = some y → D.atKey (.string x) zd = CS.code y) (hl : ∀ kl, left kl = false) : ph = true := by
  have h1 := h.lf (.string n)
  rw [hl, hH n, hV n, if_pos rfl] at h1
  cases ph with
  | true => rfl
  | false => simp at h1
theorem AllAt.key {w wr : World} {o it no : Nat} {B : Box} {n v : Bytes} {D : DataW Unit} {left : Lit → Bool} {cnt : Nat} {ph : Bool} (h : AllAt w wr o it no B n v D left cnt ph) (hV : ∀ x, B.V x = if x = n then some v else none)
    (hH : ∀ x, Go.Maps.has D (.string x) = (B.V x).isSome) (hR : ∀ x y zd, B.V x = some y → D.atKey (.string x) zd = CS.code y) {x c : Bytes} {kl : Lit} {y : DataW Unit × List MemPlace} (hkx : keyOf Tryz.prog 9 (str x) = some kl) (hlk : left kl = true) (hRc : CS.R (str c) = some y) (hat : ∀ zd, D.atKey kl zd = y.1) :
    kl = .string n ∧ x = n ∧ c = v ∧ ph = false := by
  obtain rfl := key_str hkx
  have h1 := h.lf (.string x)
  rw [hlk, hH x] at h1
  have hxn : x = n := by
    apply Classical.byContradiction
    intro q
    rw [hV x, if_neg q] at h1
    simp at h1
  subst hxn
  have hph : ph = false := by
    cases ph with
    | false => rfl
    | true => simp [Lit.sameKey] at h1
  have hy := CS.reads c
  have h2 : some y = some (CS.code c, []) := hRc.symm.trans hy
  have h3 := hat (.lit (.string x))
  rw [hR x v _ (by rw [hV x, if_pos rfl]), Option.some.inj h2] at h3
  exact ⟨rfl, rfl, (CS.inj _ _ h3).symm, hph⟩
theorem cp_inv {v : Value} {y : DataW Unit × List MemPlace} (h : CP.R v = some y) : ∃ c, v = ptrV c := by
  obtain ⟨x, hx, _⟩ := CP.back v y h
  exact ⟨x, hx⟩
set_option maxRecDepth 100000 in
set_option maxHeartbeats 4000000 in
theorem ball_is (w : World) (r o no nt : Nat) (B : Box) (n v : Bytes) (hB : BoxAt w r B) (hn : n.length ≤ 65535) (hsq : -9223372036854775808 ≤ B.seq ∧ B.seq ≤ 9223372036854775807) (hV : ∀ x, B.V x = if x = n then some v else none) (hI : ∀ x, B.I x = none) (hT : Tab nt w) (hO : MapSz CS 9 w o no (fun _ => none) 0) (hno : no + 2 < maxLen)
    (d0 : r ≠ o) (d1 : B.mv ≠ o) (d2 : B.mi ≠ o) (_d3 : nt ≤ o) (hne : nameL [] [] ≠ nameL [] n) :
    Calls Tryz.prog 151 #[.pointer (some ⟨r, 0, none⟩), str [], .map (some o)] w fun e w' => e = .returned (.tuple #[]) ∧ MapSz CS 9 w' o (no + 2) (upM (upM (fun _ => none) (nameL [] []) (Lib.itoa B.seq)) (nameL [] n) v) 2 ∧ Only (fun j => j = o) w w' := by
  have HN : Hid (∀ W, Calls Tryz.prog 173 #[str [], str []] W fun e w' => e = .returned (str (nameL [] [])) ∧ Only (fun _ => False) W w') := Lib.hid (fun W => name_is W [] [] (by simp) (by simp))
  have HNm : Hid (∀ W, Calls Tryz.prog 173 #[str [], str n] W fun e w' => e = .returned (str (nameL [] n)) ∧ Only (fun _ => False) W w') := Lib.hid (fun W => name_is W [] n (by simp) hn)
  have HD : Hid (∀ W, Only (fun _ => False) w W → Calls Tryz.prog 169 #[.int .i64 B.seq] W fun e w' => e = .returned (str (Lib.itoa B.seq)) ∧ Only (fun _ => False) W w') := Lib.hid (fun W hW => Digits_is W _ hsq (hT.still hW).is)
  have HP1 : Hid (∀ W, Only (fun _ => False) w W → ∃ W', (Instr.mapUpdate 123 (.map (some o)) (str (nameL [] [])) (str (Lib.itoa B.seq))).run Tryz.prog W = .ok () W' ∧ MapSz CS 9 W' o (no + 1) (upM (fun _ => none) (nameL [] []) (Lib.itoa B.seq)) 1 ∧ Only (fun j => j = o) w W') := Lib.hid (fun W hW => by
    obtain ⟨W', h1, h2, h3⟩ := (hO.only hW id).put (t := 123) (by kernel_rfl) (by kernel_rfl) (nameL [] []) (Lib.itoa B.seq) (by simp [nameL, textL, lowB_length, maxLen]) (by omega)
    exact ⟨W', h1, h2, Only.trans (hW.mono (fun _ _ (q : False) => q.elim)) h3 (fun _ _ q => q)⟩)
  have c0 := hB.cells.1
  have HC : Hid (∀ W, Only (fun _ => False) w W → W.cell? ⟨r, 0, none⟩ = some (.int .i64 B.seq)) := Lib.hid (fun W hW => (hB.still hW).cells.1)
  have HC2 : Hid (∀ W, Only (fun j => j = o) w W → W.cell? ⟨r, 0, none⟩ = some (.int .i64 B.seq)) := Lib.hid (fun W hW => (hB.only hW d0 d1 d2).cells.1)
  have q0 := Only.refl (fun _ => False) w
  have q1 := (Only.refl (fun _ => False) w).drew
  have HB := Lib.hid hB
  have holt0 := hO.is.lt
  clear hB hT hO
  go_enter Tryz.func151, Tryz.ntmps151
  go_wp2_with fail
  go_region_held3 (fun w' => w'.cell? ⟨r, 0, none⟩ = some (.int .i64 B.seq)) (first | exact HC.out _ (by assumption) | exact HC2.out _ (by assumption)) (first | ((with_reducible refine (HN.out _).mono ?_); rintro _ w3 ⟨rfl, o3⟩; have q3 := Only.trans (S := fun _ => False) (by assumption) o3 (fun _ _ q => q); obtain ⟨mf, runf, isf, omf⟩ := HP1.out _ q3) | ((with_reducible refine (HD.out _ (by assumption)).mono ?_); rintro _ w4 ⟨rfl, o4⟩; have q4 := Only.trans (S := fun _ => False) (by assumption) o4 (fun _ _ q => q); obtain ⟨mf, runf, isf, omf⟩ := HP1.out _ q4))
  all_goals (
    have HZ := Lib.hid isf
    have HOm := Lib.hid omf
    have HB2 := Lib.hid (HB.out.only omf d0 d1 d2)
    clear isf omf runf
    have hc := HB2.out.cells.2.1
    obtain ⟨D, hown, hA⟩ := HB2.out.vals
    have HOW := Lib.hid hown
    have HH := Lib.hid (has_of hA)
    have HR : Hid (∀ x y zd, B.V x = some y → D.atKey (.string x) zd = CS.code y) := Lib.hid (fun x y zd h => by rw [hA, h])
    clear hown hA
    go_wp2_with (at_range; refine wpList_range_own _ rfl _ 123 rfl 9 9 (Maps.string_keyed Tryz.underlying9) Tryz.underlying123 CS.R B.mv B.nv D rfl HOW.out ?_; intro w6 hrg6 hg6 hs6; have HRG := Lib.hid (And.intro hrg6 (And.intro hg6 hs6)); clear hrg6 hg6 hs6)
    go_frame
    obtain ⟨it, hit⟩ : ∃ it, mf.heap.size = it := ⟨_, rfl⟩
    rw [hit] at HRG ⊢
    have hitlt : w.heap.size ≤ it := by rw [← hit]; exact HOm.out.size
    have holt : o < w.heap.size := holt0
    have HS0 : Hid (AllAt w w6 o it no B n v D (Go.Maps.has D) (Go.Maps.size D) false) := Lib.hid (by
      have o6 : Only (fun _ => False) mf w6 := (Only.refl (fun _ => False) mf).grown HRG.out.2.1 fun k _ h => by cases h
      exact ⟨HRG.out.1, fun z => by simp, HZ.out.only o6 id, HOm.out.trans o6 (fun _ _ q => q.elim)⟩)
    clear HRG hit HZ HOm HB2 HOW
    go_loopg [6] (Go.Maps.size D) (fun gh kv wr => ∃ left ph, AllAt w wr o it no B n v D left gh ph)
    case atStart => exact ⟨_, _, HS0.out⟩
    case round =>
      obtain ⟨left, ph, hL⟩ := hrel
      have HL := Lib.hid hL
      clear hL
      go_wp2_with (at_next; refine wpList_next_ranges _ rfl _ rfl 9 (Maps.string_keyed Tryz.underlying9) CS.R str str (fun key kl hk => str_inv hk) (fun v y h => cs_inv h) B.mv it B.nv D left gk rfl HL.out.rng ?_ ?_)
      · intro _ hl0
        obtain rfl := HL.out.done hV HH.out HR.out hl0
        have HM := Lib.hid HL.out.out
        have HOr := Lib.hid HL.out.only
        have hB3 := HB.out.only HOr.out d0 d1 d2
        have hc2 := hB3.cells.2.2
        obtain ⟨D2, hown2, hA2⟩ := hB3.ins
        have HOW2 := Lib.hid hown2
        have HH2 : Hid (∀ x, Go.Maps.has D2 (.string x) = false) := Lib.hid (fun x => by rw [has_of hA2 x, hI x]; rfl)
        clear hl0 hB3 hown2 hA2 HL
        go_wp2_with (at_range; refine wpList_range_own _ rfl _ 219 rfl 9 188 (Maps.string_keyed Tryz.underlying9) Tryz.underlying219 CP.R B.mi B.ni D2 rfl HOW2.out ?_; intro w6 hrg6 hg6 hs6; have HRG := Lib.hid (And.intro hrg6 (And.intro hg6 hs6)); clear hrg6 hg6 hs6)
        generalize wr = w0 at *
        have o6 : Only (fun _ => False) w0 w6 := (Only.refl (fun _ => False) w0).grown HRG.out.2.1 fun k _ h => by cases h
        have HF := Lib.hid (And.intro HRG.out.1 (And.intro (HM.out.only o6 id) (HOr.out.trans o6 (fun _ _ (q : False) => q.elim))))
        clear HRG HM HOr o6
        go_loopg [8] 0 (fun _ _ wz => wz = w6)
        case atStart => rfl
        case round =>
          subst hrel
          go_wp2_with (at_next; refine wpList_next_ranges _ rfl _ rfl 9 (Maps.string_keyed Tryz.underlying9) CP.R str ptrV (fun key kl hk => str_inv hk) (fun v y h => cp_inv h) B.mi w0.heap.size B.ni D2 (Go.Maps.has D2) (Go.Maps.size D2) rfl HF.out.1 ?_ ?_)
          · intro _ _
            go_wp2_with fail
            go_end0
            exact ⟨rfl, HF.out.2.1, HF.out.2.2⟩
          · intro x2 c2 kl2 y2 yp2 w7 cnt2 hkx2 hlk2
            rw [key_str hkx2, HH2.out] at hlk2
            cases hlk2
      · intro x c kl y yp w7 cnt' hkx hlk hRc hat hrg hlt hgr hsz hen
        obtain ⟨hkl, hxn, hcv, hph⟩ := HL.out.key hV HH.out HR.out hkx hlk hRc hat
        subst hkl hxn hcv hph
        have o7 : Only (fun j => j = it) wr w7 := (Only.refl (fun j => j = it) wr).grown hgr (fun k _ h => (Option.some.inj h).symm)
        have HO7 : Hid (MapSz CS 9 w7 o (no + 1) (upM (fun _ => none) (nameL [] []) (Lib.itoa B.seq)) 1) := Lib.hid (HL.out.out.only o7 (by omega))
        have HOw7 : Hid (Only (fun j => j = o) w w7) := Lib.hid (HL.out.only.trans o7 (fun i hi q => by omega))
        have HG7 := Lib.hid hrg
        have HLT := Lib.hid hlt
        have HLF := Lib.hid HL.out.lf
        clear o7 hrg hlt hgr HL hkx hlk hRc hat
        go_wp2_with fail
        (with_reducible refine (HNm.out _).mono ?_)
        rintro e w8 ⟨rfl, o8⟩
        obtain ⟨w9, hrun, hm9, ho9⟩ := (HO7.out.only o8 id).put (t := 123) (by kernel_rfl) (by kernel_rfl) (nameL [] x) c (by simp [nameL, textL, lowB_length, maxLen]; omega) (by omega)
        have hz : CS.val c = str c := rfl
        rw [hz] at hrun
        have HE := Lib.hid (And.intro hm9 (And.intro o8 ho9))
        clear hm9 o8 ho9
        go_wp2_with fail
        go_roundg cnt'
        case measure => exact HLT.out
        case rel =>
          obtain ⟨hm9, o8, ho9⟩ := HE.out
          have g8 : w7.grownBy w8 none := (o8.mono (T := fun j => (none : Option Nat) = some j) (fun _ _ (q : False) => q.elim)).grownBy
          have g9 : w8.grownBy w9 (some o) := (ho9.mono (T := fun j => some o = some j) (fun _ _ q => by rw [q])).grownBy
          refine ⟨_, true, (HG7.out.kept g8 (by simp) (by simp)).kept g9 (by simpa using d1) (by simp; omega), fun z => ?_, ?_, (HOw7.out.trans o8 (fun _ _ (q : False) => q.elim)).trans ho9 (fun _ _ q => q)⟩
          · rw [HLF.out z]; simp
          · have hno2 : upM (fun _ => none) (nameL [] []) (Lib.itoa B.seq) (nameL [] x) = none := if_neg (fun q => hne q.symm)
            rw [hno2] at hm9
            exact hm9
      done)
end Go.Proofs.YtlkknekflgclgaaGreatDoor

namespace Go.Proofs.YtlkknekflgclgaaGreatDoor
open Go.RowKit

/-- State.Do at the root, over what do does. -/
theorem SDo_of (w : World) (st r : Nat) (B B' : Box) (kd : Int) (p k v o : Bytes) (E : Int) (V : Bytes) (hst : StAt w st r) (hB : BoxAt w r B) (hmv : B'.mv = B.mv) (hmi : B'.mi = B.mi) (hne : st ≠ B.mv)
    (hD : ∀ W, Only (fun _ => False) w W → Calls Tryz.prog 150 #[groundV r, .agg #[.int .i64 kd, str p, str k, str v, str o]] W fun e w' => e = .returned (replyV E V) ∧ ∃ w2, BoxAt w2 r B' ∧ Only (fun j => j = B.mv) W w2 ∧ Only (fun j => j = W.heap.size + 1) w2 w') :
    Calls Tryz.prog 92 #[.pointer (some ⟨st, 0, none⟩), .agg #[.int .i64 kd, str p, str k, str v, str o]] w fun e w' => e = .returned (replyV E V) ∧ BoxAt w' r B' ∧ Only (fun j => j = B.mv) w w' := by
  refine SDo_is w st r B B' kd p k v o E V hst hB hmv hmi hne (fun W hW => (hD W hW).mono ?_)
  rintro e w' ⟨he, w2, hb, o2, o3⟩
  exact ⟨he, box_replied (hB.still hW) hmv hmi hb o2 o3⟩
theorem SAdd_is (w : World) (st r nt : Nat) (k v : Bytes) (B : Box) (a b : Int) (hst : StAt w st r) (hne : st ≠ B.mv) (hkey : keyErr k = 0) (hB : BoxAt w r B) (hT : Tab nt w) (hnt : nt ≤ B.mv) (hk : k.length ≤ maxLen) (hv : v.length ≤ maxLen) (hI : B.I k = none) (hn : B.nv < maxLen)
    (ho1 : ((B.V k).getD [48]).length ≤ maxLen) (ha : numS ((B.V k).getD [48]) = some a) (hb : numS v = some b) (hab : -(10 ^ 18 : Int) < a + b ∧ a + b < (10 ^ 18 : Int)) (hlen : (Lib.itoa (a + b)).length ≤ 2000) :
    Calls Tryz.prog 92 #[.pointer (some ⟨st, 0, none⟩), .agg #[.int .i64 3, str [], str k, str v, str []]] w fun e w' => e = .returned (replyV 0 (Lib.itoa (a + b))) ∧ BoxAt w' r { B with V := upM B.V k (Lib.itoa (a + b)), nv := B.nv + 1 } ∧ Only (fun j => j = B.mv) w w' := by
  refine SDo_of w st r B _ 3 [] k v [] 0 _ hst hB rfl rfl hne (fun W hW => ?_)
  refine do_add W r k v B 0 _ (fun u => BoxAt u r { B with V := upM B.V k (Lib.itoa (a + b)), nv := B.nv + 1 }) (hB.still hW) hk hkey (fun U hU => ?_)
  exact add_good U r nt k v B a b ((hB.still hW).still hU) ((hT.still hW).still hU) hnt hk hv hI hn ho1 ha hb hab hlen
theorem SAddBad_is (w : World) (st r : Nat) (k v x : Bytes) (B : Box) (hst : StAt w st r) (hne : st ≠ B.mv) (hkey : keyErr k = 0) (hB : BoxAt w r B) (hk : k.length ≤ maxLen) (hv : v.length ≤ maxLen) (hI : B.I k = none) (hV : B.V k = some x) (hx : x.length ≤ maxLen) (ha : numS x = none) :
    Calls Tryz.prog 92 #[.pointer (some ⟨st, 0, none⟩), .agg #[.int .i64 3, str [], str k, str v, str []]] w fun e w' => e = .returned (replyV 24 []) ∧ BoxAt w' r B ∧ Only (fun j => j = B.mv) w w' := by
  refine SDo_of w st r B B 3 [] k v [] 24 [] hst hB rfl rfl hne (fun W hW => ?_)
  refine do_add W r k v B 24 [] (fun u => BoxAt u r B) (hB.still hW) hk hkey (fun U hU => ?_)
  refine (add_bad U r k v x B ((hB.still hW).still hU) hk hv hI hV hx ha).mono ?_
  rintro e w' ⟨he, o2⟩
  exact ⟨he, ((hB.still hW).still hU).still o2, o2.mono (fun _ _ (q : False) => q.elim)⟩
theorem SSwapNone_is (w : World) (st r : Nat) (k v o : Bytes) (B : Box) (hst : StAt w st r) (hne : st ≠ B.mv) (hkey : keyErr k = 0) (hB : BoxAt w r B) (hk : k.length ≤ maxLen) (hI : B.I k = none) (hV : B.V k = none) :
    Calls Tryz.prog 92 #[.pointer (some ⟨st, 0, none⟩), .agg #[.int .i64 4, str [], str k, str v, str o]] w fun e w' => e = .returned (replyV 8 []) ∧ BoxAt w' r B ∧ Only (fun j => j = B.mv) w w' := by
  refine SDo_of w st r B B 4 [] k v o 8 [] hst hB rfl rfl hne (fun W hW => ?_)
  refine do_swap W r k v o B 8 [] (fun u => BoxAt u r B) (hB.still hW) hk hkey (fun U hU => ?_)
  refine (swap_none U r k v o B ((hB.still hW).still hU) hk hI hV).mono ?_
  rintro e w' ⟨he, o2⟩
  exact ⟨he, ((hB.still hW).still hU).still o2, o2.mono (fun _ _ (q : False) => q.elim)⟩
theorem SSwapOther_is (w : World) (st r : Nat) (k v o x : Bytes) (B : Box) (hst : StAt w st r) (hne : st ≠ B.mv) (hkey : keyErr k = 0) (hB : BoxAt w r B) (hk : k.length ≤ maxLen) (hI : B.I k = none) (hV : B.V k = some x) (hx : x.length ≤ 200) (ho : x ≠ o) :
    Calls Tryz.prog 92 #[.pointer (some ⟨st, 0, none⟩), .agg #[.int .i64 4, str [], str k, str v, str o]] w fun e w' => e = .returned (replyV 24 x) ∧ BoxAt w' r B ∧ Only (fun j => j = B.mv) w w' := by
  refine SDo_of w st r B B 4 [] k v o 24 x hst hB rfl rfl hne (fun W hW => ?_)
  refine do_swap W r k v o B 24 x (fun u => BoxAt u r B) (hB.still hW) hk hkey (fun U hU => ?_)
  refine (swap_other U r k v o x B ((hB.still hW).still hU) hk hI hV hx ho).mono ?_
  rintro e w' ⟨he, o2⟩
  exact ⟨he, ((hB.still hW).still hU).still o2, o2.mono (fun _ _ (q : False) => q.elim)⟩
theorem SSwapSame_is (w : World) (st r : Nat) (k v o : Bytes) (B : Box) (hst : StAt w st r) (hne : st ≠ B.mv) (hkey : keyErr k = 0) (hB : BoxAt w r B) (hk : k.length ≤ maxLen) (hI : B.I k = none) (hV : B.V k = some o) (ho : o.length ≤ maxLen) (hv : v.length ≤ 2000) (hn : B.nv < maxLen) :
    Calls Tryz.prog 92 #[.pointer (some ⟨st, 0, none⟩), .agg #[.int .i64 4, str [], str k, str v, str o]] w fun e w' => e = .returned (replyV 0 []) ∧ BoxAt w' r { B with V := upM B.V k v, nv := B.nv + 1 } ∧ Only (fun j => j = B.mv) w w' := by
  refine SDo_of w st r B _ 4 [] k v o 0 [] hst hB rfl rfl hne (fun W hW => ?_)
  refine do_swap W r k v o B 0 [] (fun u => BoxAt u r { B with V := upM B.V k v, nv := B.nv + 1 }) (hB.still hW) hk hkey (fun U hU => ?_)
  exact swap_same U r k v o B ((hB.still hW).still hU) hk hI hV ho hv hn
theorem SPut_is (w : World) (st r : Nat) (k v : Bytes) (B : Box) (hst : StAt w st r) (hne : st ≠ B.mv) (hkey : keyErr k = 0) (hB : BoxAt w r B) (hk : k.length ≤ maxLen) (hI : B.I k = none) (hv : v.length ≤ 2000) (hn : B.nv < maxLen) :
    Calls Tryz.prog 92 #[.pointer (some ⟨st, 0, none⟩), .agg #[.int .i64 1, str [], str k, str v, str []]] w fun e w' => e = .returned (replyV 0 []) ∧ BoxAt w' r { B with V := upM B.V k v, nv := B.nv + 1 } ∧ Only (fun j => j = B.mv) w w' := by
  refine SDo_of w st r B _ 1 [] k v [] 0 [] hst hB rfl rfl hne (fun W hW => ?_)
  refine do_put W r k v B 0 (fun u => BoxAt u r { B with V := upM B.V k v, nv := B.nv + 1 }) (hB.still hW) hk hkey (fun U hU => ?_)
  exact Put_is U r r [] k v B (finds_root _ r) ((hB.still hW).still hU) hk hI hv hn
theorem SDelete_is (w : World) (st r : Nat) (k : Bytes) (B : Box) (hst : StAt w st r) (hne : st ≠ B.mv) (hkey : keyErr k = 0) (hB : BoxAt w r B) (hk : k.length ≤ maxLen) (hI : B.I k = none) :
    Calls Tryz.prog 92 #[.pointer (some ⟨st, 0, none⟩), .agg #[.int .i64 2, str [], str k, str [], str []]] w fun e w' => e = .returned (replyV (delErr (B.V k)) []) ∧ BoxAt w' r { B with V := offM B.V k } ∧ Only (fun j => j = B.mv) w w' := by
  refine SDo_of w st r B _ 2 [] k [] [] _ [] hst hB rfl rfl hne (fun W hW => ?_)
  refine do_delete W r k B _ (fun u => BoxAt u r { B with V := offM B.V k }) (hB.still hW) hk hkey (fun U hU => ?_)
  exact Delete_is U r r [] k B (finds_root _ r) ((hB.still hW).still hU) hk hI
set_option maxRecDepth 100000 in
theorem All_is (w : World) (st r nt : Nat) (B : Box) (n v : Bytes) (hst : StAt w st r) (hB : BoxAt w r B) (hn : n.length ≤ 65535) (hsq : -9223372036854775808 ≤ B.seq ∧ B.seq ≤ 9223372036854775807) (hV : ∀ x, B.V x = if x = n then some v else none) (hI : ∀ x, B.I x = none) (hT : Tab nt w) (hnt : nt ≤ w.heap.size) (hne : nameL [] [] ≠ nameL [] n) :
    Calls Tryz.prog 93 #[.pointer (some ⟨st, 0, none⟩)] w fun e w' => ∃ o, e = .returned (.map (some o)) ∧ MapSz CS 9 w' o 2 (upM (upM (fun _ => none) (nameL [] []) (Lib.itoa B.seq)) (nameL [] n) v) 2 ∧ Only (fun _ => False) w w' := by
  have hr1 := fun (W : World) => run_makeMap (P := Tryz.prog) 123 W
  have o1 := (Only.refl (fun _ => False) w).alloc (.map #[] 0)
  have l1 := hB.lt
  have l2 := hB.vals.lt
  have l3 := hB.ins.lt
  have HB := Lib.hid (ball_is (w.alloc (.map #[] 0)) r w.heap.size 0 nt B n v (hB.still o1) hn hsq hV hI (hT.still o1) (MapSz.made CS 9 w) (by decide) (by omega) (by omega) (by omega) hnt hne)
  have c0 : (w.alloc (.map #[] 0)).cell? ⟨st, 0, none⟩ = some (.pointer (some ⟨r, 0, none⟩)) := blk_cell ((o1.block st (blk_lt hst) id).trans hst) 0
  have HO := Lib.hid o1
  clear hV hB hT hst o1 hI
  go_enter Tryz.func93, Tryz.ntmps93
  go_wp2_with fail
  (with_reducible refine HB.out.mono ?_)
  rintro _ w2 ⟨rfl, hm, o2⟩
  have HM := Lib.hid hm
  have H2 := Lib.hid o2
  clear hm o2
  go_wp2_with fail
  go_ret
  exact ⟨_, rfl, HM.out, (Only.trans (HO.out.mono (T := fun j => j = w.heap.size) (fun _ _ (q : False) => q.elim)) H2.out (fun _ _ q => q)).mono (fun i hi q => by omega)⟩
end Go.Proofs.YtlkknekflgclgaaGreatDoor

namespace Go.Proofs.YtlkknekflgclgaaGreatDoor
open Go.RowKit

theorem blk_still {w w' : World} {b : Nat} {o : Obj} (h : w.heap[b]? = some o) {F : Nat → Prop} (ho : Only F w w') (hF : ¬ F b) : w'.heap[b]? = some o := (ho.block b (blk_lt h) hF).trans h
theorem itoa5 : Lib.itoa (0 + 5) = [53] := by kernel_rfl
theorem itoa2 : Lib.itoa (5 + -7) = [45, 50] := by kernel_rfl
theorem name_ne : nameL [] [] ≠ nameL [] [110] := by decide
theorem itoa0 : Lib.itoa 0 = [48] := by kernel_rfl
set_option maxRecDepth 100000 in
set_option maxHeartbeats 4000000 in
theorem alive_is (w : World) (nt : Nat) (hT : Tab nt w) (hnt : nt ≤ w.heap.size) :
    Calls Tryz.prog 17 #[] w fun e w' => e = .returned (.bool true) ∧ Only (fun _ => False) w w' := by
  have HN := Lib.hid (New_is w)
  have HT := Lib.hid hT
  clear hT
  go_enter Tryz.func17, Tryz.ntmps17
  go_wp2_with fail
  (with_reducible refine HN.out.mono ?_)
  rintro _ w2 ⟨st, r, a, b, rfl, hst, hB, ho, h1, h2, h3, h4, h5, h6, h7⟩
  have HT2 := Lib.hid (HT.out.still ho)
  have HA : Hid (Calls Tryz.prog 92 #[.pointer (some ⟨st, 0, none⟩), .agg #[.int .i64 3, .string ⟨#[]⟩, .string ⟨#[110]⟩, .string ⟨#[53]⟩, .string ⟨#[]⟩]] w2 fun e w' => e = .returned (.agg #[.int .i64 0, .string ⟨#[53]⟩]) ∧ BoxAt w' r { newBox a b with V := upM (fun _ => none) [110] [53], nv := 1 } ∧ Only (fun j => j = a) w2 w') := Lib.hid (by
    have h := SAdd_is w2 st r nt [110] [53] (newBox a b) 0 5 hst (by exact h5) (by decide) hB HT2.out (by show nt ≤ a; omega) (by decide) (by decide) rfl (by show 0 < maxLen; decide) (by show ([48] : Bytes).length ≤ maxLen; decide) (by show numS [48] = some 0; decide) (by decide) (by decide) (by rw [itoa5]; decide)
    rw [itoa5] at h
    exact h)
  have HO := Lib.hid ho
  have HST := Lib.hid hst
  have l1 := blk_lt hst
  have l2 := hB.lt
  have l3 : a < w2.heap.size := hB.vals.lt
  clear HN HT hst hB ho
  go_wp2_with fail
  (with_reducible refine HA.out.mono ?_)
  rintro _ w3 ⟨rfl, hb, o3⟩
  have oa := (Only.refl (fun _ => False) w3).alloc (.cells #[.int .i64 0, .string ⟨#[53]⟩] 68)
  have na := blk_new w3 (.cells #[.int .i64 0, .string ⟨#[53]⟩] 68)
  have O3 := Lib.hid o3
  have HT3 := Lib.hid ((HT2.out.only o3 (fun j hj => by omega)).still oa)
  have HST3 := Lib.hid (blk_still (blk_still HST.out o3 h5) oa id)
  have h32 := o3.size
  have HA2 : Hid (Calls Tryz.prog 92 #[.pointer (some ⟨st, 0, none⟩), .agg #[.int .i64 3, .string ⟨#[]⟩, .string ⟨#[110]⟩, .string ⟨#[45, 55]⟩, .string ⟨#[]⟩]] (w3.alloc (.cells #[.int .i64 0, .string ⟨#[53]⟩] 68)) fun e w' => e = .returned (.agg #[.int .i64 0, .string ⟨#[45, 50]⟩]) ∧ BoxAt w' r { newBox a b with V := upM (upM (fun _ => none) [110] [53]) [110] [45, 50], nv := 2 } ∧ Only (fun j => j = a) (w3.alloc (.cells #[.int .i64 0, .string ⟨#[53]⟩] 68)) w') := Lib.hid (by
    have h := SAdd_is _ st r nt [110] [45, 55] _ 5 (-7) HST3.out (by exact h5) (by decide) (hb.still oa) HT3.out (by show nt ≤ a; omega) (by decide) (by decide) rfl (by show 1 < maxLen; decide) (by show ([53] : Bytes).length ≤ maxLen; decide) (by show numS [53] = some 5; decide) (by decide) (by decide) (by rw [itoa2]; decide)
    rw [itoa2] at h
    exact h)
  have OA := Lib.hid oa
  have NA := Lib.hid na
  clear HA hb o3 oa na HT2 HST
  generalize hwa : w3.alloc (.cells #[.int .i64 0, .string ⟨#[53]⟩] 68) = wa at *
  go_wp2_with fail
  (with_reducible refine HA2.out.mono ?_)
  rintro _ w4 ⟨rfl, hb, o4⟩
  have ob := (Only.refl (fun _ => False) w4).alloc (.cells #[.int .i64 0, .string ⟨#[45, 50]⟩] 68)
  have HNB := Lib.hid (blk_new w4 (.cells #[.int .i64 0, .string ⟨#[45, 50]⟩] 68))
  have HT4 := Lib.hid ((HT3.out.only o4 (fun j hj => by omega)).still ob)
  have HST4 := Lib.hid (blk_still (blk_still HST3.out o4 h5) ob id)
  have HNA4 := Lib.hid (blk_still (blk_still NA.out o4 (by omega)) ob id)
  have HOb : Hid (Only (fun _ => False) w (w4.alloc (.cells #[.int .i64 0, .string ⟨#[45, 50]⟩] 68))) := Lib.hid (by
    have q1 := Only.trans (S := fun j => j = a) (HO.out.mono (fun _ _ (q : False) => q.elim)) O3.out (fun _ _ q => q)
    have q2 := q1.trans OA.out (fun _ _ (q : False) => q.elim)
    have q3 := q2.trans o4 (fun _ _ q => q)
    exact (q3.trans ob (fun _ _ (q : False) => q.elim)).mono (fun i hi q => by omega))
  have h42 := o4.size
  have h43 := OA.out.size
  have HA3 := Lib.hid (All_is _ st r nt _ [110] [45, 50] HST4.out (hb.still ob) (by decide) ⟨by show (-9223372036854775808 : Int) ≤ 0; decide, by show (0 : Int) ≤ _; decide⟩ (fun x => by show upM (upM (fun _ => none) [110] [53]) [110] [45, 50] x = _; unfold upM; split <;> rfl) (fun _ => rfl) HT4.out (by have := ob.size; omega) name_ne)
  clear HA2 hb o4 ob
  generalize hwb : w4.alloc (.cells #[.int .i64 0, .string ⟨#[45, 50]⟩] 68) = wb at *
  go_wp2_with fail
  (with_reducible refine HA3.out.mono ?_)
  rintro _ w5 ⟨o, rfl, hm, o5⟩
  have HM := Lib.hid hm
  have HO5 := Lib.hid (HOb.out.trans o5 (fun _ _ (q : False) => q.elim))
  have NA5 := blk_still HNA4.out o5 id
  have NB5 := blk_still HNB.out o5 id
  have c0 := blk_cell NA5 0
  have c1 := blk_cell NA5 1
  have e0 := blk_cell NB5 0
  have e1 := blk_cell NB5 1
  simp only [List.getElem?_toArray, List.getElem?_cons_zero, List.getElem?_cons_succ] at c0 c1 e0 e1
  have HNm : Hid (∀ W, Calls Tryz.prog 94 #[.string ⟨#[]⟩, .string ⟨#[110]⟩] W fun e w' => e = .returned (str (nameL [] [110])) ∧ Only (fun _ => False) W w') := Lib.hid (fun W => RName_is W [] [110] (by decide) (by decide))
  have HLk : Hid (∀ W, Only (fun _ => False) w5 W → (Instr.lookup 123 (.map (some o)) (str (nameL [] [110])) false).run Tryz.prog W = .ok (.string ⟨#[45, 50]⟩) W) := Lib.hid (fun W hW => by
    have h := (HM.out.only hW id).is.look (t := 123) (by kernel_rfl) (by kernel_rfl) false (nameL [] [110]) (by decide)
    have h2 : upM (upM (fun _ => none) (nameL [] []) (Lib.itoa (newBox a b).seq)) (nameL [] [110]) [45, 50] (nameL [] [110]) = some [45, 50] := if_pos rfl
    rw [h2] at h
    exact h)
  have hlen := HM.out.len (t := 123) (by kernel_rfl) 3
  clear hm o5 NA5 NB5 HT3 HT4 HST3 HST4 HNA4 HA3 hwa hwb
  go_wp2_with fail
  (with_reducible refine (HNm.out _).mono ?_)
  rintro _ w6 ⟨rfl, o6⟩
  have hlk := HLk.out w6 o6
  have HO6 := Lib.hid (HO5.out.trans o6 (fun _ _ q => q))
  clear o6 hlen c0 c1 e0 e1
  generalize hnm : str (nameL [] [110]) = nm at *
  go_wp2_with fail
  go_ret
  exact ⟨rfl, HO6.out⟩
end Go.Proofs.YtlkknekflgclgaaGreatDoor
