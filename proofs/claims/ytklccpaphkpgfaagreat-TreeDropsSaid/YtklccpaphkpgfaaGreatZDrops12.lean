/- TreeDrops: a tree that is dropped gives all its pages back, each once, and no other one. Conditions: one goroutine; the acts lie in memory. -/
import Derived.Test.YtklccpaphkpgfaaGreatZDrops1
import Derived.Test.YtklccpaphkpgfaaGreatZListsN
import Derived.Test.YtklccpaphkpgfaaGreatZLight12
namespace Go.Proofs.YtklccpaphkpgfaaGreat
open Go.RowKit

/-- How the law ends. -/
def DropsEnds (w : World) : Ending → World → Prop := fun e w' => e = .returned (.bool true) ∧ Only (fun _ => False) w w'
/-- A row of numbers beside the pages. -/
structure Beside12 (wr : World) (b : Nat) (v : Value) (l : List Int) : Prop where
  row : RowC intE 1 wr v l
  apart : ∀ j, rowBlock v = some j → ¬ pown wr b j ∧ j < wr.heap.size
theorem Beside12.step {wr w' : World} {b : Nat} {v : Value} {l : List Int} (h : Beside12 wr b v l) (s : PStep b wr w') : Beside12 w' b v l :=
  ⟨h.row.only s.only fun j hj => (h.apart j hj).1, fun j hj => ⟨fun q => (s.own j q).elim (h.apart j hj).1 fun q => by have := (h.apart j hj).2; omega, Nat.lt_of_lt_of_le (h.apart j hj).2 s.only.size⟩⟩

set_option maxRecDepth 100000 in
set_option maxHeartbeats 40000000 in
theorem Drops12_is (w : World) (v : Value) (l : List Do) (h : RowAt doC 4 w v l) (hn : l.length ≤ 9223372036854775807) (hlen : ∀ x ∈ l, x.item.key.length ≤ 9223372036854775807 ∧ x.item.val.length ≤ 9223372036854775807) :
    Calls Tryz.prog 6 #[v] w (DropsEnds w) := by
  obtain ⟨a, c, rfl⟩ : ∃ a c, v = .slice a l.length c := by cases h with
    | none => exact ⟨_, _, rfl⟩
    | some g off cap => exact ⟨_, _, rfl⟩
  have HL := Lib.hid (Light12_is w _ l h hn hlen)
  have HAL := Lib.hid alive12_is
  have HV := Lib.hid h
  clear h hlen
  go_enter Tryz.func6, Tryz.ntmps6
  go_wp2_with fail
  refine HL.out.mono ?_
  rintro e w1 ⟨bl, rfl, hbl, o1⟩
  have HO1 := Lib.hid o1
  have HBL := Lib.hid hbl
  clear hbl o1
  cases bl with
  | false =>
    go_wp2_with fail
    refine (HAL.out w1).mono ?_
    rintro e w2 ⟨rfl, o2⟩
    go_wp2_with fail
    go_ret
    exact ⟨rfl, HO1.out.trans o2 (fun _ _ q => q)⟩
  | true =>
    have hl250 := HBL.out rfl
    go_wp2_with fail
    refine (HAL.out w1).mono ?_
    rintro e w2 ⟨rfl, o2⟩
    have HO2 := Lib.hid (HO1.out.trans o2 (fun _ _ q => q))
    have HF := Lib.hid (Fresh_is w2)
    clear o2 HAL HO1
    go_wp2_with fail
    refine HF.out.mono ?_
    rintro e w3 ⟨rfl, hp3, o3, hpw3⟩
    have HA0 : Hid (Acts w w3 w2.heap.size noPages 0 [] 0) := Lib.hid ⟨hp3, plays_none, HO2.out.trans o3 (fun _ _ q => q), fun j hj => by have := hpw3 j hj; have := HO2.out.size; omega⟩
    clear hp3 o3 hpw3 HF HO2
    generalize w2.heap.size = b at *
    go_wp2_with fail
    go_loopg [4, 5] l.length (fun gh rt ix wr => ∃ (k : Nat) (S : PSt) (root : Int) (h : List Item), gh + k = l.length ∧ ix = .int .i64 k ∧ rt = .int .i64 root ∧ Acts w wr b S root h k)
    case atStart => exact ⟨0, noPages, 0, [], by omega, rfl, rfl, HA0.out⟩
    case round =>
      obtain ⟨k, S, root, h, hgk, rfl, rfl, hat⟩ := hrel
      have HAT := Lib.hid hat
      clear hat HA0
      by_cases hk : k < l.length
      · as_aux_lemma =>
        have hk2 : (k : Int) < (l.length : Int) := by omega
        have hk3 : (0 : Int) ≤ (k : Int) := by omega
        obtain ⟨x, hx⟩ : ∃ x, l[k]? = some x := ⟨_, List.getElem?_eq_getElem hk⟩
        obtain ⟨g, off, rfl, d0, d1, d2, d3⟩ := row_do (row_only HV.out HAT.out.only (fun _ _ => id)) hx
        have hw1 : IntKind.i64.wrap ((k : Int) + 1) = (k : Int) + 1 := by exact IntWalk.i64_in _ (by omega)
        have hpl := act_plays HAT.out.plays (by omega) x
        have HB := act12_is wr b S root h k x HAT.out.pages HAT.out.plays (by omega)
        unfold ActEnds at HB
        obtain ⟨r, S', hr⟩ : ∃ r S', actP S root x = (r, S') := ⟨_, _, rfl⟩
        rw [hr] at hpl HB
        dsimp only at hpl HB
        have HB := Lib.hid HB
        have HPL := Lib.hid hpl
        clear hx hpl hr
        go_wp2_with fail
        (with_reducible refine HB.out.mono ?_)
        rintro e w4 ⟨rfl, hp4, st4⟩
        have HN := Lib.hid (HAT.out.step st4 hp4 HPL.out)
        clear hp4 st4 HB HPL HAT
        go_wp2_with fail
        go_roundg (gk - 1)
        case measure => omega
        case rel => exact ⟨k + 1, _, _, _, by omega, by go_num, rfl, HN.out⟩
      · have hk2 : ¬ (k : Int) < (l.length : Int) := by omega
        obtain ⟨ids, R, hgv⟩ := HAT.out.plays.rooted
        have hst := HAT.out.plays.stop
        have hbad := HAT.out.plays.bad
        have htw := HAT.out.plays.twice
        have hln := HAT.out.plays.len
        have hidl := R.many
        have hs : S.stop < 0 := by omega
        have hh : h.length < 2 ^ 11 := by omega
        have HI := Lib.hid (tIds_is wr b S root h ids HAT.out.pages R hs hh)
        have HR := Lib.hid (And.intro R (And.intro hs hh))
        have HST := Lib.hid (And.intro hst (And.intro hbad (And.intro htw R.nodup)))
        clear R hgv hst hbad htw hs hh
        unfold IdsTold pagesV at HI
        go_wp2_with fail
        (with_reducible refine HI.out.mono ?_)
        rintro e w4 ⟨v6, rfl, hrow, hap, hp4, st4, _⟩
        have HA4 := Lib.hid (HAT.out.step st4 hp4 HAT.out.plays)
        have HB4 : Hid (Beside12 w4 b v6 (sortI ids)) := Lib.hid ⟨hrow, hap⟩
        obtain ⟨a6, n6, c6, rfl⟩ := capOk_form hrow.cap
        obtain ⟨aG, cG, g2, z2, _, _, _⟩ := hp4.given_cell
        obtain ⟨hpc, stc⟩ := hp4.clear
        have HPC := Lib.hid (And.intro hpc stc)
        clear hrow hap hp4 st4 HI HAT hpc stc
        go_wp2_with fail
        obtain ⟨w5, hw5⟩ : ∃ w5, w4.setCell ⟨b, 2, none⟩ (.slice none 0 0) = w5 := ⟨_, rfl⟩
        rw [hw5] at HPC ⊢
        have HB5 := Lib.hid (HB4.out.step HPC.out.2)
        have HT5 := Lib.hid (PStep.new HA4.out.only HA4.out.fresh HPC.out.2)
        have hidg : (PSt.given { S with given := [] }).length + ids.length < 1000000 := by simp only [List.length_nil]; omega
        have HD := Lib.hid (tDrop_is w5 b { S with given := [] } root h ids HPC.out.1 HR.out.1 HR.out.2.1 HR.out.2.2 hidg)
        have hS := foldl_freeP_is (sortI ids) { S with given := [] }
        have hSg := foldl_freeP_given (sortI ids) { S with given := [] }
        have hSt := foldl_freeP_twice (sortI ids) { S with given := [] } ((sortI_mem ids).nodup_iff.2 HST.out.2.2.2) (fun _ _ q => by cases q)
        have hnl : (sortI ids).length ≤ 1000000 := by rw [sortI_length]; omega
        rw [List.nil_append] at hSg
        have HND := Lib.hid (fun (k : Nat) (id : Int) (h : (sortI ids)[k]? = some id) => sortI_before HST.out.2.2.2 h)
        generalize sortI ids = m at *
        generalize m.foldl freeP { S with given := [] } = S6 at *
        have hb6 : S6.bad = false := hS.1.trans HST.out.2.1
        have ht6 : S6.twice = false := hSt.trans HST.out.2.2.1
        clear hS hSt hw5 g2 z2 HB4 HA4 hidg HPC HST HR hidl hln
        unfold DropTold pagesV at HD
        go_wp2_with fail
        (with_reducible refine HD.out.mono ?_)
        rintro e w6 ⟨rfl, hp6, st6⟩
        have HB6 := Lib.hid (HB5.out.step st6)
        have HT6 := Lib.hid (PStep.new HT5.out.1 HT5.out.2 st6)
        have HP6 := Lib.hid hp6
        have HSG := Lib.hid hSg
        have HNL := Lib.hid hnl
        clear hp6 st6 HD HB5 HT5 hSg hnl
        go_wp2_with fail
        go_loopg [9, 10] m.length (fun gh gv ix wr => ∃ k : Nat, gh + k = m.length ∧ ix = .int .i64 k ∧ RowC intE 1 wr gv (m.take k) ∧ (∀ j, rowBlock gv = some j → w6.heap.size ≤ j ∧ j < wr.heap.size) ∧ Only (fun _ => False) w6 wr)
        case atStart => exact ⟨0, by omega, rfl, ⟨RowAt.none, Nat.le_refl _, Nat.zero_le _⟩, fun j hj => by simp [rowBlock] at hj, Only.refl _ w6⟩
        case round =>
          obtain ⟨k, hgk, rfl, hgv, hfr, ho⟩ := hrel
          have HGV := Lib.hid (And.intro hgv (And.intro hfr ho))
          have hpr := HP6.out.still ho
          obtain ⟨aG, cG, g2, z2, rG, g3, g4⟩ := hpr.given_cell
          rw [HSG.out] at g2 rG
          rw [hb6] at g3
          rw [ht6] at g4
          clear hgv hfr ho hpr
          by_cases hk : k < m.length
          · as_aux_lemma =>
            have hml := HNL.out
            have hk2 : (k : Int) < (m.length : Int) := by omega
            have hk3 : (0 : Int) ≤ (k : Int) := by omega
            obtain ⟨id, hid⟩ : ∃ id, m[k]? = some id := ⟨_, List.getElem?_eq_getElem hk⟩
            obtain ⟨g, off, rfl, d0⟩ := row_int rG hid
            have hw1 : IntKind.i64.wrap ((k : Int) + 1) = (k : Int) + 1 := by exact IntWalk.i64_in _ (by omega)
            have HB := Lib.hid (RPut_is wr _ (m.take k) id HGV.out.1 (HND.out k id hid) (by rw [List.length_take]; have := HNL.out; omega))
            have HNX : Hid (m.take k ++ [id] = m.take (k + 1)) := Lib.hid (by rw [List.take_add_one, hid]; rfl)
            unfold RowIEnds at HB
            clear hid rG hml
            go_wp2_with fail
            (with_reducible refine HB.out.mono ?_)
            rintro e w8 ⟨v', rfl, hr8, o8, hb8⟩
            have HN := Lib.hid (And.intro hr8 (And.intro hb8 o8))
            clear hr8 o8 hb8 HB
            go_wp2_with fail
            go_roundg (gk - 1)
            case measure => omega
            case rel =>
              refine ⟨k + 1, by omega, by go_num, by rw [← HNX.out]; exact HN.out.1, fun j hj => ?_, HGV.out.2.2.trans HN.out.2.2 (fun _ _ q => q)⟩
              have h1 := HN.out.2.1 j hj
              have h2 := HGV.out.2.2.size
              exact ⟨by omega, h1.2⟩
          · obtain rfl : k = m.length := by omega
            have hk2 : ¬ (m.length : Int) < (m.length : Int) := by omega
            have hgv := HGV.out.1
            rw [List.take_length] at hgv
            obtain ⟨a9, n9, c9, rfl⟩ := capOk_form hgv.cap
            obtain ⟨rfl, _⟩ := row_shape hgv.row
            have hids := (row_only HB6.out.row.row HGV.out.2.2 (fun _ _ => id))
            obtain ⟨rfl, _⟩ := row_shape hids
            have HSN := Lib.hid (SameN_is wr _ _ m hgv.row hids HNL.out)
            clear hgv hids rG
            go_wp2_with fail
            (with_reducible refine HSN.out.mono ?_)
            rintro e w9 ⟨rfl, o9⟩
            have HF := Lib.hid (HT6.out.1.trans (HGV.out.2.2.trans o9 (fun _ _ q => q)) (fun _ _ q => q))
            clear o9 HSN
            go_wp2_with fail
            go_ret
            exact ⟨rfl, HF.out⟩
end Go.Proofs.YtklccpaphkpgfaaGreat
