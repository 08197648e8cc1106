/- Package bucket over the law's pages: all pages of a bucket and of those within it. Conditions: one goroutine; the pages hold the buckets. (Printed by wip/gen/bu17.py.) -/
import Derived.Test.YtbhiamcmiopnoaaGreatDoorZBuG
import Derived.Test.YtbhiamcmiopnoaaGreatDoorZIds
import Derived.Test.YtbhiamcmiopnoaaGreatDoorZItems
import Derived.Test.YtbhiamcmiopnoaaGreatDoorZBkS
import Derived.Test.YtbhiamcmiopnoaaGreatDoorZShelI
namespace Go.Proofs.YtbhiamcmiopnoaaGreatDoor
section
open Go.RowKit Go.MuLone
def PagesEnds (w : World) (b : Nat) (S : PSt) (R : Path → Option Rec) (p : Path) : Ending → World → Prop := fun e w' => ∃ v os, e = .returned (.tuple #[v, .int .i64 0]) ∧ w'.ownsRow 0 3 1 v os.length (intsI os) ∧ (os.Nodup ∧ ∀ j, j ∈ os ↔ under R p j) ∧ (∀ j, v.ownBlock = some j → w.heap.size ≤ j ∧ ¬ pown w' b j) ∧ PagesAt w' b S ∧ PStep b w w'
structure Gat (w wr : World) (b : Nat) (S : PSt) (R : Path → Option Rec) (p : Path) (r : Rec) (vI ov : Value) (i : Nat) (os : List Int) : Prop where
  gath : Gath R p r i os
  own : wr.ownsRow 0 3 1 ov os.length (intsI os)
  new : ∀ j, ov.ownBlock = some j → w.heap.size ≤ j ∧ ¬ pown wr b j ∧ rowBlock vI ≠ some j
  pages : PagesAt wr b S
  st : PStep b w wr
  items : RowC itemC 3 wr vI r.l
  away : Apart wr b vI
theorem Gat.step {w wr wx : World} {b : Nat} {S : PSt} {R : Path → Option Rec} {p : Path} {r : Rec} {vI ov : Value} {i : Nat} {os : List Int} (h : Gat w wr b S R p r vI ov i os) (st : PStep b wr wx) (hp : PagesAt wx b S) : Gat w wx b S R p r vI ov i os :=
  ⟨h.gath, own_only h.own st.only (fun j q => (h.new j q).2.1), fun j q => ⟨(h.new j q).1, fun z => (st.own j z).elim (h.new j q).2.1 (fun z => by have := (h.own.lt j q).2; omega), (h.new j q).2.2⟩, hp, h.st.trans st, h.items.step h.away st, h.away.step st⟩
theorem Gat.still {w wr wx : World} {b : Nat} {S : PSt} {R : Path → Option Rec} {p : Path} {r : Rec} {vI ov : Value} {i : Nat} {os : List Int} (h : Gat w wr b S R p r vI ov i os) (ho : Only (fun _ => False) wr wx) : Gat w wx b S R p r vI ov i os :=
  h.step (PStep.still h.pages.lt ho) (h.pages.still ho)
theorem Gat.next {w wr wx : World} {b : Nat} {S : PSt} {R : Path → Option Rec} {p : Path} {r : Rec} {vI ov ov' : Value} {i : Nat} {os more : List Int} {x : Item} (h : Gat w wr b S R p r vI ov i os) (H : Held S R [] []) (hp : R p = some r) (hx : r.l[i]? = some x) (hn : more.Nodup) (hm : ∀ j, j ∈ more ↔ itemAt R p x j)
    (own : wx.ownsRow 0 3 1 ov' (os.length + more.length) (intsI os ++ intsI more)) (gr : wr.grownBy wx ov.ownBlock) (mv : Moved wr ov ov') : Gat w wx b S R p r vI ov' (i + 1) (os ++ more) := by
  have ho : Only (fun k => ov.ownBlock = some k) wr wx := (Only.refl _ wr).grown gr fun k _ e => e
  have hb := ho.block b h.pages.lt fun e => (h.new b e).2.1 (.inl rfl)
  have hpo := fun k => pown_of_heap hb k
  refine ⟨h.gath.next H hp hx hn hm, ?_, fun j hj => ?_, pages_beside h.pages ho fun k q e => (h.new k e).2.1 q, pstep_fresh h.st hb ho fun k e => (h.new k e).1, h.items.only ho fun j q e => (h.new j e).2.2 q, h.away.later ho.size hb⟩
  · rw [List.length_append]
    simpa [intsI] using own
  · rcases mv j hj with e | e
    · exact ⟨(h.new j e).1, fun q => (h.new j e).2.1 ((hpo j).1 q), (h.new j e).2.2⟩
    · refine ⟨Nat.le_trans h.st.only.size e, fun q => ?_, fun q => ?_⟩
      · have := pown_lt h.pages ((hpo j).1 q)
        omega
      · have := (h.away j q).2
        omega
theorem intsI_row {w : World} {v : Value} {l : List Int} (h : RowAt intE 1 w v l) : ∃ a c, v = .slice a l.length c ∧ (a = none → l.length = 0 ∧ c = 0) ∧ ∀ W, Only (fun _ => False) w W → ∀ ad, a = some ad → ∀ j u, (intsI l)[j]? = some u → W.cell? (ad.add j) = some u := by
  obtain ⟨a, c, rfl⟩ := bk.row_form h
  refine ⟨a, c, rfl, fun q => bk.row_nil h q, fun W hW ad had j u hu => bk.row_read (enc := intE) (k := 1) (fun _ => rfl) h W hW ad had j u ?_⟩
  rw [intsI_flat] at hu
  exact hu
theorem oneInt (l : List Int) : ∀ u ∈ intsI l, u.oneCell' = true := by
  intro u hu
  obtain ⟨x, _, rfl⟩ := List.mem_map.1 hu
  rfl
theorem lenInt (l : List Int) : (intsI l).length = l.length * 1 := by simp [intsI]
set_option maxRecDepth 100000 in
set_option maxHeartbeats 16000000 in
theorem pages_step (b : Nat) (S : PSt) (R : Path → Option Rec) (H : Held S R [] []) (hL : S.L.length ≤ 3998) (hfew : ∀ p r, R p = some r → r.l.length < 2 ^ 11) (p : Path) (r : Rec) (w : World) (hp : R p = some r) (d : Nat) (hd : d ≤ 4) (h : PagesAt w b S)
    (IH : ∀ k r', R (p ++ [k]) = some r' → ∀ W, PagesAt W b S → Calls Tryz.prog 90 #[pagesV b, bktV r'.root r'.seq, .int .i64 ((d : Int) + 1)] W (PagesEnds W b S R (p ++ [k]))) :
    Calls Tryz.prog 90 #[pagesV b, bktV r.root r.seq, .int .i64 (d : Int)] w (PagesEnds w b S R p) := by
  obtain ⟨i0, hi, hz0, hz1, hz2⟩ := info_parts intInfo5
  obtain ⟨t1, t2, t3, t4⟩ := H.bush.tree p r hp
  have hf := hfew p r hp
  have hst := H.stop
  have o1 := (Only.refl (fun _ => False) w).alloc (.cells #[.int .i64 r.root, .int .i64 r.seq] 23)
  have h1 := h.still o1
  have A1 := Away.new h (.cells #[.int .i64 r.root, .int .i64 r.seq] 23)
  have st1 := PStep.still h.lt o1
  have hd1 : decide ((d : Int) > 4) = false := decide_eq_false (by omega)
  have HI := Lib.hid (tIdsO_is _ b S r.root r.l r.ids h1 t1 (by omega) hf)
  have HT := Lib.hid (fun W hW => tItems_is W b S r.root r.l r.ids [] 1073741824 hW t1 (by omega) hf (by omega))
  have hlt := h.lt
  have HS := Lib.hid (And.intro h1 (And.intro st1 A1))
  have HH := Lib.hid (And.intro H hp)
  have HIH := Lib.hid IH
  have c0 := blk_cell A1.at_ 0
  simp only [List.getElem?_toArray, List.getElem?_cons_zero] at c0
  have hdn : d ≤ 4 := hd
  clear o1 h1 A1 st1 h t1 t2 t3 t4 H IH hd
  unfold IdsOwn IdsTold at HI
  unfold ItemsTold at HT
  simp only [fromL_nil_key] at HT
  unfold pagesV bktV at *
  go_enter Tryz.func90, Tryz.ntmps90
  go_wp2_with fail
  generalize (w.alloc (.cells #[.int .i64 r.root, .int .i64 r.seq] 23)) = W1 at *
  (with_reducible refine HI.out.mono ?_)
  rintro e w2 ⟨⟨v, rfl, _, hap, hp2, st2, hnew⟩, v', x', he, hown⟩
  obtain rfl : v = v' := by
    simp only [Ending.returned.injEq, Value.tuple.injEq] at he
    have := congrArg (fun a : Array Value => a[0]?) he
    simpa using this
  obtain ⟨aO, cO, rfl⟩ := ownsRow_form hown
  have hpm : (sortI r.ids).Perm r.ids := by unfold sortI; exact List.mergeSort_perm _ _
  obtain ⟨h1, st1, A1⟩ := HS.out
  have A2 := A1.step st2
  have c0 := blk_cell A2.at_ 0
  simp only [List.getElem?_toArray, List.getElem?_cons_zero] at c0
  have HI2 := Lib.hid (And.intro hown (And.intro hap (And.intro hp2 (And.intro (st1.trans st2) hnew))))
  have hw1 := st1.only.size
  have HT2 := Lib.hid (HT.out w2 hp2)
  clear he hown hap hp2 st2 hnew h1 st1 A1 A2 HI HT HS
  go_wp2_with fail
  (with_reducible refine HT2.out.mono ?_)
  rintro e w3 ⟨vI, rfl, hrI, haI, hp3, st3, hnI⟩
  obtain ⟨hown, hap, hp2, st2, hnew⟩ := HI2.out
  have hrb : rowBlock (Value.slice aO (sortI r.ids).length cO) = (Value.slice aO (sortI r.ids).length cO).ownBlock := bk.rowBlock_own hown
  have G0 : Gat w w3 b S R p r vI (.slice aO (sortI r.ids).length cO) 0 (sortI r.ids) := by
    have ow3 := own_only hown st3.only (fun j q => (hap j (by rw [hrb]; exact q)).1)
    rw [List.take_of_length_le (by show r.l.length ≤ 1073741824; omega)] at hrI
    refine ⟨Gath.start HH.out.1 HH.out.2 hpm, ow3, fun j q => ?_, hp3, st2.trans st3, hrI, haI⟩
    have q2 : rowBlock (Value.slice aO (sortI r.ids).length cO) = some j := by rw [hrb]; exact q
    have h5 := hap j q2
    refine ⟨Nat.le_trans hw1 (hnew j q2), fun z => (st3.own j z).elim h5.1 (fun z => by omega), fun z => ?_⟩
    have := hnI j z
    omega
  obtain ⟨aI, nI, cI, rfl⟩ := capOk_form hrI.cap
  obtain ⟨rfl, _⟩ := row_shape G0.items.row
  have HG0 := Lib.hid G0
  clear hown hap hp2 st2 hnew hrb G0 hrI haI hp3 st3 hnI HI2 HT2 hpm
  go_wp2_with fail
  go_loopg [8, 40] r.l.length (fun gh ov kv wr => ∃ (i : Nat) (os : List Int), gh + i = r.l.length ∧ kv = .int .i64 (i : Int) ∧ Gat w wr b S R p r (.slice aI r.l.length cI) ov i os)
  case atStart => exact ⟨0, _, by omega, rfl, HG0.out⟩
  case round =>
    obtain ⟨i, os, hgk, rfl, hG⟩ := hrel
    have hoN := hG.gath.few HH.out.1 HH.out.2
    obtain ⟨aO, cO, rfl⟩ := ownsRow_form hG.own
    have HG := Lib.hid hG
    clear hG HG0
    by_cases hi2 : i < r.l.length
    · obtain ⟨x, hx⟩ : ∃ x, r.l[i]? = some x := ⟨_, List.getElem?_eq_getElem hi2⟩
      obtain ⟨gI, off, rfl, k0, k1, k2⟩ := row_item HG.out.items.row hx
      have hi1 : (i : Int) < (r.l.length : Int) := by omega
      have hi0 : (0 : Int) ≤ (i : Int) := by omega
      have hwi : IntKind.i64.wrap ((i : Int) + 1) = (i : Int) + 1 := by exact IntWalk.i64_in _ (by omega)
      have hgx := HG.out.still ((Only.refl (fun _ => False) wr).alloc (.cells #[str x.key, str x.val, .int .i64 x.kind] 131))
      have nx := blk_new wr (.cells #[str x.key, str x.val, .int .i64 x.kind] 131)
      have e0 := blk_cell nx 0
      have e1 := blk_cell nx 1
      have e2 := blk_cell nx 2
      simp only [List.getElem?_toArray, List.getElem?_cons_zero, List.getElem?_cons_succ] at e0 e1 e2
      have HX := Lib.hid hx
      have HGX := Lib.hid hgx
      have HGK := Lib.hid hgk
      have hsem := HH.out.1.sems HH.out.2 x (List.mem_of_getElem? hx)
      have HW := Lib.hid (fun (h2 : x.kind = 2) => HH.out.1.bush.sub p r x HH.out.2 (List.mem_of_getElem? hx) h2)
      clear hgx nx hx hgk
      rcases hsem with h2 | ⟨u, hu⟩
      · obtain ⟨hkn, ⟨r', hr', hval⟩, _⟩ := HW.out h2
        have hvl := hval (by simp)
        have hrn := HH.out.1.rootN hr' hL
        have hts := (HH.out.1.bush.tree _ _ hr').2.2.1
        have HIN := Lib.hid (fun W => inner_is W x r'.root.toNat r'.seq hrn.2 hts hvl)
        rw [hrn.1] at HIN
        unfold itV bktV at HIN
        have HPG := Lib.hid (fun W hW => HIH.out x.key r' hr' W hW)
        unfold PagesEnds at HPG
        have hwd : IntKind.i64.wrap ((d : Int) + 1) = (d : Int) + 1 := by exact IntWalk.i64_in _ (by omega)
        obtain ⟨xk, xv, xd⟩ := x
        have h2 : xd = 2 := h2
        subst h2
        dsimp only at *
        clear hval hvl hrn hts hr' HW
        go_wp2_with fail
        generalize hWX : wr.alloc (.cells #[str xk, str xv, .int .i64 2] 131) = WX at *
        (with_reducible refine (HIN.out _).mono ?_)
        rintro e w4 ⟨rfl, o4⟩
        have o5 := o4.alloc (.cells #[.int .i64 r'.root, .int .i64 r'.seq] 23)
        have n5 := blk_new w4 (.cells #[.int .i64 r'.root, .int .i64 r'.seq] 23)
        have G5 := HGX.out.still o5
        have s0 := blk_cell n5 0
        have s1 := blk_cell n5 1
        simp only [List.getElem?_toArray, List.getElem?_cons_zero, List.getElem?_cons_succ] at s0 s1
        have HG5 := Lib.hid G5
        have HP5 := Lib.hid (HPG.out _ G5.pages)
        clear o4 o5 n5 G5 HPG HIN
        go_wp2_with fail
        (with_reducible refine HP5.out.mono ?_)
        rintro e w6 ⟨mv, ms, rfl, hmo, hms, hmn, hp6, st6⟩
        have G6 := HG5.out.step st6 hp6
        have hrow := bk.row_own (enc := intE) (k := 1) (fun _ => rfl) (by rw [← intsI_flat]; exact hmo)
        obtain ⟨am, cm, rfl, hnil, hread⟩ := intsI_row hrow
        have hmm : ∀ j, j ∈ ms ↔ itemAt R p ⟨xk, xv, 2⟩ j := fun j => by
          rw [hms.2]
          unfold itemAt
          constructor
          · exact fun q => .inr ⟨rfl, q⟩
          · exact fun q => q.elim (fun q => absurd rfl q.1) (fun q => q.2)
        have hnd := hms.1
        have hnx := HGX.out
        have hgt := G6.gath.next HH.out.1 HH.out.2 HX.out hnd hmm
        have hmany := hgt.few HH.out.1 HH.out.2
        rw [List.length_append] at hmany
        have hle := lenInt (ms)
        have hone := oneInt (ms)
        have hmax : os.length + (ms).length ≤ maxLen := by unfold maxLen; omega
        have HG6 := Lib.hid G6
        have HNL := Lib.hid hnil
        have HRD := Lib.hid (hread _ (Only.refl _ _))
        have HLE := Lib.hid hle
        have HMM := Lib.hid hmm
        have HOW := Lib.hid G6.own
        have hng : decide (((os.length + (ms).length : Nat) : Int) > 4000) = false := decide_eq_false (by omega)
        have hng2 : ¬ (((os.length : Int) + ((ms).length : Int)) > 4000) := by omega
        have hng3 : decide (((os.length : Int) + ((ms).length : Int)) > 4000) = false := decide_eq_false hng2
        have hng4 : decide (4000 < ((os.length : Int) + ((ms).length : Int))) = false := decide_eq_false (by omega)
        clear hnx hgt hle G6 hmm hnil
        go_wp2_with (at_builtin; refine bk.wpList_append_any _ rfl _ _ 57 rfl 3 i0 _ 1 8 Tryz.underlying57 hi hz0 hz1 hz2 rfl (by decide) _ _ _ rfl HOW.out am (ms).length cm (intsI (ms)) rfl HLE.out HNL.out HRD.out hone hmax (by omega) ?_; intro a' c' wx hown2 hgr hmv; have HQ := Lib.hid (And.intro hown2 (And.intro hgr hmv)); clear hown2 hgr hmv)
        all_goals
          go_roundg (r.l.length - (i + 1))
          case measure => have := HGK.out; omega
          case rel => exact ⟨i + 1, os ++ ms, by omega, by go_num, HG6.out.next HH.out.1 HH.out.2 HX.out hnd HMM.out HQ.out.1 HQ.out.2.1 HQ.out.2.2⟩
      · by_cases hk1 : x.kind = 1
        · obtain ⟨first, hfv, hff, hxe⟩ : ∃ first, (96 < u.length ∧ u.length ≤ 2000) ∧ (2 ≤ first ∧ first + needN u.length ≤ 4000) ∧ x = ⟨x.key, refB first u.length, 1⟩ := by
            cases hu with
            | plain k v h => cases hk1
            | far k v first a1 a2 a3 => exact ⟨first, a1, a2, rfl⟩
          have hneed : 1 ≤ needN u.length := by unfold needN; split <;> omega
          have hl9 := needN_le hfv.2
          obtain ⟨xk, xv, xd⟩ := x
          simp only [Item.mk.injEq, true_and] at hxe
          obtain ⟨rfl, rfl⟩ := hxe
          dsimp only at *
          have HBG := Lib.hid (fun W => BgIds_is W first u.length (by omega) hfv.2)
          unfold FarEnds at HBG
          clear hu hk1 HW
          go_wp2_with fail
          generalize hWX : wr.alloc (.cells #[str xk, str (refB first u.length), .int .i64 1] 131) = WX at *
          (with_reducible refine (HBG.out _).mono ?_)
          rintro e w6 ⟨mv, rfl, hrow, o6, _⟩
          have G6 := HGX.out.still o6
          obtain ⟨am, cm, rfl, hnil, hread⟩ := intsI_row hrow
          have hids := ref_ids (k := xk) (first := first) (n := u.length) (by omega) (by omega)
          have hmm : ∀ j, j ∈ farIds first u.length ↔ itemAt R p ⟨xk, refB first u.length, 1⟩ j := fun j => by
            unfold itemAt
            rw [hids]
            constructor
            · exact fun q => .inl ⟨by simp, q⟩
            · exact fun q => q.elim (fun q => q.2) (fun q => by simp at q)
          have hnd : (farIds first u.length).Nodup := by
            unfold farIds
            exact List.Pairwise.map _ (fun a b hab e => hab (by omega)) List.nodup_range
          generalize farIds first u.length = ms at *
          clear hids HBG o6
          have hnx := HGX.out
          have hgt := G6.gath.next HH.out.1 HH.out.2 HX.out hnd hmm
          have hmany := hgt.few HH.out.1 HH.out.2
          rw [List.length_append] at hmany
          have hle := lenInt (ms)
          have hone := oneInt (ms)
          have hmax : os.length + (ms).length ≤ maxLen := by unfold maxLen; omega
          have HG6 := Lib.hid G6
          have HNL := Lib.hid hnil
          have HRD := Lib.hid (hread _ (Only.refl _ _))
          have HLE := Lib.hid hle
          have HMM := Lib.hid hmm
          have HOW := Lib.hid G6.own
          have hng : decide (((os.length + (ms).length : Nat) : Int) > 4000) = false := decide_eq_false (by omega)
          have hng2 : ¬ (((os.length : Int) + ((ms).length : Int)) > 4000) := by omega
          have hng3 : decide (((os.length : Int) + ((ms).length : Int)) > 4000) = false := decide_eq_false hng2
          have hng4 : decide (4000 < ((os.length : Int) + ((ms).length : Int))) = false := decide_eq_false (by omega)
          clear hnx hgt hle G6 hmm hnil
          go_wp2_with (at_builtin; refine bk.wpList_append_any _ rfl _ _ 57 rfl 3 i0 _ 1 8 Tryz.underlying57 hi hz0 hz1 hz2 rfl (by decide) _ _ _ rfl HOW.out am (ms).length cm (intsI (ms)) rfl HLE.out HNL.out HRD.out hone hmax (by omega) ?_; intro a' c' wx hown2 hgr hmv; have HQ := Lib.hid (And.intro hown2 (And.intro hgr hmv)); clear hown2 hgr hmv)
          all_goals
            go_roundg (r.l.length - (i + 1))
            case measure => have := HGK.out; omega
            case rel => exact ⟨i + 1, os ++ ms, by omega, by go_num, HG6.out.next HH.out.1 HH.out.2 HX.out hnd HMM.out HQ.out.1 HQ.out.2.1 HQ.out.2.2⟩
        · have hk0 : x.kind = 0 := hu.not2.resolve_right hk1
          obtain ⟨xk, xv, xd⟩ := x
          have hk0 : xd = 0 := hk0
          subst hk0
          dsimp only at *
          have G6 := HGX.out
          have hnil : (none : Option Addr) = none → ([] : List Int).length = 0 ∧ 0 = 0 := fun _ => ⟨rfl, rfl⟩
          have hmm : ∀ j, j ∈ ([] : List Int) ↔ itemAt R p ⟨xk, xv, 0⟩ j := fun j => by
            unfold itemAt itemIds
            simp
          clear hu hk1 HW
          have hnx := HGX.out
          have hgt := G6.gath.next HH.out.1 HH.out.2 HX.out List.nodup_nil hmm
          have hmany := hgt.few HH.out.1 HH.out.2
          rw [List.length_append] at hmany
          have hle := lenInt (([] : List Int))
          have hone := oneInt (([] : List Int))
          have hmax : os.length + (([] : List Int)).length ≤ maxLen := by unfold maxLen; omega
          have HG6 := Lib.hid G6
          have HNL := Lib.hid hnil
          have HRD := Lib.hid (fun (ad : Addr) (q : (none : Option Addr) = some ad) (j : Nat) (u : Value) (_ : (intsI ([] : List Int))[j]? = some u) => ((by cases q) : (wr.alloc (.cells #[str xk, str xv, .int .i64 0] 131)).cell? (ad.add j) = some u))
          have HLE := Lib.hid hle
          have HMM := Lib.hid hmm
          have HOW := Lib.hid G6.own
          have hng : decide (((os.length + (([] : List Int)).length : Nat) : Int) > 4000) = false := decide_eq_false (by omega)
          have hng2 : ¬ (((os.length : Int) + ((([] : List Int)).length : Int)) > 4000) := by omega
          have hng3 : decide (((os.length : Int) + ((([] : List Int)).length : Int)) > 4000) = false := decide_eq_false hng2
          have hng4 : decide (4000 < ((os.length : Int) + ((([] : List Int)).length : Int))) = false := decide_eq_false (by omega)
          clear hnx hgt hle G6 hmm hnil
          go_wp2_with (at_builtin; refine bk.wpList_append_any _ rfl _ _ 57 rfl 3 i0 _ 1 8 Tryz.underlying57 hi hz0 hz1 hz2 rfl (by decide) _ _ _ rfl HOW.out none (([] : List Int)).length 0 (intsI (([] : List Int))) rfl HLE.out HNL.out HRD.out hone hmax (by omega) ?_; intro a' c' wx hown2 hgr hmv; have HQ := Lib.hid (And.intro hown2 (And.intro hgr hmv)); clear hown2 hgr hmv)
          all_goals
            go_roundg (r.l.length - (i + 1))
            case measure => have := HGK.out; omega
            case rel => exact ⟨i + 1, os ++ ([] : List Int), by omega, by go_num, HG6.out.next HH.out.1 HH.out.2 HX.out List.nodup_nil HMM.out HQ.out.1 HQ.out.2.1 HQ.out.2.2⟩
    · obtain rfl : i = r.l.length := by omega
      have hi1 : ¬ (r.l.length : Int) < (r.l.length : Int) := by omega
      have HD := Lib.hid (HG.out.gath.done HH.out.1 HH.out.2)
      go_wp2_with fail
      go_ret2
      exact ⟨_, os, rfl, HG.out.own, HD.out, fun j q => ⟨(HG.out.new j q).1, (HG.out.new j q).2.1⟩, HG.out.pages, HG.out.st⟩
theorem pages_is (b : Nat) (S : PSt) (R : Path → Option Rec) (H : Held S R [] []) (hL : S.L.length ≤ 3998) (hfew : ∀ p r, R p = some r → r.l.length < 2 ^ 11) : ∀ (n : Nat) (p : Path) (r : Rec) (w : World) (d : Nat), R p = some r → p.length + n = 4 → d ≤ p.length → PagesAt w b S →
    Calls Tryz.prog 90 #[pagesV b, bktV r.root r.seq, .int .i64 (d : Int)] w (PagesEnds w b S R p)
  | 0, p, r, w, d, hp, hn, hd, h => pages_step b S R H hL hfew p r w hp d (by omega) h fun k r' hr' => by
    have := H.bush.deep _ _ hr'
    simp at this
    omega
  | n + 1, p, r, w, d, hp, hn, hd, h => pages_step b S R H hL hfew p r w hp d (by omega) h fun k r' hr' W hW => by
    have := pages_is b S R H hL hfew n (p ++ [k]) r' W (d + 1) hr' (by simp; omega) (by simp; omega) hW
    exact this
end
section
open Go.RowKit Go.MuLone
structure OwnI (w0 w : World) (b : Nat) (v : Value) (l : List Int) : Prop where
  own : w.ownsRow 0 3 1 v l.length (intsI l)
  new : ∀ j, v.ownBlock = some j → w0.heap.size ≤ j ∧ ¬ pown w b j
theorem sort_world {w0 w : World} {b : Nat} {S : PSt} {g cap : Nat} {l ts : List Int} (h : OwnI w0 w b (.slice (some ⟨g, 0, none⟩) l.length cap) l) (hp : PagesAt w b S) (hl : ts.length = l.length) (n : Nat) (os : Array Obj) :
    OwnI w0 (Sort.grow (Sort.putRow (Value.int .i64) (Sort.ahead w n) g 0 ts.toArray) os) b (.slice (some ⟨g, 0, none⟩) l.length cap) ts ∧ PagesAt (Sort.grow (Sort.putRow (Value.int .i64) (Sort.ahead w n) g 0 ts.toArray) os) b S ∧ Only (fun k => k = g) w (Sort.grow (Sort.putRow (Value.int .i64) (Sort.ahead w n) g 0 ts.toArray) os) ∧ (∀ k, pown (Sort.grow (Sort.putRow (Value.int .i64) (Sort.ahead w n) g 0 ts.toArray) os) b k ↔ pown w b k) := by
  have hx : Only (fun k => k = g) w (Sort.grow (Sort.putRow (Value.int .i64) (Sort.ahead w n) g 0 ts.toArray) os) := (Only.refl (fun k => k = g) w).grown (grownBy_sortedI _) fun k _ e => (Option.some.inj e).symm
  have hg := (h.new g rfl).2
  have hb := hx.block b hp.lt fun e => hg (.inl e.symm)
  have hpo := fun k => pown_of_heap hb k
  rcases h.own.2 with ⟨q, _⟩ | ⟨g2, cap2, cur, hv, hbase, hh, h1, h2, h3, h4⟩
  · cases q
  · cases hv
    refine ⟨⟨?_, fun j hj => ?_⟩, pages_beside hp hx fun k q e => hg (e ▸ q), hx, hpo⟩
    · have := ownsRow_sortedI (n := n) (os := os) hl hbase hh h1 h2 h3
      rw [hl]
      exact this
    · cases hj
      exact ⟨(h.new g rfl).1, fun q => hg ((hpo g).1 q)⟩
theorem sort_step {w0 w w' : World} {b g : Nat} (st : PStep b w0 w) (ho : Only (fun k => k = g) w w') (hp : ∀ k, pown w' b k ↔ pown w b k) (hg : w0.heap.size ≤ g) : PStep b w0 w' :=
  ⟨st.only.trans ho fun i hi q => by have q : i = g := q; omega, fun k q => st.own k ((hp k).1 q)⟩
theorem sortI_nodup {l : List Int} (h : l.Nodup) : (sortI l).Nodup := by
  unfold sortI
  exact (List.mergeSort_perm l _).nodup_iff.2 h
theorem sortI_len (l : List Int) : (sortI l).length = l.length := by unfold sortI; exact List.length_mergeSort _
theorem compact_nodup {l : List Int} (h : l.Nodup) : Lib.compact l = l := by
  refine Lib.compact_all l fun j hj => ?_
  unfold Lib.keeps
  refine decide_eq_true ?_
  by_cases h0 : j = 0
  · exact .inl h0
  · refine .inr ?_
    have e1 : l.toArray[j]! = l[j] := by rw [getElem!_pos l.toArray j (by simpa using hj)]; simp
    have e2 : l.toArray[j - 1]! = l[j - 1] := by rw [getElem!_pos l.toArray (j - 1) (by simp; omega)]; simp
    rw [e1, e2]
    exact (List.pairwise_iff_getElem.1 h (j - 1) j (by omega) hj (by omega)).symm
def BIdsEnds (w : World) (b : Nat) (S : PSt) (R : Path → Option Rec) (p : Path) : Ending → World → Prop := fun e w' => ∃ v os, e = .returned (.tuple #[v, .int .i64 0]) ∧ OwnI w w' b v (sortI os) ∧ (os.Nodup ∧ ∀ j, j ∈ os ↔ under R p j) ∧ PagesAt w' b S ∧ PStep b w w'
set_option maxRecDepth 100000 in
set_option maxHeartbeats 8000000 in
theorem BIds_is (w : World) (b : Nat) (S : PSt) (R : Path → Option Rec) (p : Path) (r : Rec) (h : PagesAt w b S) (H : Held S R [] []) (hL : S.L.length ≤ 3998) (hfew : ∀ p r, R p = some r → r.l.length < 2 ^ 11) (hp : R p = some r) :
    Calls Tryz.prog 21 #[pagesV b, bktV r.root r.seq] w (BIdsEnds w b S R p) := by
  have hdeep := H.bush.deep p r hp
  have o1 := (Only.refl (fun _ => False) w).alloc (.cells #[.int .i64 r.root, .int .i64 r.seq] 23)
  have n1 := blk_new w (.cells #[.int .i64 r.root, .int .i64 r.seq] 23)
  have h1 := h.still o1
  have st1 := PStep.still h.lt o1
  have hnil := bpages_nil b
  have HP : Hid (Calls Tryz.prog 90 #[pagesV b, bktV r.root r.seq, .int .i64 0] (w.alloc (.cells #[.int .i64 r.root, .int .i64 r.seq] 23)) (PagesEnds (w.alloc (.cells #[.int .i64 r.root, .int .i64 r.seq] 23)) b S R p)) := Lib.hid (pages_is b S R H hL hfew (4 - p.length) p r _ 0 hp (by omega) (by omega) h1)
  have HS := Lib.hid (And.intro st1 h.lt)
  have c0 := blk_cell n1 0
  have c1 := blk_cell n1 1
  simp only [List.getElem?_toArray, List.getElem?_cons_zero, List.getElem?_cons_succ] at c0 c1
  have hbnd : ∀ os : List Int, os.Nodup → (∀ j, j ∈ os ↔ under R p j) → os.length ≤ S.L.length := fun os hn hm => nodup_lt _ _ hn fun j hj => H.under_there ((hm j).1 hj)
  clear o1 n1 h1 st1 h H hp hdeep
  unfold PagesEnds at HP
  unfold pagesV bktV at *
  go_enter Tryz.func21, Tryz.ntmps21
  go_wp2_with fail
  generalize (w.alloc (.cells #[.int .i64 r.root, .int .i64 r.seq] 23)) = W1 at *
  (with_reducible refine HP.out.mono ?_)
  rintro e w2 ⟨v, os, rfl, hown, hos, hnew, hp2, st2⟩
  have hst := HS.out.1.trans st2
  have hw1 := HS.out.1.only.size
  have HOI : OwnI w w2 b v os := ⟨hown, fun j hj => ⟨Nat.le_trans hw1 (hnew j hj).1, (hnew j hj).2⟩⟩
  have hfo := hbnd os hos.1 hos.2
  have HOS := Lib.hid hos
  rcases hown.2 with ⟨rfl, h0⟩ | ⟨g, cap, cur, rfl, hbase, hh, q1, q2, q3, q4⟩
  · have hn : os = [] := List.eq_nil_of_length_eq_zero h0
    subst hn
    have HF : Hid (BIdsEnds w b S R p (.returned (.tuple #[.slice none 0 0, .int .i64 0])) w2) := Lib.hid ⟨_, [], rfl, ⟨by rw [show sortI [] = [] by simp [sortI]]; exact ⟨rfl, .inl ⟨rfl, rfl⟩⟩, fun j hj => by cases hj⟩, hos, hp2, hst⟩
    have HSN := Lib.hid (sortNone_is none 0 w2)
    have HCN := Lib.hid (fun W => slices_Clone_int_nil 0 0 W)
    have HPN := Lib.hid (fun W => slices_Compact_int_empty none 0 W)
    clear hown hos hnew hp2 st2 hst HOI hfo hbnd HP HS h0 HOS
    go_wp2_with fail
    (with_reducible refine HSN.out.mono ?_)
    rintro e w' ⟨rfl, rfl⟩
    go_wp2_with fail
    (with_reducible refine (HCN.out _).mono ?_)
    rintro e w' ⟨rfl, rfl⟩
    go_wp2_with fail
    (with_reducible refine (HPN.out _).mono ?_)
    rintro e w' ⟨rfl, rfl⟩
    go_wp2_with fail
    go_ret2
    exact HF.out
  · have hH : Sort.Holds (Value.int .i64) w2 g 0 os.toArray := holds_of_blockI hh (by simpa [intsI] using q4)
    have hgl : g < w2.heap.size := (Array.getElem?_eq_some_iff.1 hh).1
    have HSN := Lib.hid (sortInts_is g 0 cap os w2 hH hgl (by omega))
    have hnd := sortI_nodup hos.1
    have hsl := sortI_len os
    have HSW := Lib.hid (fun n oz => sort_world HOI hp2 hsl n oz)
    have HST := Lib.hid (And.intro hst hgl)
    have hgw := (HOI.new g rfl).1
    generalize hts : sortI os = ts at *
    have HTS := Lib.hid hts
    clear hown hnew hp2 st2 hst HOI HP HS hH hbase hh q1 q2 q3 q4 hbnd hos
    unfold sortI at hts
    rw [hts] at HSN
    clear hts
    have hcl : Lib.compact ts = ts := compact_nodup hnd
    generalize hN : os.length = N at *
    go_wp2_with fail
    (with_reducible refine HSN.out.mono ?_)
    rintro e w3 ⟨rfl, nn, oz, hw3⟩
    obtain ⟨OI3, hp3, ho3, hpo3⟩ := HSW.out nn oz
    rw [← hw3] at OI3 hp3 ho3 hpo3
    have st3 := sort_step HST.out.1 ho3 hpo3 hgw
    have own3 := OI3.own
    have hc3 : ∀ j, j < ts.length → w3.cell? ⟨g, 0 + j, none⟩ = some (.int .i64 (ts.getD j 0)) := fun j hj => by
      rw [Nat.zero_add]
      refine own_cell (by rw [hsl] at own3; exact own3) j _ ?_
      simp [intsI, hj]
    have HCN := Lib.hid (slices_Clone_int g 0 N cap ts w3 (by omega) (by omega) hc3)
    have H3 := Lib.hid (And.intro OI3 (And.intro hp3 st3))
    clear hw3 OI3 hp3 ho3 hpo3 st3 own3 hc3 HSW HST HSN
    go_wp2_with fail
    (with_reducible refine HCN.out.mono ?_)
    rintro e w4 ⟨v4, rfl, hv4, hne4, hbel⟩
    have o4 := Only.of_below (S := fun _ => False) hbel
    obtain ⟨OI3, hp3, st3⟩ := H3.out
    have hp4 := hp3.still o4
    have st4 := st3.trans (PStep.still hp3.lt o4)
    rcases hv4.2 with ⟨q, _⟩ | ⟨g4, cap4, cur4, rfl, hbase4, hh4, a1, a2, a3, a4⟩
    · exact absurd q hne4
    · have htk : ts.take N = ts := List.take_of_length_le (by omega)
      rw [htk] at a4
      have hH4 : Sort.Holds (Value.int .i64) w4 g4 0 ts.toArray := holds_of_blockI hh4 (by rw [hsl]; simpa using a4)
      have hcp := slices_Compact_int g4 0 cap4 ts w4 hH4 (by omega) (by omega)
      rw [hcl, hsl, Nat.sub_self] at hcp
      have HCP := Lib.hid hcp
      have h4l : g4 < w4.heap.size := (Array.getElem?_eq_some_iff.1 hh4).1
      have hg3 := (OI3.own.lt g rfl).2
      have OI4 : OwnI w w4 b (.slice (some ⟨g, 0, none⟩) N cap) ts := ⟨own_only OI3.own o4 (fun _ _ q => q), fun j q => ⟨(OI3.new j q).1, fun z => (OI3.new j q).2 ((pown_of_heap (o4.block b hp3.lt id) j).1 z)⟩⟩
      have hn4 : ¬ pown w4 b g4 := fun q => by
        have := pown_lt hp3 ((pown_of_heap (o4.block b hp3.lt id) g4).1 q)
        omega
      have h34 := o4.size
      have hw3 := st3.only.size
      have OIF : ∀ q, OwnI w (Sort.putRow (Value.int .i64) (Sort.ahead w4 q) g4 0 ts.toArray) b (.slice (some ⟨g, 0, none⟩) N cap) ts ∧ PagesAt (Sort.putRow (Value.int .i64) (Sort.ahead w4 q) g4 0 ts.toArray) b S ∧ PStep b w (Sort.putRow (Value.int .i64) (Sort.ahead w4 q) g4 0 ts.toArray) := fun q => by
        have hx : Only (fun k => k = g4) w4 (Sort.grow (Sort.putRow (Value.int .i64) (Sort.ahead w4 q) g4 0 ts.toArray) #[]) := (Only.refl (fun k => k = g4) w4).grown (grownBy_sortedI _) fun k _ e => (Option.some.inj e).symm
        rw [Sort.grow_empty] at hx
        have hb := hx.block b hp4.lt fun e => hn4 (.inl e.symm)
        have hpo := fun k => pown_of_heap hb k
        refine ⟨⟨own_only OI4.own hx fun j q e => ?_, fun j q => ⟨(OI4.new j q).1, fun z => (OI4.new j q).2 ((hpo j).1 z)⟩⟩, pages_beside hp4 hx fun k q e => hn4 (e ▸ q), sort_step st4 hx hpo (by omega)⟩
        have q2 : g = j := Option.some.inj q
        have e2 : j = g4 := e
        omega
      have HFI := Lib.hid OIF
      clear OIF hH4 hcp a4 hh4 a1 a2 a3 hv4 hbel o4 OI3 OI4 hp3 hp4 st3 st4 hn4 H3 hne4 HCN
      have hlt : decide ((N : Int) < (N : Int)) = false := decide_eq_false (by omega)
      go_wp2_with fail
      (with_reducible refine HCP.out.mono ?_)
      rintro e w5 ⟨rfl, q, rfl⟩
      rw [List.replicate_zero, List.append_nil]
      have HF := Lib.hid (HFI.out q)
      generalize Sort.putRow (Value.int .i64) (Sort.ahead w4 q) g4 0 ts.toArray = w5 at *
      clear HFI HCP
      go_wp2_with fail
      go_ret2
      exact ⟨_, os, rfl, by rw [HTS.out]; exact HF.out.1, HOS.out, HF.out.2.1, HF.out.2.2⟩
end
section
open Go.RowKit Go.MuLone
structure Dropped (m : Nat) (S : PSt) (R : Path → Option Rec) (p : Path) (r : Rec) (k : Bytes) (S2 : PSt) (r2 : Rec) : Prop where
  held : Held S2 (_root_.Go.Proofs.YtbhiamcmiopnoaaGreatDoor.prune (upd R p r2) (p ++ [k])) p []
  full : Full S R → Full S2 (_root_.Go.Proofs.YtbhiamcmiopnoaaGreatDoor.prune (upd R p r2) (p ++ [k]))
  l : r2.l = (dropL r.l k).1
  seq : r2.seq = r.seq
  len : S2.L.length ≤ S.L.length + (2 + 2 * m)
  grow : S.L.length ≤ S2.L.length
  given : S2.given.length ≤ S.given.length + S.L.length + 46
  other : ∀ j : Int, j < (S.L.length : Int) + 2 → j ∉ r.ids → nodeAt S2.L j = nodeAt S.L j
set_option maxRecDepth 100000 in
set_option maxHeartbeats 8000000 in
theorem DropB_no (w : World) (b : Nat) (S : PSt) (R : Path → Option Rec) (p : Path) (r : Rec) (k : Bytes) (h : PagesAt w b S) (H : Held S R [] []) (hfew : ∀ p r, R p = some r → r.l.length < 2 ^ 11) (hp : R p = some r) (hkl : k.length ≤ 1000000) (he : oneE r.l k ≠ 0) :
    Calls Tryz.prog 24 #[pagesV b, bktV r.root r.seq, str k] w fun e w' => e = .returned (.tuple #[bktV 0 0, .int .i64 (oneE r.l k)]) ∧ PagesAt w' b S ∧ PStep b w w' := by
  have o1 := (Only.refl (fun _ => False) w).alloc (.cells #[.int .i64 r.root, .int .i64 r.seq] 23)
  have h1 := h.still o1
  have A1 := Away.new h (.cells #[.int .i64 r.root, .int .i64 r.seq] 23)
  have hs1 : (w.alloc (.cells #[.int .i64 r.root, .int .i64 r.seq] 23)).heap.size = w.heap.size + 1 := Array.size_push _
  generalize hW1 : w.alloc (.cells #[.int .i64 r.root, .int .i64 r.seq] 23) = W1 at *
  have o2 := (Only.refl (fun _ => False) W1).alloc (.cells #[.int .i64 0, .int .i64 0] 23)
  have h2 := h1.still o2
  have A2 := Away.new h1 (.cells #[.int .i64 0, .int .i64 0] 23)
  rw [hs1] at A2
  have B1 := A1.still h1 o2
  have st2 := PStep.still h.lt (Only.trans o1 o2 (fun _ _ q => q))
  have HO := Lib.hid (one_is _ b S r.root r.seq r.l r.ids k h2 hkl (H.bush.tree p r hp).1 (by have := H.stop; omega) (hfew p r hp) (H.reads hp))
  unfold OneEnds at HO
  have HS := Lib.hid (And.intro A2 st2)
  have hlt := h.lt
  have a0 := blk_cell B1.at_ 0
  have a1 := blk_cell B1.at_ 1
  simp only [List.getElem?_toArray, List.getElem?_cons_zero, List.getElem?_cons_succ] at a0 a1
  have HE := Lib.hid he
  clear o1 o2 h1 h2 A1 A2 B1 st2 h H hfew hp he
  subst hW1
  clear hs1
  unfold pagesV bktV at *
  go_enter Tryz.func24, Tryz.ntmps24
  go_wp2_with fail
  generalize ((w.alloc (.cells #[.int .i64 r.root, .int .i64 r.seq] 23)).alloc (.cells #[.int .i64 0, .int .i64 0] 23)) = W at *
  (with_reducible refine HO.out.mono ?_)
  rintro e w2 ⟨root, seq, er, rfl, hone, hp2, st2⟩
  have herr := hone.err
  obtain ⟨B2, st0⟩ := HS.out
  have o3 := (Only.refl (fun _ => False) w2).alloc (.cells #[.int .i64 root, .int .i64 seq] 23)
  have C2 := (B2.step st2).still hp2 o3
  have HF := Lib.hid (two_fin (hp2.still o3) ((st0.trans st2).trans (PStep.still hp2.lt o3)) C2 (by omega) hlt (.int .i64 0) (.int .i64 0))
  have x0 := blk_cell C2.at_ 0
  have x1 := blk_cell C2.at_ 1
  have y0 := blk_frozen C2.at_ 0
  have y1 := blk_frozen C2.at_ 1
  simp only [List.getElem?_toArray, List.getElem?_cons_zero, List.getElem?_cons_succ] at x0 x1
  have hz : (er != 0) = true := by
    have := HE.out
    rw [← herr] at this
    simpa using this
  have HER := Lib.hid herr
  clear B2 st0 o3 C2 hp2 st2 HS HO a0 a1 hone herr
  go_wp2_with fail
  obtain ⟨g1, g2, g3⟩ := HF.out
  have x0 := blk_cell g3 0
  have x1 := blk_cell g3 1
  simp only [List.getElem?_toArray, List.getElem?_cons_zero, List.getElem?_cons_succ] at x0 x1
  exact bodyPost_ret (v := .tuple #[.agg #[.int .i64 0, .int .i64 0], .int .i64 er]) (by simp [results, Tryz.results24, go_sem, x0, x1]) rfl ⟨by rw [HER.out], g1, g2⟩
set_option maxRecDepth 100000 in
set_option maxHeartbeats 8000000 in
theorem DropB_is (w : World) (b : Nat) (S : PSt) (R : Path → Option Rec) (p : Path) (r : Rec) (k : Bytes) (m : Nat) (h : PagesAt w b S) (H : Held S R [] []) (hfew : ∀ p r, R p = some r → r.l.length < 2 ^ m) (hm2 : m ≤ 11) (hp : R p = some r) (hkl : k.length ≤ 1000000) (he : oneE r.l k = 0) (hL : S.L.length + 4 + 2 * m ≤ 3998) (hg : S.given.length + 5000 < 1000000) :
    Calls Tryz.prog 24 #[pagesV b, bktV r.root r.seq, str k] w fun e w' => ∃ S2 r2, e = .returned (.tuple #[bktV r2.root r2.seq, .int .i64 0]) ∧ Dropped m S R p r k S2 r2 ∧ PagesAt w' b S2 ∧ PStep b w w' := by
  have hfew11 : ∀ p r, R p = some r → r.l.length < 2 ^ 11 := fun p r hq => Nat.lt_of_lt_of_le (hfew p r hq) (Nat.pow_le_pow_right (by omega) hm2)
  obtain ⟨_, r', hr', x, hx, hx2, _⟩ := H.within hp he
  have o1 := (Only.refl (fun _ => False) w).alloc (.cells #[.int .i64 r.root, .int .i64 r.seq] 23)
  have h1 := h.still o1
  have A1 := Away.new h (.cells #[.int .i64 r.root, .int .i64 r.seq] 23)
  have hs1 : (w.alloc (.cells #[.int .i64 r.root, .int .i64 r.seq] 23)).heap.size = w.heap.size + 1 := Array.size_push _
  generalize hW1 : w.alloc (.cells #[.int .i64 r.root, .int .i64 r.seq] 23) = W1 at *
  have o2 := (Only.refl (fun _ => False) W1).alloc (.cells #[.int .i64 0, .int .i64 0] 23)
  have h2 := h1.still o2
  have A2 := Away.new h1 (.cells #[.int .i64 0, .int .i64 0] 23)
  rw [hs1] at A2
  have B1 := A1.still h1 o2
  have st2 := PStep.still h.lt (Only.trans o1 o2 (fun _ _ q => q))
  have hbt := H.bush.tree p r hp
  have HO : Hid (Calls Tryz.prog 97 #[pagesV b, bktV r.root r.seq, str k] (W1.alloc (.cells #[.int .i64 0, .int .i64 0] 23)) fun e w' => e = .returned (.tuple #[bktV r'.root r'.seq, .int .i64 0]) ∧ PagesAt w' b S ∧ PStep b (W1.alloc (.cells #[.int .i64 0, .int .i64 0] 23)) w') := Lib.hid ((one_is _ b S r.root r.seq r.l r.ids k h2 hkl hbt.1 (by have := H.stop; omega) (hfew11 p r hp) (H.reads hp)).mono fun e w' q => by
    obtain ⟨root, seq, er, rfl, hone, hp2, st2⟩ := q
    have her : er = 0 := hone.err.trans he
    subst her
    have hrt := hone.held H (by omega) hp hr' (by simp)
    rw [hrt.1, hrt.2]
    exact ⟨rfl, hp2, st2⟩)
  have HID := Lib.hid (fun W hW => BIds_is W b S R (p ++ [k]) r' hW H (by omega) hfew11 hr')
  unfold BIdsEnds at HID
  have HH := Lib.hid (And.intro H (And.intro hp (And.intro hx (And.intro hx2 (And.intro hbt (And.intro (hfew p r hp) (And.intro hL hg)))))))
  have HS := Lib.hid (And.intro B1 (And.intro A2 st2))
  have hlt := h.lt
  have a0 := blk_cell B1.at_ 0
  have a1 := blk_cell B1.at_ 1
  simp only [List.getElem?_toArray, List.getElem?_cons_zero, List.getElem?_cons_succ] at a0 a1
  have hm := fun n => m_Free n ⟨b, 0, none⟩
  clear o1 o2 h1 h2 A1 A2 B1 st2 h H hfew hfew11 hp he hr' hx hx2 hbt hL hg
  subst hW1
  clear hs1
  unfold pagesV bktV at *
  go_enter Tryz.func24, Tryz.ntmps24
  go_wp2_with fail
  generalize ((w.alloc (.cells #[.int .i64 r.root, .int .i64 r.seq] 23)).alloc (.cells #[.int .i64 0, .int .i64 0] 23)) = W at *
  (with_reducible refine HO.out.mono ?_)
  rintro e w2 ⟨rfl, hp2, st2⟩
  obtain ⟨B1, B2, st0⟩ := HS.out
  have o3 := (Only.refl (fun _ => False) w2).alloc (.cells #[.int .i64 r'.root, .int .i64 r'.seq] 23)
  have n3 := blk_new w2 (.cells #[.int .i64 r'.root, .int .i64 r'.seq] 23)
  have C1 := (B1.step st2).still hp2 o3
  have C2 := (B2.step st2).still hp2 o3
  have hp3 := hp2.still o3
  have st3 := (st0.trans st2).trans (PStep.still hp2.lt o3)
  have e0 := blk_cell n3 0
  have e1 := blk_cell n3 1
  simp only [List.getElem?_toArray, List.getElem?_cons_zero, List.getElem?_cons_succ] at e0 e1
  have H3 := Lib.hid (And.intro C1 (And.intro C2 st3))
  have HID3 := Lib.hid (HID.out _ hp3)
  clear B1 B2 st0 o3 n3 C1 C2 hp3 st3 hp2 st2 HS HO HID a0 a1
  go_wp2_with fail
  (with_reducible refine HID3.out.mono ?_)
  rintro e w4 ⟨v, os, rfl, hoi, hos, hp4, st4⟩
  obtain ⟨C1, C2, st3⟩ := H3.out
  have D1 := C1.step st4
  have D2 := C2.step st4
  have hhh := HH.out
  have hnd := sortI_nodup hos.1
  have hmem : ∀ j, j ∈ sortI os ↔ ∃ q rq, R q = some rq ∧ p ++ [k] <+: q ∧ j ∈ rq.own := fun j => by
    have : j ∈ sortI os ↔ j ∈ os := by unfold sortI; exact (List.mergeSort_perm os _).mem_iff
    rw [this]
    exact hos.2 j
  have hlen : (sortI os).length ≤ S.L.length := nodup_lt _ _ hnd fun j hj => hhh.1.under_there ((hmem j).1 hj)
  have hrb : rowBlock v = v.ownBlock := bk.rowBlock_own hoi.own
  have hrow : RowAt intE 1 w4 v (sortI os) := bk.row_own (enc := intE) (k := 1) (fun _ => rfl) (by rw [← intsI_flat]; exact hoi.own)
  have HFR := Lib.hid (PFreeN_is w4 b S (sortI os) v hp4 (by have := hhh.2.2.2.2.2.2.2; have := hhh.2.2.2.2.2.2.1; omega) hrow (fun j q => (hoi.new j (by rw [← hrb]; exact q)).2))
  generalize sortI os = gs at *
  obtain ⟨root', fnd, S2, ids', hdel, hheld, hfull, hlen2, hgrow, hgiven, hother⟩ := hhh.1.step_drop hhh.2.1 hhh.2.2.1 hhh.2.2.2.1 hnd hmem hhh.2.2.2.2.2.1 hm2 hhh.2.2.2.2.2.2.1
  have HD : Hid (Dropped m S R p r k S2 ⟨root', r.seq, (dropL r.l k).1, ids'⟩) := Lib.hid ⟨hheld, hfull, rfl, rfl, hlen2, hgrow, by omega, hother⟩
  obtain ⟨f1, f2, f3, f4, f5⟩ := freeL_given S gs
  have HC := Lib.hid (fun W hW => BCut_is W b (freeL S gs) S2 r.root root' r.seq r.l r.ids k fnd m hW (by rw [f2]; exact hhh.2.2.2.2.1.1) (by rw [f5]; have := hhh.1.stop; omega) hhh.2.2.2.2.2.1 hm2 (by rw [f2]; exact hhh.2.2.2.2.2.2.1) (by rw [f1, List.length_append]; have := hhh.2.2.2.2.2.2.2; have := hhh.2.2.2.2.2.2.1; omega) hdel)
  unfold pagesV bktV at HC
  have H4 := Lib.hid (And.intro D1 (And.intro D2 (st3.trans st4)))
  clear C1 C2 st3 D1 D2 hhh hnd hmem hlen hrb hrow hdel hheld hfull hlen2 hgrow hgiven hother f1 f2 f3 f4 f5 hoi hos hp4 st4 H3 HH HID3 e0 e1
  go_wp2_with fail
  (with_reducible refine HFR.out.mono ?_)
  rintro e w5 ⟨rfl, hp5, st5⟩
  obtain ⟨D1, D2, st4⟩ := H4.out
  have E1 := D1.step st5
  have E2 := D2.step st5
  have a0 := blk_cell E1.at_ 0
  have a1 := blk_cell E1.at_ 1
  simp only [List.getElem?_toArray, List.getElem?_cons_zero, List.getElem?_cons_succ] at a0 a1
  have H5 := Lib.hid (And.intro E2 (st4.trans st5))
  have HC5 := Lib.hid (HC.out w5 hp5)
  clear D1 D2 st4 E1 E2 hp5 st5 H4 HC HFR
  go_wp2_with fail
  (with_reducible refine HC5.out.mono ?_)
  rintro e w6 ⟨rfl, hp6, st6⟩
  obtain ⟨E2, st5⟩ := H5.out
  have F2 := E2.step st6
  have x0 := blk_cell F2.at_ 0
  have x1 := blk_cell F2.at_ 1
  have y0 := blk_frozen F2.at_ 0
  have y1 := blk_frozen F2.at_ 1
  simp only [List.getElem?_toArray, List.getElem?_cons_zero, List.getElem?_cons_succ] at x0 x1
  have HF := Lib.hid (two_fin hp6 (st5.trans st6) F2 (by omega) hlt (.int .i64 root') (.int .i64 r.seq))
  clear E2 st5 F2 hp6 st6 H5 HC5 a0 a1
  go_wp2_with fail
  obtain ⟨g1, g2, g3⟩ := HF.out
  have x0 := blk_cell g3 0
  have x1 := blk_cell g3 1
  simp only [List.getElem?_toArray, List.getElem?_cons_zero, List.getElem?_cons_succ] at x0 x1
  exact bodyPost_ret (v := .tuple #[.agg #[.int .i64 root', .int .i64 r.seq], .int .i64 0]) (by simp [results, Tryz.results24, go_sem, x0, x1]) rfl ⟨S2, ⟨root', r.seq, (dropL r.l k).1, ids'⟩, rfl, HD.out, g1, g2⟩
end
section
open Go.RowKit
def actE (kind : Int) (l : List Item) (key val : Bytes) : Int :=
  if kind = 1 then (if wordB key = false then 1 else if 2000 < val.length then 2 else match findItem l key with | some x => if x.kind = 2 then 21 else 0 | none => 0)
  else if kind = 2 then (if wordB key = false then 1 else match findItem l key with | some x => if x.kind = 2 then 21 else 0 | none => 8)
  else if kind = 3 then (if nameOk key = false then 1 else match findItem l key with | some x => if x.kind = 2 then 9 else 21 | none => 0)
  else if kind = 4 then oneE l key
  else 0
structure OpTo (m : Nat) (S : PSt) (R : Path → Option Rec) (p : Path) (r : Rec) (kind : Int) (key val : Bytes) (S1 : PSt) (R1 : Path → Option Rec) (r1 : Rec) : Prop where
  held : Held S1 R1 p []
  at_ : R1 p = some r1
  full : Full S R → Full S1 R1
  len : S1.L.length ≤ S.L.length + (if kind = 1 then (madeCs val).length else 0) + (2 + 2 * m)
  grow : S.L.length ≤ S1.L.length
  given : S1.given.length ≤ S.given.length + S.L.length + 60
  stay : ∀ q, q ≠ p → (¬ (p ++ [key] <+: q) ∨ kind ≠ 3 ∧ kind ≠ 4) → R1 q = R q
  put : kind = 1 → r1.l = putL r.l (madeI S key val) ∧ Sem S1.L (madeI S key val) val
  del : kind = 2 → r1.l = (dropL r.l key).1
  made : kind = 3 → r1.l = putL r.l (bktI key noRec) ∧ R1 (p ++ [key]) = some noRec ∧ ∀ q, q ≠ p → q ≠ p ++ [key] → R1 q = R q
  gone : kind = 4 → r1.l = (dropL r.l key).1 ∧ ∀ q, p ++ [key] <+: q → R1 q = none
  none : kind ≠ 1 → kind ≠ 2 → kind ≠ 3 → kind ≠ 4 → r1.l = r.l
  seq : r1.seq = if kind = 1 ∨ kind = 2 ∨ kind = 3 ∨ kind = 4 then r.seq else r.seq + 1
  other : ∀ j : Int, j < (S.L.length : Int) + 2 → j ∉ r.ids → nodeAt S1.L j = nodeAt S.L j
theorem OpTo.out {m : Nat} {S : PSt} {R : Path → Option Rec} {p : Path} {r : Rec} {kind : Int} {key val : Bytes} {S1 : PSt} {R1 : Path → Option Rec} {r1 : Rec} (h : OpTo m S R p r kind key val S1 R1 r1) (q : Path) (hq : ¬ p <+: q) : R1 q = R q :=
  h.stay q (fun e => hq (by rw [e]; exact List.prefix_refl _)) (.inl fun z => hq ((List.prefix_append _ _).trans z))
theorem wordB_len {k : Bytes} (h : wordB k = true) : 1 ≤ k.length ∧ k.length ≤ 32 := by
  unfold wordB at h
  simpa using h
theorem hold_of {l : List Item} {k : Bytes} (hr : Rising l) (h : ∀ x, findItem l k = some x → x.kind ≠ 2) : ∀ y ∈ l, y.key = k → y.kind ≠ 2 := fun y hy hyk h2 => by
  cases hf : findItem l k with
  | none => exact findItem_none hr hf y hy hyk
  | some x =>
    obtain ⟨h3, h4⟩ := findItem_mem' hf
    have := rising_same hr hy h3 (by rw [hyk, h4])
    rw [this] at h2
    exact h x hf h2
theorem op_put {S : PSt} {R : Path → Option Rec} {p : Path} {k v : Bytes} {r : Rec} {m : Nat} (H : Held S R [] []) (hp : R p = some r) (hk : wordB k = true) (hv : v.length ≤ 2000) (hx : ∀ x, findItem r.l k = some x → x.kind ≠ 2) (hm : r.l.length < 2 ^ m) (hm2 : m ≤ 11) (hL : S.L.length + 13 + 2 * m ≤ 3998) :
    ∃ root' S2 ids', putTree (layP S (madeCs v)) r.root (madeI S k v) = (.ok root', S2) ∧ Rooted (layP S (madeCs v)).L r.root r.l r.ids ∧ okItem (madeI S k v) = true ∧ okSem S2.L (wasI r.l k) ∧ (wasI r.l k).kind ≠ 2 ∧
      OpTo m S R p r 1 k v (freeL S2 (itemIds (wasI r.l k))) (upd R p ⟨root', r.seq, putL r.l (madeI S k v), ids'⟩) ⟨root', r.seq, putL r.l (madeI S k v), ids'⟩ := by
  have hris := ((rightL_iff _).1 (H.bush.tree p r hp).2.1).2
  obtain ⟨root', S2, ids', S3, h1, rfl, h3, h4, h5, h6, h7, h8, h9, h10, h11, h12, h13⟩ := H.step_put hp (wordB_len hk) hv (hold_of hris hx) hm hm2 hL
  exact ⟨root', S2, ids', h1, h3, h4, h5, h6, ⟨h7, upd_self _ _ _, h8, by rw [if_pos rfl]; exact h9, h10, by omega, fun q hq _ => upd_ne hq, fun _ => ⟨rfl, h12⟩, (fun q => absurd q (by decide)), (fun q => absurd q (by decide)), (fun q => absurd q (by decide)), fun q => absurd rfl q, by rw [if_pos (.inl rfl)], h13⟩⟩
theorem op_del {S : PSt} {R : Path → Option Rec} {p : Path} {k v : Bytes} {r : Rec} {x : Item} {m : Nat} (H : Held S R [] []) (hp : R p = some r) (hx : findItem r.l k = some x) (hx2 : x.kind ≠ 2) (hm : r.l.length < 2 ^ m) (hm2 : m ≤ 11) (hL : S.L.length + 4 + 2 * m ≤ 3998) :
    ∃ root' fnd S2 ids', delTree (freeL S (itemIds x)) r.root k = (.ok (root', fnd), S2) ∧ okSem S.L x ∧ (itemIds x).length ≤ 9 ∧
      OpTo m S R p r 2 k v S2 (upd R p ⟨root', r.seq, (dropL r.l k).1, ids'⟩) ⟨root', r.seq, (dropL r.l k).1, ids'⟩ := by
  obtain ⟨root', fnd, S2, ids', h1, h2, h3, h4, h5, h6, h7, h8, h9⟩ := H.step_del hp hx hx2 hm hm2 hL
  exact ⟨root', fnd, S2, ids', h1, h2, h3, ⟨h4, upd_self _ _ _, h5, by rw [if_neg (by omega)]; omega, h7, by omega, fun q hq _ => upd_ne hq, (fun q => absurd q (by decide)), fun _ => rfl, (fun q => absurd q (by decide)), (fun q => absurd q (by decide)), fun _ q => absurd rfl q, by rw [if_pos (.inr (.inl rfl))], h9⟩⟩
theorem op_seq {S : PSt} {R : Path → Option Rec} {p : Path} {k v : Bytes} {r : Rec} {m : Nat} {kind : Int} (H : Held S R [] []) (hp : R p = some r) (hs : r.seq + 1 ≤ 1000000) (hk : kind ≠ 1 ∧ kind ≠ 2 ∧ kind ≠ 3 ∧ kind ≠ 4) :
    OpTo m S R p r kind k v S (upd R p ⟨r.root, r.seq + 1, r.l, r.ids⟩) ⟨r.root, r.seq + 1, r.l, r.ids⟩ := by
  have h0 := (H.bush.tree p r hp).2.2.1
  obtain ⟨h1, h2⟩ := H.step_seq hp (seq := r.seq + 1) ⟨by omega, hs⟩
  exact ⟨h1, upd_self _ _ _, h2, by omega, Nat.le_refl _, by omega, fun q hq _ => upd_ne hq, fun q => absurd q hk.1, fun q => absurd q hk.2.1, fun q => absurd q hk.2.2.1, fun q => absurd q hk.2.2.2, fun _ _ _ _ => rfl, by rw [if_neg (by omega)], fun _ _ _ => rfl⟩
theorem op_make {S : PSt} {R : Path → Option Rec} {p : Path} {k v : Bytes} {r : Rec} {m : Nat} (H : Held S R [] []) (hp : R p = some r) (h47 : okName k) (hx : findItem r.l k = none) (hd : p.length < 4) (hm : r.l.length < 2 ^ m) (hm2 : m ≤ 11) (hL : S.L.length + 4 + 2 * m ≤ 3998) :
    ∃ root' S2 ids', putTree S r.root (bktI k noRec) = (.ok root', S2) ∧ okItem (bktI k noRec) = true ∧
      OpTo m S R p r 3 k v S2 (upd (upd R (p ++ [k]) noRec) p ⟨root', r.seq, putL r.l (bktI k noRec), ids'⟩) ⟨root', r.seq, putL r.l (bktI k noRec), ids'⟩ := by
  have hris := ((rightL_iff _).1 (H.bush.tree p r hp).2.1).2
  have hno : R (p ++ [k]) = none := by
    cases hr : R (p ++ [k]) with
    | none => rfl
    | some r' =>
      obtain ⟨r0, x, h1, h2, h3, h4⟩ := H.bush.up p k r' hr (by simp)
      rw [hp] at h1
      cases h1
      exact absurd h3 (findItem_none hris hx x h2)
  have HO := H.orphan hno hd
  have hp1 : upd R (p ++ [k]) noRec p = some r := by rw [upd_ne (snoc_ne p k).symm]; exact hp
  obtain ⟨root', S2, ids', h1, h2, h3, h4, h5, h6, h7⟩ := HO.step_set (p := p) (k := k) (r := r) (rin := noRec) (m := m) (.inl rfl) (.inr rfl) hp1 (upd_self _ _ _) h47 (fun y hy hyk => absurd hyk (findItem_none hris hx y hy)) hm hm2 hL
  have hgn : ∀ j : Int, j < (S.L.length : Int) + 2 → j ∉ r.ids → nodeAt S2.L j = nodeAt S.L j := by
    obtain ⟨root2, p2, ids2, q1, q2, _, M⟩ := putTree_is S r.root r.l r.ids (bktI k noRec) (bktI_ok h47 noRec) (H.bush.tree p r hp).1 (by have := H.stop; omega) m hm hm2 hL
    rw [h1] at q1
    cases q1
    exact fun j hj hn => M.other j (by omega) (.inl hn)
  have hmem := mem_putL hris (bktI k noRec)
  refine ⟨root', S2, ids', h1, bktI_ok h47 noRec, ⟨h2.come ⟨_, bktI k noRec, upd_self _ _ _, (hmem _).2 (.inl rfl), rfl, rfl⟩ fun q rq hq hpre j hj => ?_, upd_self _ _ _, fun F => h3 (F.orphan hno), by rw [if_neg (by omega)]; omega, h5, by omega, fun q hq hs => ?_, (fun q => absurd q (by decide)), (fun q => absurd q (by decide)), fun _ => ⟨rfl, ?_, fun q h3 h4 => by rw [upd_ne h3, upd_ne h4]⟩, (fun q => absurd q (by decide)), fun _ _ q => absurd rfl q, by rw [if_pos (.inr (.inr (.inl rfl)))], hgn⟩⟩
  · rw [upd_ne (long_ne hpre)] at hq
    by_cases hqe : q = p ++ [k]
    · subst hqe
      rw [upd_self] at hq
      cases hq
      cases hj
    · rw [upd_ne hqe] at hq
      obtain ⟨r', hr'⟩ := H.prefix (q.length - (p ++ [k]).length) q rq (by have := hpre.length_le; omega) hq hpre
      rw [hno] at hr'
      cases hr'
  · rw [upd_ne hq]
    rcases hs with hs | hs
    · exact upd_ne fun e => hs (by rw [e]; exact List.prefix_refl _)
    · exact absurd rfl hs.1
  · rw [upd_ne (snoc_ne p k)]
    exact upd_self _ _ _
theorem op_drop {S : PSt} {R : Path → Option Rec} {p : Path} {k v : Bytes} {r r2 : Rec} {m : Nat} {S2 : PSt} (D : Dropped m S R p r k S2 r2) :
    OpTo m S R p r 4 k v S2 (_root_.Go.Proofs.YtbhiamcmiopnoaaGreatDoor.prune (upd R p r2) (p ++ [k])) r2 :=
  ⟨D.held, prune_of nil_prefix_no (upd_self _ _ _), D.full, by rw [if_neg (by omega)]; have := D.len; omega, D.grow, by have := D.given; omega, fun q hq hs => by
    rcases hs with hs | hs
    · unfold _root_.Go.Proofs.YtbhiamcmiopnoaaGreatDoor.prune
      rw [if_neg hs, upd_ne hq]
    · exact absurd rfl hs.2, (fun q => absurd q (by decide)), (fun q => absurd q (by decide)), (fun q => absurd q (by decide)), fun _ => ⟨D.l, fun q hq => if_pos hq⟩, fun _ _ _ q => absurd rfl q, by rw [D.seq, if_pos (.inr (.inr (.inr rfl)))], D.other⟩
theorem findE_congr {R R1 : Path → Option Rec} : ∀ (ks : List Bytes) (p : Path), (∀ q, p <+: q → q <+: p ++ ks → q ≠ p ++ ks → R1 q = R q) → findE R1 p ks = findE R p ks
  | [], _, _ => rfl
  | k :: ks, p, h => by
    have h1 : R1 p = R p := h p (List.prefix_refl _) (List.prefix_append _ _) (fun e => by have := congrArg List.length e; simp at this)
    have h2 := findE_congr (R := R) (R1 := R1) ks (p ++ [k]) fun q h3 h4 h5 => h q ((List.prefix_append _ _).trans h3) (by simpa using h4) (by simpa using h5)
    rw [findE, findE, h1, h2]
theorem OpTo.find {m : Nat} {S : PSt} {R : Path → Option Rec} {p : List Bytes} {r : Rec} {kind : Int} {key val : Bytes} {S1 : PSt} {R1 : Path → Option Rec} {r1 : Rec} (h : OpTo m S R p r kind key val S1 R1 r1) : findE R1 [] p = findE R [] p :=
  findE_congr p [] fun q _ h2 h3 => h.out q fun h4 => h3 (by
    rw [List.nil_append] at h2 ⊢
    exact (h2.eq_of_length_le h4.length_le))
theorem OpTo.few {m : Nat} {S : PSt} {R : Path → Option Rec} {p : Path} {r : Rec} {kind : Int} {key val : Bytes} {S1 : PSt} {R1 : Path → Option Rec} {r1 : Rec} (h : OpTo m S R p r kind key val S1 R1 r1) (hp : R p = some r) (hf : ∀ p r, R p = some r → r.l.length + 1 < 2 ^ m) : ∀ q rq, R1 q = some rq → rq.l.length < 2 ^ m := by
  intro q rq hq
  have h0 := hf p r hp
  by_cases hqp : q = p
  · subst hqp
    rw [h.at_] at hq
    cases hq
    by_cases k1 : kind = 1
    · rw [(h.put k1).1]; have := putL_length r.l (madeI S key val); omega
    by_cases k2 : kind = 2
    · rw [h.del k2]; have := dropL_length r.l key; omega
    by_cases k3 : kind = 3
    · rw [(h.made k3).1]; have := putL_length r.l (bktI key noRec); omega
    by_cases k4 : kind = 4
    · rw [(h.gone k4).1]; have := dropL_length r.l key; omega
    rw [h.none k1 k2 k3 k4]; omega
  · by_cases hst : ¬ (p ++ [key] <+: q) ∨ kind ≠ 3 ∧ kind ≠ 4
    · rw [h.stay q hqp hst] at hq
      have := hf q rq hq
      omega
    · have hpre : p ++ [key] <+: q := Classical.byContradiction fun z => hst (.inl z)
      by_cases k3 : kind = 3
      · by_cases hqk : q = p ++ [key]
        · subst hqk
          rw [(h.made k3).2.1] at hq
          cases hq
          show 0 < 2 ^ m
          exact Nat.two_pow_pos m
        · rw [(h.made k3).2.2 q hqp hqk] at hq
          have := hf q rq hq
          omega
      · have k4 : kind = 4 := Classical.byContradiction fun z => hst (.inr ⟨k3, z⟩)
        rw [(h.gone k4).2 q hpre] at hq
        cases hq
theorem actE_val {kind : Int} {l : List Item} {key val : Bytes} (h : actE kind l key val = 0) (hk : kind = 1) : val.length ≤ 2000 := by
  unfold actE at h
  rw [if_pos hk] at h
  split at h
  · cases h
  · split at h
    · cases h
    · omega
end
section
open Go.RowKit Go.MuLone
set_option maxRecDepth 100000 in
set_option maxHeartbeats 4000000 in
theorem BDel_bad (w : World) (b : Nat) (S : PSt) (root seq : Int) (key : Bytes) (h : PagesAt w b S) (hkl : key.length ≤ 1000000) (hwd : wordB key = false) :
    Calls Tryz.prog 88 #[pagesV b, bktV root seq, str key] w fun e w' => e = .returned (.tuple #[bktV 0 0, .int .i64 1]) ∧ PagesAt w' b S ∧ PStep b w w' := by
  have o1 := (Only.refl (fun _ => False) w).alloc (.cells #[.int .i64 root, .int .i64 seq] 23)
  have h1 := h.still o1
  have A1 := Away.new h (.cells #[.int .i64 root, .int .i64 seq] 23)
  have hs1 : (w.alloc (.cells #[.int .i64 root, .int .i64 seq] 23)).heap.size = w.heap.size + 1 := Array.size_push _
  generalize hW1 : w.alloc (.cells #[.int .i64 root, .int .i64 seq] 23) = W1 at *
  have o2 := (Only.refl (fun _ => False) W1).alloc (.cells #[.int .i64 0, .int .i64 0] 23)
  have h2 := h1.still o2
  have A2 := Away.new h1 (.cells #[.int .i64 0, .int .i64 0] 23)
  rw [hs1] at A2
  have B1 := A1.still h1 o2
  have st2 := PStep.still h.lt (Only.trans o1 o2 (fun _ _ q => q))
  have HI := Lib.hid (item_bad _ b S root seq key h2 hkl hwd)
  have HS := Lib.hid (And.intro A2 st2)
  have hlt := h.lt
  have a0 := blk_cell B1.at_ 0
  have a1 := blk_cell B1.at_ 1
  simp only [List.getElem?_toArray, List.getElem?_cons_zero, List.getElem?_cons_succ] at a0 a1
  clear o1 o2 h1 h2 A1 A2 B1 st2 h
  subst hW1
  clear hs1
  unfold pagesV at HI ⊢
  unfold bktV at HI ⊢
  go_enter Tryz.func88, Tryz.ntmps88
  go_wp2_with fail
  generalize ((w.alloc (.cells #[.int .i64 root, .int .i64 seq] 23)).alloc (.cells #[.int .i64 0, .int .i64 0] 23)) = W at *
  (with_reducible refine HI.out.mono ?_)
  rintro e w2 ⟨rfl, hp2, st2⟩
  obtain ⟨B2, st0⟩ := HS.out
  have A3 := Away.new hp2 (.cells #[str [], str [], .int .i64 0] 131)
  have o3 := (Only.refl (fun _ => False) w2).alloc (.cells #[str [], str [], .int .i64 0] 131)
  have C2 := (B2.step st2).still hp2 o3
  have HF := Lib.hid (two_fin (hp2.still o3) ((st0.trans st2).trans (PStep.still hp2.lt o3)) C2 (by omega) hlt (.int .i64 0) (.int .i64 0))
  have c2 := blk_cell A3.at_ 2
  have x0 := blk_cell C2.at_ 0
  have x1 := blk_cell C2.at_ 1
  have y0 := blk_frozen C2.at_ 0
  have y1 := blk_frozen C2.at_ 1
  simp only [List.getElem?_toArray, List.getElem?_cons_zero, List.getElem?_cons_succ] at c2 x0 x1
  clear B2 st0 A3 o3 C2 hp2 st2 HS HI a0 a1
  go_wp2_with fail
  obtain ⟨g1, g2, g3⟩ := HF.out
  have x0 := blk_cell g3 0
  have x1 := blk_cell g3 1
  simp only [List.getElem?_toArray, List.getElem?_cons_zero, List.getElem?_cons_succ] at x0 x1
  exact bodyPost_ret (v := .tuple #[.agg #[.int .i64 0, .int .i64 0], .int .i64 1]) (by simp [results, Tryz.results88, go_sem, x0, x1]) rfl ⟨rfl, g1, g2⟩
theorem nameOk_name {k : Bytes} (h : nameOk k = true) : okName k := by
  unfold nameOk at h
  simp only [Bool.and_eq_true, Bool.not_eq_true', decide_eq_false_iff_not] at h
  have h1 := wordB_len h.1
  have h2 := Lib.indexByte_ge k 47
  have h3 : Lib.indexByte k 47 = -1 := by omega
  refine ⟨h1.1, h1.2, fun hm => ?_⟩
  obtain ⟨i, hi⟩ := List.getElem?_of_mem hm
  exact Lib.indexByte_none h3 i hi
end
section
open Go.RowKit
def OpEnds (w : World) (b m : Nat) (S : PSt) (R : Path → Option Rec) (p : Path) (r : Rec) (kind : Int) (key val : Bytes) : Ending → World → Prop := fun e w' =>
  (∃ er, er ≠ 0 ∧ er = actE kind r.l key val ∧ e = .returned (.tuple #[bktV 0 0, .int .i64 er]) ∧ PagesAt w' b S ∧ PStep b w w') ∨
  (∃ S1 R1 r1, actE kind r.l key val = 0 ∧ e = .returned (.tuple #[bktV r1.root r1.seq, .int .i64 0]) ∧ OpTo m S R p r kind key val S1 R1 r1 ∧ PagesAt w' b S1 ∧ PStep b w w')
structure Able (b m : Nat) (S : PSt) (R : Path → Option Rec) (p : Path) (r : Rec) (key : Bytes) : Prop where
  held : Held S R [] []
  at_ : R p = some r
  few : ∀ p r, R p = some r → r.l.length < 2 ^ m
  m11 : m ≤ 11
  key : key.length ≤ 1000000
  room : S.L.length + 13 + 2 * m ≤ 3998
  given : S.given.length + 5000 < 1000000
  seq : r.seq + 1 ≤ 1000000
theorem Able.few11 {b m : Nat} {S : PSt} {R : Path → Option Rec} {p : Path} {r : Rec} {key : Bytes} (h : Able b m S R p r key) : r.l.length < 2 ^ 11 := Nat.lt_of_lt_of_le (h.few p r h.at_) (Nat.pow_le_pow_right (by omega) h.m11)
theorem Put_op (w : World) (b m : Nat) (S : PSt) (R : Path → Option Rec) (p : Path) (r : Rec) (key val : Bytes) (h : PagesAt w b S) (A : Able b m S R p r key) :
    Calls Tryz.prog 26 #[pagesV b, bktV r.root r.seq, str key, str val] w (OpEnds w b m S R p r 1 key val) := by
  have hs := A.held.stop
  have hR := (A.held.bush.tree p r A.at_).1
  by_cases hb : wordB key = false ∨ 2000 < val.length
  · refine (BPut_bad w b S r.root r.seq key val h A.key hb).mono fun e w' q => .inl ⟨_, ?_, ?_, q.1, q.2⟩
    · split <;> decide
    · unfold actE
      rw [if_pos rfl]
      by_cases h1 : wordB key = false
      · rw [if_pos h1, if_pos h1]
      · rw [if_neg h1, if_neg h1, if_pos (hb.resolve_left h1)]
  · have hk : wordB key = true := by
      cases hc : wordB key with
      | true => rfl
      | false => exact absurd (.inl hc) hb
    have hv : ¬ 2000 < val.length := fun q => hb (.inr q)
    have hact : actE 1 r.l key val = match findItem r.l key with | some x => if x.kind = 2 then 21 else 0 | none => 0 := by
      unfold actE
      rw [if_pos rfl, if_neg (by simp [hk]), if_neg hv] <;> rfl
    by_cases hx2 : ∃ x, findItem r.l key = some x ∧ x.kind = 2
    · obtain ⟨x, hx, h2⟩ := hx2
      refine (BPut_kind w b S r.root r.seq r.l r.ids key val x h A.key hk (by omega) hR (by omega) A.few11 hx h2).mono fun e w' q => .inl ⟨21, by decide, ?_, q.1, q.2⟩
      rw [hact, hx]
      simp [h2]
    · have hx : ∀ x, findItem r.l key = some x → x.kind ≠ 2 := fun x hx h2 => hx2 ⟨x, hx, h2⟩
      obtain ⟨root', S2, ids', h1, h3, h4, h5, h6, hop⟩ := op_put (v := val) A.held A.at_ hk (by omega) hx (A.few p r A.at_) A.m11 A.room
      refine (BPut_is w b S S2 r.root root' r.seq r.l r.ids key val m h A.key hk (by omega) h4 hR h3 (by omega) (A.few p r A.at_) A.m11 A.room (by have := A.given; omega) h1 h5 h6).mono fun e w' q => .inr ⟨_, _, ⟨root', r.seq, putL r.l (madeI S key val), ids'⟩, ?_, q.1, hop, q.2⟩
      rw [hact]
      cases hf : findItem r.l key with
      | none => rfl
      | some x => simp [hx x hf]
theorem Del_op (w : World) (b m : Nat) (S : PSt) (R : Path → Option Rec) (p : Path) (r : Rec) (key val : Bytes) (h : PagesAt w b S) (A : Able b m S R p r key) :
    Calls Tryz.prog 88 #[pagesV b, bktV r.root r.seq, str key] w (OpEnds w b m S R p r 2 key val) := by
  have hs := A.held.stop
  have hR := (A.held.bush.tree p r A.at_).1
  have hact : actE 2 r.l key val = if wordB key = false then 1 else match findItem r.l key with | some x => if x.kind = 2 then 21 else 0 | none => 8 := by
    unfold actE
    rw [if_neg (by decide), if_pos rfl] <;> rfl
  cases hk : wordB key with
  | false => exact (BDel_bad w b S r.root r.seq key h A.key hk).mono fun e w' q => .inl ⟨1, by decide, by rw [hact, if_pos hk], q.1, q.2⟩
  | true =>
    rw [if_neg (by simp [hk])] at hact
    cases hf : findItem r.l key with
    | none => exact (BDel_none w b S r.root r.seq r.l r.ids key h A.key hk hR (by omega) A.few11 hf).mono fun e w' q => .inl ⟨8, by decide, by rw [hact, hf], q.1, q.2⟩
    | some x =>
      by_cases h2 : x.kind = 2
      · exact (BDel_kind w b S r.root r.seq r.l r.ids key x h A.key hk hR (by omega) A.few11 hf h2).mono fun e w' q => .inl ⟨21, by decide, by rw [hact, hf]; simp [h2], q.1, q.2⟩
      · obtain ⟨root', fnd, S2, ids', h1, h3, h4, hop⟩ := op_del (v := val) A.held A.at_ hf h2 (A.few p r A.at_) A.m11 (by have := A.room; omega)
        exact (BDel_is w b S S2 r.root root' r.seq r.l r.ids key fnd m x h A.key hk hR (by omega) (A.few p r A.at_) A.m11 (by have := A.room; omega) (by have := A.given; omega) hf h3 h2 h4 h1).mono fun e w' q => .inr ⟨_, _, ⟨root', r.seq, (dropL r.l key).1, ids'⟩, by rw [hact, hf]; simp [h2], q.1, hop, q.2⟩
theorem Make_op (w : World) (b m : Nat) (S : PSt) (R : Path → Option Rec) (p : Path) (r : Rec) (key val : Bytes) (h : PagesAt w b S) (A : Able b m S R p r key) (hd : p.length < 4) :
    Calls Tryz.prog 23 #[pagesV b, bktV r.root r.seq, str key] w (OpEnds w b m S R p r 3 key val) := by
  have hs := A.held.stop
  have hR := (A.held.bush.tree p r A.at_).1
  have hact : actE 3 r.l key val = if nameOk key = false then 1 else match findItem r.l key with | some x => if x.kind = 2 then 9 else 21 | none => 0 := by
    unfold actE
    rw [if_neg (by decide), if_neg (by decide), if_pos rfl] <;> rfl
  cases hk : nameOk key with
  | false => exact (Make_bad w b S r.root r.seq key h A.key hk).mono fun e w' q => .inl ⟨1, by decide, by rw [hact, if_pos hk], q.1, q.2⟩
  | true =>
    rw [if_neg (by simp [hk])] at hact
    cases hf : findItem r.l key with
    | none =>
      obtain ⟨root', S2, ids', h1, h3, hop⟩ := op_make (v := val) A.held A.at_ (nameOk_name hk) hf hd (A.few p r A.at_) A.m11 (by have := A.room; omega)
      exact (Make_ok w b S r.root r.seq r.l r.ids key S2 root' m h A.key hR (by omega) A.few11 hk hf (A.few p r A.at_) A.m11 (by have := A.room; omega) (by have := A.given; omega) h3 h1).mono fun e w' q => .inr ⟨_, _, ⟨root', r.seq, putL r.l (bktI key noRec), ids'⟩, by rw [hact, hf], q.1, hop, q.2⟩
    | some x =>
      by_cases h2 : x.kind = 2
      · exact (Make_dup w b S r.root r.seq r.l r.ids key x h A.key hR (by omega) A.few11 hk hf h2).mono fun e w' q => .inl ⟨9, by decide, by rw [hact, hf]; simp [h2], q.1, q.2⟩
      · exact (Make_kind w b S r.root r.seq r.l r.ids key x h A.key hR (by omega) A.few11 hk hf h2).mono fun e w' q => .inl ⟨21, by decide, by rw [hact, hf]; simp [h2], q.1, q.2⟩
theorem Drop_op (w : World) (b m : Nat) (S : PSt) (R : Path → Option Rec) (p : Path) (r : Rec) (key val : Bytes) (h : PagesAt w b S) (A : Able b m S R p r key) :
    Calls Tryz.prog 24 #[pagesV b, bktV r.root r.seq, str key] w (OpEnds w b m S R p r 4 key val) := by
  have hact : actE 4 r.l key val = oneE r.l key := by
    unfold actE
    rw [if_neg (by decide), if_neg (by decide), if_neg (by decide), if_pos rfl]
  by_cases he : oneE r.l key = 0
  · exact (DropB_is w b S R p r key m h A.held A.few A.m11 A.at_ A.key he (by have := A.room; omega) A.given).mono fun e w' q => by
      obtain ⟨S2, r2, q1, q2, q3⟩ := q
      exact .inr ⟨_, _, _, by rw [hact, he], q1, op_drop q2, q3⟩
  · exact (DropB_no w b S R p r key h A.held (fun p r hq => Nat.lt_of_lt_of_le (A.few p r hq) (Nat.pow_le_pow_right (by omega) A.m11)) A.at_ A.key he).mono fun e w' q => .inl ⟨_, he, hact.symm, q.1, q.2⟩
end
end Go.Proofs.YtbhiamcmiopnoaaGreatDoor
