/- Package big: a value is read back from its pages. Conditions: one goroutine; the pages hold the value. -/
import Derived.Test.YtbhiamcmiopnoaaGreatDoorZBuE
import Derived.OwnWalk
namespace Go.Proofs.YtbhiamcmiopnoaaGreatDoor
section
open Go.RowKit Go.MuLone
def getF (b : Nat) : Value := .func (.method "Get") #[pagesV b] #[]
theorem needN_far {L : List Node} {first : Nat} {v : Bytes} (h : FarAt L first v) {k : Nat} (hk : k < needN v.length) : nodeAt L ((first : Int) + k) = some (.over (partV v k)) := by
  have := h k hk
  rwa [Int.natCast_add] at this
theorem take_partV (v : Bytes) (k : Nat) : v.take (k * 232) ++ partV v k = v.take ((k + 1) * 232) := by
  unfold partV
  rw [show (k + 1) * 232 = k * 232 + 232 by omega, List.take_add]
theorem take_need (v : Bytes) : v.take (needN v.length * 232) = v := by
  refine List.take_of_length_le ?_
  unfold needN
  split <;> omega
theorem part_len {v : Bytes} {k : Nat} (hk : k < needN v.length) : ((partV v k).length : Int) = min ((v.length : Int) - (k : Int) * 232) 232 := by
  have := needN_in hk
  unfold partV
  rw [List.length_take, List.length_drop]
  omega
theorem getF_nil (b : Nat) (w : World) : (binOp .eql 217 (.func (.method "Get") #[pagesV b] #[]) .nilFunc).run Tryz.prog w = .ok (.bool false) w := by kernel_rfl
set_option maxRecDepth 100000 in
set_option maxHeartbeats 4000000 in
theorem BgRead_is (w : World) (b : Nat) (S : PSt) (first : Nat) (v : Bytes) (h : PagesAt w b S) (hs : S.stop < 0) (hf : 2 ≤ first ∧ first + needN v.length ≤ 4000) (hv : v.length ≤ 2000) (hL : FarAt S.L first v) :
    Calls Tryz.prog 150 #[str (refB first v.length), getF b] w fun e w' => e = .returned (.tuple #[str v, .int .i64 0]) ∧ PagesAt w' b S ∧ PStep b w w' := by
  obtain ⟨i0, hi, hz0, hz1, hz2⟩ := info_parts byteInfo
  have hne : 1 ≤ needN v.length := by unfold needN; split <;> omega
  have HU := Lib.hid (BgUnref_is w first v.length (by omega) hv)
  have HN := Lib.hid (fun W => BgNeed_is W v.length (by omega))
  have hk9 := needN_le hv
  have H0 := Lib.hid h
  have hnf := getF_nil b
  unfold getF
  go_enter Tryz.func150, Tryz.ntmps150
  go_wp2_with fail
  (with_reducible refine HU.out.mono ?_)
  rintro e w2 ⟨rfl, o2⟩
  go_wp2_with fail
  (with_reducible refine (HN.out w2).mono ?_)
  rintro e w3 ⟨rfl, rfl⟩
  go_wp2_with fail
  have HO := Lib.hid (And.intro (H0.out.still o2) (PStep.still H0.out.lt o2))
  clear o2 HU HN h
  go_loopg [9, 28] (needN v.length) (fun gh ov iv wr => ∃ k : Nat, gh + k = needN v.length ∧ iv = .int .i64 k ∧ wr.ownsRow 0 5 1 ov (v.take (k * 232)).length (u8s (v.take (k * 232))) ∧ PagesAt wr b S ∧ PStep b w wr ∧ ∀ j, ov.ownBlock = some j → w.heap.size ≤ j ∧ ¬ pown wr b j)
  case atStart => exact ⟨0, by omega, rfl, ⟨rfl, .inl ⟨rfl, rfl⟩⟩, HO.out.1, HO.out.2, fun j q => by cases q⟩
  case round =>
    obtain ⟨k, hgk, rfl, hown, hp, hst, hfr⟩ := hrel
    obtain ⟨n0, hn0⟩ : ∃ n0, (v.take (k * 232)).length = n0 := ⟨_, rfl⟩
    have hn1 : n0 ≤ 2000 := by rw [← hn0, List.length_take]; omega
    rw [hn0] at hown
    obtain ⟨aO, cO, rfl⟩ := ownsRow_form hown
    have HN0 := Lib.hid hn0
    clear hn0
    by_cases hk : k < needN v.length
    · have hk1 : (k : Int) < (needN v.length : Int) := by omega
      have hn := needN_far hL hk
      have hG : ∀ W, PagesAt W b S → Calls Tryz.prog 255 #[.pointer (some ⟨b, 0, none⟩), .int .i64 ((first : Int) + (k : Int))] W fun e w' => e = .returned (.tuple #[.agg #[.int .i64 5, .int .i64 ((first : Int) + (k : Int)), .int .i64 0, str (partV v k)], .int .i64 0]) ∧ PagesAt w' b S ∧ PStep b W w' := fun W hW => by
        have := PGet_is W b S ((first : Int) + (k : Int)) hW (by omega)
        have e : getP S ((first : Int) + (k : Int)) = (.ok (.over (partV v k)), S) := by
          rw [getP_is S _ (by omega), hn]
          unfold told
          rw [if_neg (by omega)]
        rw [e] at this
        exact this
      have HG := Lib.hid hG
      have HR := Lib.hid (And.intro hown (And.intro hst hfr))
      have HP := Lib.hid hp
      have hw1 : IntKind.i64.wrap ((k : Int) + 1) = (k : Int) + 1 := by exact IntWalk.i64_in _ (by omega)
      have hw2 : IntKind.i64.wrap ((first : Int) + (k : Int)) = (first : Int) + (k : Int) := by exact IntWalk.i64_in _ (by omega)
      have hw3 : IntKind.i64.wrap ((k : Int) * 232) = (k : Int) * 232 := by exact IntWalk.i64_in _ (by omega)
      have hm := fun n => m_Get n ⟨b, 0, none⟩
      clear hG hown hst hfr hp
      unfold pagesV
      go_wp2_with fail
      (with_reducible refine (HG.out wr HP.out).mono ?_)
      rintro e w4 ⟨rfl, hp4, st4⟩
      obtain ⟨hown, hst, hfr⟩ := HR.out
      have oA := (Only.refl (fun _ => False) w4).alloc (.cells #[.int .i64 5, .int .i64 ((first : Int) + (k : Int)), .int .i64 0, str (partV v k)] 252)
      have bA := blk_new w4 (.cells #[.int .i64 5, .int .i64 ((first : Int) + (k : Int)), .int .i64 0, str (partV v k)] 252)
      have c0 := blk_cell bA 0
      have c3 := blk_cell bA 3
      simp only [List.getElem?_toArray, List.getElem?_cons_zero, List.getElem?_cons_succ] at c0 c3
      have own4 := own_only (own_only hown st4.only (fun j q => (hfr j q).2)) oA (fun _ _ q => q)
      have hp5 := hp4.still oA
      have st5 := (hst.trans st4).trans (PStep.still hp4.lt oA)
      have hf4 : ∀ j, (Value.slice aO n0 cO).ownBlock = some j → w.heap.size ≤ j ∧ ¬ pown (w4.alloc (.cells #[.int .i64 5, .int .i64 ((first : Int) + (k : Int)), .int .i64 0, str (partV v k)] 252)) b j := fun j hj => ⟨(hfr j hj).1, fun q => by
        rcases st4.own j ((pown_of_heap (oA.block b hp4.lt id) j).1 q) with q | q
        · exact (hfr j hj).2 q
        · have := (hown.lt j hj).2
          omega⟩
      have hlen := part_len hk
      have HB := Lib.hid (And.intro own4 (And.intro hp5 (And.intro st5 hf4)))
      have hpl := partV_length v k
      have HT := Lib.hid (strCells_eq (partV v k))
      clear hown hst hfr oA bA hp5 st5 hf4 hp4 st4 HR HP HG
      generalize hW5 : (w4.alloc (.cells #[.int .i64 5, .int .i64 ((first : Int) + (k : Int)), .int .i64 0, str (partV v k)] 252)) = W5 at *
      go_wp2_with (at_builtin; refine wpList_append_moved_string _ rfl _ _ 100 9 rfl 5 i0 Tryz.underlying100 Tryz.underlying9 hi hz0 hz1 hz2 _ _ _ rfl own4 ⟨(partV v k).toArray⟩ rfl (by unfold maxLen; simp [ByteArray.size]; omega) (by simp [ByteArray.size]; omega) ?_; intro a' c' wa hown2 hgr hmv; have HX := Lib.hid (And.intro hown2 (And.intro hgr hmv)); clear hown2 hgr hmv)
      all_goals
        go_roundg (needN v.length - (k + 1))
        case measure => omega
        case rel =>
          obtain ⟨hown2, hgr, hmv⟩ := HX.out
          obtain ⟨own4, hp5, st5, hf4⟩ := HB.out
          rw [HT.out] at hown2
          have hq : Only (fun j => (Value.slice aO n0 cO).ownBlock = some j) W5 wa := (Only.refl _ W5).grown hgr (fun _ _ h => h)
          have hbk : (Value.slice aO n0 cO).ownBlock ≠ some b := fun e => (hf4 b e).2 (.inl rfl)
          have hpn : ∀ j, pown wa b j ↔ pown W5 b j := pown_of_heap (hq.block b hp5.lt hbk)
          have hl2 : (v.take ((k + 1) * 232)).length = n0 + (partV v k).length := by rw [← take_partV, List.length_append, HN0.out]
          refine ⟨k + 1, by omega, by go_num, ?_, ?_, ?_, fun j hj => ?_⟩
          · rw [hl2, ← take_partV]
            simpa [u8s, ByteArray.size] using hown2
          · obtain ⟨vL, vG, hI⟩ := hp5
            exact ⟨vL, vG, hI.beside hq (fun j q e => (hf4 j e).2 q)⟩
          · exact st5.fresh H0.out.lt hq (fun j e => (hf4 j e).1)
          · have hsz := st5.only.size
            rcases hmv j (by simpa [ByteArray.size] using hj) with q | q
            · exact ⟨(hf4 j q).1, fun z => (hf4 j q).2 ((hpn j).1 z)⟩
            · refine ⟨by omega, fun z => ?_⟩
              have := pown_lt hp5 ((hpn j).1 z)
              omega
    · have hk2 : k = needN v.length := by omega
      have hk1 : ¬ (k : Int) < (needN v.length : Int) := by omega
      have htk : v.take (k * 232) = v := by rw [hk2]; exact take_need v
      have hC : ∀ W, W = wr → (convert 100 9 (.slice aO n0 cO)).run Tryz.prog W = .ok (str v) W := fun W e => by
        rw [e]
        rw [htk] at hown
        refine conv_bytes wr _ v ?_
        have : n0 = v.length := by rw [← HN0.out, htk]
        rw [this] at hown ⊢
        exact hown
      have hC2 := hC wr rfl
      have HF := Lib.hid (And.intro hp hst)
      clear hown hfr hp hst hC htk
      go_wp2_with fail
      go_ret2
      exact ⟨rfl, HF.out⟩
end
section
open Go.RowKit Go.MuLone
set_option maxRecDepth 100000 in
set_option maxHeartbeats 4000000 in
theorem BVal_is (w : World) (b : Nat) (S : PSt) (x : Item) (v : Bytes) (h : PagesAt w b S) (hs : S.stop < 0) (hx : Sem S.L x v) :
    Calls Tryz.prog 101 #[pagesV b, itV x] w fun e w' => e = .returned (.tuple #[str v, .int .i64 0]) ∧ PagesAt w' b S ∧ PStep b w w' := by
  have o1 := (Only.refl (fun _ => False) w).alloc (.cells #[str x.key, str x.val, .int .i64 x.kind] 131)
  have h1 := h.still o1
  have st1 := PStep.still h.lt o1
  have bA := blk_new w (.cells #[str x.key, str x.val, .int .i64 x.kind] 131)
  have c1 := blk_cell bA 1
  have c2 := blk_cell bA 2
  simp only [List.getElem?_toArray, List.getElem?_cons_zero, List.getElem?_cons_succ] at c1 c2
  have hnp := (Away.new h (.cells #[str x.key, str x.val, .int .i64 x.kind] 131)).not
  clear bA o1 h
  unfold itV
  cases hx with
  | plain k v hv =>
    have HH := Lib.hid (And.intro h1 st1)
    clear h1 st1 hv hnp
    unfold pagesV
    go_enter Tryz.func101, Tryz.ntmps101
    go_wp2_with fail
    go_ret2
    exact ⟨rfl, HH.out⟩
  | far k v first hv hf hL =>
    have HN : Hid (∀ W W' : World, (W.cell? ⟨w.heap.size, 1, none⟩ = some (str (refB first v.length)) ∧ Hid (PagesAt W b S ∧ PStep b w W ∧ ¬ pown W b w.heap.size)) → PStep b W W' → PagesAt W' b S → (W'.cell? ⟨w.heap.size, 1, none⟩ = some (str (refB first v.length)) ∧ Hid (PagesAt W' b S ∧ PStep b w W' ∧ ¬ pown W' b w.heap.size))) := Lib.hid (fun W W' h st hp => ⟨(st.only.cell (p := ⟨w.heap.size, 1, none⟩) (lt_of_cell h.1) h.2.out.2.2).trans h.1, Lib.hid ⟨hp, h.2.out.2.1.trans st, fun q => (st.own _ q).elim h.2.out.2.2 (fun q => by have : w.heap.size < W.heap.size := lt_of_cell h.1; omega)⟩⟩)
    have HR := Lib.hid (fun W (h : W.cell? ⟨w.heap.size, 1, none⟩ = some (str (refB first v.length)) ∧ Hid (PagesAt W b S ∧ PStep b w W ∧ ¬ pown W b w.heap.size)) => BgRead_is W b S first v h.2.out.1 hs hf hv.2 hL)
    have H1 : Hid (PagesAt (w.alloc (.cells #[str k, str (refB first v.length), .int .i64 1] 131)) b S ∧ PStep b w (w.alloc (.cells #[str k, str (refB first v.length), .int .i64 1] 131)) ∧ ¬ pown (w.alloc (.cells #[str k, str (refB first v.length), .int .i64 1] 131)) b w.heap.size) := Lib.hid ⟨h1, st1, hnp⟩
    unfold getF at HR
    clear h1 st1 hv hf hL hnp
    unfold pagesV at *
    go_enter Tryz.func101, Tryz.ntmps101
    go_wp2_with fail
    generalize hW1 : w.alloc (.cells #[str k, str (refB first v.length), .int .i64 1] 131) = W1 at *
    go_region_held3 (fun w' => w'.cell? ⟨w.heap.size, 1, none⟩ = some (str (refB first v.length)) ∧ Hid (PagesAt w' b S ∧ PStep b w w' ∧ ¬ pown w' b w.heap.size)) (first | exact ⟨c1, H1⟩ | exact HN.out _ _ ⟨c1, H1⟩ (PStep.still H1.out.1.lt (Only.refl _ _).drew) (H1.out.1.still (Only.refl _ _).drew) | exact HN.out _ _ (by assumption) st3 hp3) (first | ((with_reducible refine (HR.out _ ?hh).mono ?_); (case hh => assumption); rintro _ w3 ⟨rfl, hp3, st3⟩))
    rename_i hH
    have HE := Lib.hid (And.intro hH.2.out.1 hH.2.out.2.1)
    clear hH st3 hp3 HR HN H1
    go_wp2_with fail
    go_ret2
    exact ⟨rfl, HE.out⟩
theorem findItem_mem {l : List Item} {k : Bytes} {x : Item} (h : findItem l k = Option.some x) : x ∈ l ∧ x.key = k := by
  unfold findItem at h
  split at h
  · rename_i y r hb
    split at h
    · rename_i hk
      cases h
      refine ⟨(List.dropWhile_suffix _).subset (?_ : x ∈ behind l k), hk⟩
      rw [hb]
      simp
    · cases h
  · cases h
theorem Sem.not2 {L : List Node} {x : Item} {v : Bytes} (h : Sem L x v) : x.kind = 0 ∨ x.kind = 1 := by
  cases h
  · exact .inl rfl
  · exact .inr rfl
set_option maxRecDepth 100000 in
set_option maxHeartbeats 4000000 in
theorem BGet_some (w : World) (b : Nat) (S : PSt) (root seq : Int) (l : List Item) (ids : List Int) (key : Bytes) (x : Item) (v : Bytes) (h : PagesAt w b S) (hkl : key.length ≤ 1000000) (R : Rooted S.L root l ids) (hs : S.stop < 0) (h2m : l.length < 2 ^ 11) (hwd : wordB key = true) (hx : findItem l key = some x) (hv : Sem S.L x v) :
    Calls Tryz.prog 27 #[pagesV b, bktV root seq, str key] w fun e w' => e = .returned (.tuple #[str v, .bool true, .int .i64 0]) ∧ PagesAt w' b S ∧ PStep b w w' := by
  have o1 := (Only.refl (fun _ => False) w).alloc (.cells #[.int .i64 root, .int .i64 seq] 23)
  have h1 := h.still o1
  have st1 := PStep.still h.lt o1
  have bA := blk_new w (.cells #[.int .i64 root, .int .i64 seq] 23)
  have a0 := blk_cell bA 0
  have a1 := blk_cell bA 1
  simp only [List.getElem?_toArray, List.getElem?_cons_zero, List.getElem?_cons_succ] at a0 a1
  have HI := Lib.hid (item_is _ b S root seq l ids key h1 R hs h2m hkl hwd)
  unfold GetEnds at HI
  rw [hx] at HI
  unfold itemOr itemV itemC at HI
  have HS := Lib.hid st1
  clear hx
  have HV := Lib.hid (fun W hp => BVal_is W b S x v hp hs hv)
  have hk3 : (x.kind == 2) = false := by rcases hv.not2 with q | q <;> rw [q] <;> rfl
  clear hv
  unfold itV at HV
  clear bA o1 h1 st1 h R
  unfold pagesV at *
  unfold bktV at *
  go_enter Tryz.func27, Tryz.ntmps27
  go_wp2_with fail
  generalize (w.alloc (.cells #[.int .i64 root, .int .i64 seq] 23)) = W at *
  (with_reducible refine HI.out.mono ?_)
  rintro e w2 ⟨rfl, hp2, st2⟩
  have A3 := Away.new hp2 (.cells #[str x.key, str x.val, .int .i64 x.kind] 131)
  have o3 := (Only.refl (fun _ => False) w2).alloc (.cells #[str x.key, str x.val, .int .i64 x.kind] 131)
  have HF := Lib.hid (And.intro (hp2.still o3) ((HS.out.trans st2).trans (PStep.still hp2.lt o3)))
  have c0 := blk_cell A3.at_ 0
  have c1 := blk_cell A3.at_ 1
  have c2 := blk_cell A3.at_ 2
  simp only [List.getElem?_toArray, List.getElem?_cons_zero, List.getElem?_cons_succ] at c0 c1 c2
  clear A3 o3 hp2 st2 HS HI a0 a1
  go_wp2_with fail
  (with_reducible refine (HV.out _ HF.out.1).mono ?_)
  rintro e w4 ⟨rfl, hp4, st4⟩
  have HG := Lib.hid (And.intro hp4 (HF.out.2.trans st4))
  clear hp4 st4 HF HV c0 c1 c2
  go_wp2_with fail
  go_ret3
  exact ⟨rfl, HG.out⟩
end
end Go.Proofs.YtbhiamcmiopnoaaGreatDoor
