/- Package bucket over the law's pages: the item of a key. Conditions: one goroutine; the pages hold the tree. -/
import Derived.Test.YtbhiamcmiopnoaaGreatDoorZBuA
import Derived.Test.YtbhiamcmiopnoaaGreatDoorZTreeE
import Derived.Test.YtbhiamcmiopnoaaGreatDoorZBuPs
import Derived.Test.YtbhiamcmiopnoaaGreatDoorZBuB
namespace Go.Proofs.YtbhiamcmiopnoaaGreatDoor
section
open Go.RowKit
def bktV (root seq : Int) : Value := .agg #[.int .i64 root, .int .i64 seq]
theorem bpages_nil (b : Nat) (w : World) : (binOp .eql 125 (pagesV b) .nilIface).run Tryz.prog w = .ok (.bool false) w := by kernel_rfl
set_option maxRecDepth 100000 in
set_option maxHeartbeats 4000000 in
theorem item_is (w : World) (b : Nat) (S : PSt) (root seq : Int) (l : List Item) (ids : List Int) (key : Bytes) (h : PagesAt w b S) (R : Rooted S.L root l ids) (hs : S.stop < 0) (hl : l.length < 2 ^ 11) (hk : key.length ≤ 1000000) (hw : wordB key = true) :
    Calls Tryz.prog 95 #[pagesV b, bktV root seq, str key] w (GetEnds w b S l key) := by
  have hnil := bpages_nil b
  have o1 := (Only.refl (fun _ => False) w).alloc (.cells #[.int .i64 root, .int .i64 seq] 23)
  have h1 := h.still o1
  have o2 := o1.alloc (.cells #[str [], str [], .int .i64 0] 131)
  have HB := Blk.new h1 #[str [], str [], .int .i64 0] 131
  have s1 : (w.alloc (.cells #[.int .i64 root, .int .i64 seq] 23)).heap.size = w.heap.size + 1 := Array.size_push _
  rw [s1] at HB
  have hb0 := blk_keep (blk_new w (.cells #[.int .i64 root, .int .i64 seq] 23)) ((Only.refl (fun _ => False) _).alloc (.cells #[str [], str [], .int .i64 0] 131)) id
  have h2 := h.still o2
  have hst := PStep.still h.lt o2
  have hml : maxLen = 9223372036854775807 := by decide
  have HW := Lib.hid (fun W => word_is W key (by omega))
  rw [hw] at HW
  have hb0' := blk_cell hb0 0
  simp only [List.getElem?_toArray, List.getElem?_cons_zero] at hb0'
  have HG := Lib.hid (tGet_is _ b S root l ids key h2 R hs hl)
  have HH := Lib.hid (And.intro HB (And.intro hst h.lt))
  clear HB hst h1 o1 h2 o2 s1 hml hb0 h R hs hl hw
  unfold bktV
  unfold pagesV GetEnds at *
  go_enter Tryz.func95, Tryz.ntmps95
  go_wp2_with fail
  generalize (w.alloc (.cells #[.int .i64 root, .int .i64 seq] 23)).alloc (.cells #[str [], str [], .int .i64 0] 131) = W at *
  (with_reducible refine (HW.out W).mono ?_)
  rintro e _ ⟨rfl, rfl⟩
  go_wp2_with fail
  (with_reducible refine HG.out.mono ?_)
  rintro e w2 ⟨rfl, hp2, st2⟩
  obtain ⟨hB, hst, hlt⟩ := HH.out
  have hb2 := hB.step st2
  have hst2 := hst.trans st2
  have hw2 : w.heap.size ≤ w.heap.size + 1 := by omega
  have fin : ∀ (x0 x1 x2 : Value), PagesAt (three w2 (w.heap.size + 1) x0 x1 x2) b S ∧ PStep b w (three w2 (w.heap.size + 1) x0 x1 x2) ∧ (three w2 (w.heap.size + 1) x0 x1 x2).heap[w.heap.size + 1]? = some (.cells #[x0, x1, x2] 131 (0, 0)) := fun x0 x1 x2 => by
    have ho := three_only w2 (w.heap.size + 1) x0 x1 x2
    obtain ⟨vL, vG, hI⟩ := hp2
    exact ⟨⟨vL, vG, hI.beside ho (fun j q e => hb2.2 (e ▸ q))⟩, hst2.fresh hlt ho (fun j e => by have e2 : j = w.heap.size + 1 := e; omega), three_heap hb2.1 _ _ _⟩
  have HFIN := Lib.hid fin
  have c0 := blk_cell hb2.1 0
  have c1 := blk_cell hb2.1 1
  have c2 := blk_cell hb2.1 2
  have z0 := blk_frozen hb2.1 0
  have z1 := blk_frozen hb2.1 1
  have z2 := blk_frozen hb2.1 2
  simp only [List.getElem?_toArray, List.getElem?_cons_zero, List.getElem?_cons_succ] at c0 c1 c2
  clear fin hB hst hb2 hst2 hp2 st2 HG HH HW
  cases hfi : findItem l key with
  | some x =>
    have HF := Lib.hid hfi
    clear hfi
    unfold itemOr itemV itemC
    go_wp2_with fail
    obtain ⟨f1, f2, f3⟩ := HFIN.out (str x.key) (str x.val) (.int .i64 x.kind)
    unfold three at f1 f2 f3
    have q0 := blk_cell f3 0
    have q1 := blk_cell f3 1
    have q2 := blk_cell f3 2
    simp only [List.getElem?_toArray, List.getElem?_cons_zero, List.getElem?_cons_succ] at q0 q1 q2
    exact bodyPost_ret (v := .tuple #[.agg #[str x.key, str x.val, .int .i64 x.kind], .bool true, .int .i64 0]) (by simp [results, Tryz.results95, go_sem, q0, q1, q2]) rfl ⟨by first | rfl | (rw [HF.out]; rfl), f1, f2⟩
  | none =>
    have HF := Lib.hid hfi
    clear hfi
    unfold itemOr
    go_wp2_with fail
    obtain ⟨f1, f2, f3⟩ := HFIN.out (str []) (str []) (.int .i64 0)
    unfold three at f1 f2 f3
    have q0 := blk_cell f3 0
    have q1 := blk_cell f3 1
    have q2 := blk_cell f3 2
    simp only [List.getElem?_toArray, List.getElem?_cons_zero, List.getElem?_cons_succ] at q0 q1 q2
    exact bodyPost_ret (v := .tuple #[.agg #[str [], str [], .int .i64 0], .bool false, .int .i64 0]) (by simp [results, Tryz.results95, go_sem, q0, q1, q2]) rfl ⟨by first | rfl | (rw [HF.out]; rfl), f1, f2⟩
end
section
open Go.RowKit Go.MuLone
theorem m_Run (n : Nat) (a : Addr) (w : World) : (method (n + 1) 52 (.pointer (some a)) "Run").run Tryz.prog w = .ok (258, .pointer (some a)) w := by kernel_rfl
def okSem (L : List Node) (x : Item) : Prop := x.kind = 2 ∨ ∃ v, Sem L x v
set_option maxRecDepth 100000 in
set_option maxHeartbeats 4000000 in
theorem BDrop_is (w : World) (b : Nat) (S : PSt) (x : Item) (h : PagesAt w b S) (hx : okSem S.L x) (hg : S.given.length + 20 < 1000000) :
    Calls Tryz.prog 136 #[pagesV b, .agg #[str x.key, str x.val, .int .i64 x.kind]] w fun e w' => e = .returned (.int .i64 0) ∧ PagesAt w' b (freeL S (itemIds x)) ∧ PStep b w w' := by
  have o1 := (Only.refl (fun _ => False) w).alloc (.cells #[str x.key, str x.val, .int .i64 x.kind] 131)
  have h1 := h.still o1
  have st1 := PStep.still h.lt o1
  by_cases hk : x.kind = 1
  · obtain ⟨k, v, first, hv, hf, rfl⟩ : ∃ (k v : Bytes) (first : Nat), (96 < v.length ∧ v.length ≤ 2000) ∧ (2 ≤ first ∧ first + needN v.length ≤ 4000) ∧ x = ⟨k, refB first v.length, 1⟩ := by
      rcases hx with hx | ⟨v, hx⟩
      · omega
      · cases hx with
        | plain k v h => cases hk
        | far k v first a1 a2 a3 => exact ⟨k, v, first, a1, a2, rfl⟩
    have hneed : 1 ≤ needN v.length := by unfold needN; split <;> omega
    have hids := ref_ids (k := k) (first := first) (n := v.length) (by omega) (by omega)
    rw [hids]
    have hl9 := needN_le hv.2
    have HI := Lib.hid (BgIds_is (w.alloc (.cells #[str k, str (refB first v.length), .int .i64 1] 131)) first v.length (by omega) hv.2)
    have hm := fun n => m_Free n ⟨b, 0, none⟩
    have HH := Lib.hid (And.intro h1 st1)
    clear h h1 st1 o1 hx hids
    unfold pagesV
    go_enter Tryz.func136, Tryz.ntmps136
    go_wp2_with fail
    generalize (w.alloc (.cells #[str k, str (refB first v.length), .int .i64 1] 131)) = W at *
    (with_reducible refine HI.out.mono ?_)
    rintro e w2 ⟨V, rfl, hV, o2, hfr⟩
    obtain ⟨h1, st1⟩ := HH.out
    have h2 := h1.still o2
    have hst := st1.trans (PStep.still h1.lt o2)
    have HF := Lib.hid (PFreeN_is w2 b S (farIds first v.length) V h2 (by simp [farIds]; omega) hV (fun j hj q => by have := hfr j hj; have := pown_lt h1 ((pown_of_heap (o2.block b h1.lt id) j).1 q); omega))
    have HS := Lib.hid hst
    clear hV o2 hfr h1 st1 h2 hst HI HH
    go_wp2_with fail
    (with_reducible refine HF.out.mono ?_)
    rintro e w3 ⟨rfl, h3, st3⟩
    have HE := Lib.hid (And.intro h3 (HS.out.trans st3))
    clear h3 st3 HS HF
    go_wp2_with fail
    go_ret
    exact ⟨rfl, HE.out⟩
  · have hids : itemIds x = [] := by unfold itemIds; rw [if_neg hk]
    rw [hids]
    have hk2 : (x.kind != 1) = true := by simpa using hk
    have HH := Lib.hid (And.intro h1 st1)
    clear h h1 st1 o1 hx hids
    unfold pagesV
    go_enter Tryz.func136, Tryz.ntmps136
    go_wp2_with fail
    go_ret
    exact ⟨rfl, HH.out⟩
end
section
open Go.RowKit Go.MuLone
def parts (v : Bytes) : List Bytes := (List.range (needN v.length)).map (partV v)
theorem parts_over (v : Bytes) : (parts v).map Node.over = overs v (needN v.length) := by simp [parts, overs]
def madeCs (v : Bytes) : List Bytes := if v.length ≤ 96 then [] else parts v
def madeI (S : PSt) (key v : Bytes) : Item := if v.length ≤ 96 then ⟨key, v, 0⟩ else ⟨key, refB (S.L.length + 2) v.length, 1⟩
def itV (x : Item) : Value := .agg #[str x.key, str x.val, .int .i64 x.kind]
theorem three_fin {w w2 : World} {b B : Nat} {S : PSt} {y0 y1 y2 : Value} {t : TypeId} (hp : PagesAt w2 b S) (st : PStep b w w2) (hB : w2.heap[B]? = some (.cells #[y0, y1, y2] t (0, 0))) (hf : w.heap.size ≤ B) (hn : ¬ pown w2 b B) (hlt : b < w.heap.size) (x0 x1 x2 : Value) :
    PagesAt (three w2 B x0 x1 x2) b S ∧ PStep b w (three w2 B x0 x1 x2) ∧ (three w2 B x0 x1 x2).heap[B]? = some (.cells #[x0, x1, x2] t (0, 0)) := by
  have ho := three_only w2 B x0 x1 x2
  obtain ⟨vL, vG, hI⟩ := hp
  exact ⟨⟨vL, vG, hI.beside ho (fun j q e => hn (e ▸ q))⟩, st.fresh hlt ho (fun j e => by have e2 : j = B := e; omega), three_heap hB _ _ _⟩
theorem RunTo.step {b : Nat} {S : PSt} {g : Nat} {w w2 w3 : World} {ns : List Node} (h : RunTo b S g w2 w3 ns) (st : PStep b w w2) (hg : w.heap.size ≤ g) : PStep b w w3 :=
  ⟨Only.trans st.only h.only (fun i hi q => q.elim (fun q => (st.own i q).elim id (fun q => by omega)) (fun q => by omega)), fun k q => (h.own k q).elim (st.own k) (fun q => .inr (Nat.le_trans st.only.size q))⟩
theorem layP_nil (S : PSt) : layP S [] = S := by simp [layP]
set_option maxRecDepth 100000 in
set_option maxHeartbeats 4000000 in
theorem BMade_is (w : World) (b : Nat) (S : PSt) (key v : Bytes) (h : PagesAt w b S) (hv : v.length ≤ 2000) (hL : S.L.length + 9 ≤ 3998) :
    Calls Tryz.prog 100 #[pagesV b, str key, str v] w fun e w' => e = .returned (.tuple #[itV (madeI S key v), .int .i64 0]) ∧ PagesAt w' b (layP S (madeCs v)) ∧ PStep b w w' := by
  have o2 := (Only.refl (fun _ => False) w).alloc (.cells #[str [], str [], .int .i64 0] 131)
  have h2 := h.still o2
  have hst := PStep.still h.lt o2
  have hlt := h.lt
  have hb0 := blk_new w (.cells #[str [], str [], .int .i64 0] 131)
  have hsz : (w.alloc (.cells #[str [], str [], .int .i64 0] 131)).heap.size = w.heap.size + 1 := Array.size_push _
  have hfp : ¬ pown (w.alloc (.cells #[str [], str [], .int .i64 0] 131)) b w.heap.size := fun q => by
    have := pown_lt h ((pown_of_heap (o2.block b h.lt id) _).1 q)
    omega
  have hp := needN_le hv
  by_cases h96 : v.length ≤ 96
  · have e1 : madeI S key v = ⟨key, v, 0⟩ := if_pos h96
    have e2 : madeCs v = [] := if_pos h96
    have q1 : decide ((v.length : Int) ≤ 96) = true := decide_eq_true (by omega)
    rw [e1, e2, layP_nil]
    have oF := (Only.refl (fun _ => False) w).alloc (.cells #[str key, str v, .int .i64 0] 131)
    have HF := Lib.hid (And.intro (h.still oF) (PStep.still h.lt oF))
    have c0 := blk_cell hb0 0
    have c1 := blk_cell hb0 1
    have c2 := blk_cell hb0 2
    have z0 := blk_frozen hb0 0
    have z1 := blk_frozen hb0 1
    have z2 := blk_frozen hb0 2
    simp only [List.getElem?_toArray, List.getElem?_cons_zero, List.getElem?_cons_succ] at c0 c1 c2
    clear oF h o2 h2 hst hb0 hsz hfp e1 e2
    unfold pagesV itV
    go_enter Tryz.func100, Tryz.ntmps100
    go_wp2_with fail
    exact bodyPost_ret (v := .tuple #[.agg #[str key, str v, .int .i64 0], .int .i64 0]) (by simp [results, Tryz.results100, go_sem, str]) rfl ⟨rfl, HF.out.1, HF.out.2⟩
  · have e1 : madeI S key v = ⟨key, refB (S.L.length + 2) v.length, 1⟩ := if_neg h96
    have e2 : madeCs v = parts v := if_neg h96
    have q1 : decide ((v.length : Int) ≤ 96) = false := decide_eq_false (by omega)
    have hne : 1 ≤ needN v.length := by unfold needN; split <;> omega
    have hm := fun n => m_Run n ⟨b, 0, none⟩
    have hec : ((S.L.length + 2 : Nat) : Int) = (S.L.length : Int) + 2 := by omega
    have HR := Lib.hid (fun W => BgRef_is W (S.L.length + 2) v.length (by omega) hv)
    rw [hec] at HR
    rw [e1, e2]
    have HL := Lib.hid (BgLay_is (w.alloc (.cells #[str [], str [], .int .i64 0] 131)) v hv)
    have HB := Lib.hid (And.intro hb0 (And.intro h2 (And.intro hst (And.intro hfp hsz))))
    clear h o2 h2 hst hb0 hsz hfp e1 e2
    unfold pagesV itV
    go_enter Tryz.func100, Tryz.ntmps100
    go_wp2_with fail
    generalize (w.alloc (.cells #[str [], str [], .int .i64 0] 131)) = W at *
    (with_reducible refine HL.out.mono ?_)
    rintro e w2 ⟨a, c, rfl, hown, o2, hfr⟩
    obtain ⟨hb0, h2, hst, hfp, hsz⟩ := HB.out
    obtain ⟨g, rfl, hb, hgf⟩ : ∃ g, a = some ⟨g, 0, none⟩ ∧ (∃ cur t, w2.heap[g]? = some (.cells cur t (0, 0))) ∧ W.heap.size ≤ g := by
      rcases hown.2 with ⟨q, h0⟩ | ⟨g, cap, cur, hv, hbase, hb, h1, h2, h3, h4⟩
      · omega
      · injection hv with hv1 hv2 hv3
        exact ⟨g, hv1, ⟨_, _, hb⟩, hfr g (by rw [hv1]; rfl)⟩
    obtain ⟨cur, tc, hb⟩ := hb
    have hov := overs_length v (needN v.length)
    have hT : Tail w2 g (overs v (needN v.length)) 0 := fun m n _ hn j u hu => ⟨own_cell hown (m * 4 + j) u (pagesC_get hn hu), heap_frozen hb _⟩
    have h3 := h2.still o2
    have hb2 := blk_keep hb0 o2 id
    have hgp : ¬ pown w2 b g := fun q => by
      have := pown_lt h2 ((pown_of_heap (o2.block b h2.lt id) g).1 q)
      omega
    have hfp2 : ¬ pown w2 b w.heap.size := fun q => hfp ((pown_of_heap (o2.block b h2.lt id) _).1 q)
    have HN := Lib.hid (PRun_is w2 b S (overs v (needN v.length)) g c h3 (fun n hn => by
      obtain ⟨i, _, rfl⟩ := List.mem_map.1 hn
      exact partV_length v i) (by omega) hT (blk_lt hb) hgp)
    rw [hov] at HN
    have HC := Lib.hid (And.intro hb2 (And.intro (hst.trans (PStep.still h2.lt o2)) (And.intro hfp2 (And.intro hgf hsz))))
    clear hown o2 hfr hb0 h2 hst hfp hb hT h3 hb2 hgp hfp2 HL HB hgf hsz
    go_wp2_with fail
    (with_reducible refine HN.out.mono ?_)
    rintro e w3 ⟨rfl, hrun⟩
    obtain ⟨hb2, st2, hfp2, hgf, hsz⟩ := HC.out
    have hb3 := blk_keep hb2 hrun.only (fun q => q.elim hfp2 (fun q => by omega))
    have st3 := hrun.step st2 (by omega)
    have hfp3 : ¬ pown w3 b w.heap.size := fun q => (hrun.own _ q).elim hfp2 (fun q => by have := blk_lt hb2; omega)
    have HD := Lib.hid (And.intro hb3 (And.intro hrun.pages (And.intro st3 hfp3)))
    clear hb2 st2 hfp2 hgf hsz hb3 st3 hfp3 hrun HC HN
    go_wp2_with fail
    (with_reducible refine (HR.out w3).mono ?_)
    rintro e w4 ⟨rfl, o4⟩
    obtain ⟨hb3, h3, st3, hfp3⟩ := HD.out
    have hb4 := blk_keep hb3 o4 id
    have h4 := h3.still o4
    have st4 := st3.trans (PStep.still h3.lt o4)
    have hfp4 : ¬ pown w4 b w.heap.size := fun q => hfp3 ((pown_of_heap (o4.block b h3.lt id) _).1 q)
    have c0 := blk_cell hb4 0
    have c1 := blk_cell hb4 1
    have c2 := blk_cell hb4 2
    have z0 := blk_frozen hb4 0
    have z1 := blk_frozen hb4 1
    have z2 := blk_frozen hb4 2
    simp only [List.getElem?_toArray, List.getElem?_cons_zero, List.getElem?_cons_succ] at c0 c1 c2
    have HE := Lib.hid (And.intro hb4 (And.intro h4 (And.intro st4 hfp4)))
    clear hb3 h3 st3 hfp3 hb4 h4 st4 hfp4 o4 HD HR
    go_wp2_with fail
    obtain ⟨d0, d1, d2, d3⟩ := HE.out
    obtain ⟨f1, f2, f3⟩ := three_fin d1 d2 d0 (Nat.le_refl _) d3 hlt (str key) (str (refB (S.L.length + 2) v.length)) (.int .i64 1)
    unfold three at f1 f2 f3
    have x0 := blk_cell f3 0
    have x1 := blk_cell f3 1
    have x2 := blk_cell f3 2
    simp only [List.getElem?_toArray, List.getElem?_cons_zero, List.getElem?_cons_succ] at x0 x1 x2
    exact bodyPost_ret (v := .tuple #[.agg #[str key, str (refB (S.L.length + 2) v.length), .int .i64 1], .int .i64 0]) (by simp [results, Tryz.results100, go_sem, x0, x1, x2]) rfl ⟨rfl, by unfold layP; rw [parts_over]; exact f1, f2⟩
end
end Go.Proofs.YtbhiamcmiopnoaaGreatDoor
