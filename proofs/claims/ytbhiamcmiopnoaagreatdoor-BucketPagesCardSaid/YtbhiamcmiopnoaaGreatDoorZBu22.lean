/- The law's act: in a bucket of a tree of them, and the way up. Conditions: one goroutine; the pages hold the buckets; there is room; the library's bound MaxLen is some number. (Printed by wip/gen/bu22.py.) -/
import Derived.Test.YtbhiamcmiopnoaaGreatDoorZBuH
import Derived.Test.YtbhiamcmiopnoaaGreatDoorZBu16
import Derived.Test.YtbhiamcmiopnoaaGreatDoorZTelA
namespace Go.Proofs.YtbhiamcmiopnoaaGreatDoor
open Go.RowKit Go.MuLone
def actErr (R : Path → Option Rec) (kind : Int) (path key val : Bytes) : Int :=
  if bk.pathE path ≠ 0 then bk.pathE path else if findE R [] (bk.pathP path) ≠ 0 then findE R [] (bk.pathP path) else match R (bk.pathP path) with | some r => actE kind r.l key val | none => 0
structure ActTo (m : Nat) (S : PSt) (R : Path → Option Rec) (kind : Int) (path key val : Bytes) (S' : PSt) (R' : Path → Option Rec) (r' : Rec) : Prop where
  pe : bk.pathE path = 0
  ex : ∃ r S1 R1 r1, R (bk.pathP path) = some r ∧ findE R [] (bk.pathP path) = 0 ∧ actE kind r.l key val = 0 ∧ OpTo m S R (bk.pathP path) r kind key val S1 R1 r1 ∧ SetTo m S1 R1 [] (bk.pathP path) S' R' r'
def ActEnds (w : World) (b m : Nat) (S : PSt) (R : Path → Option Rec) (r0 : Rec) (kind : Int) (path key val : Bytes) : Ending → World → Prop := fun e w' =>
  (∃ er, er ≠ 0 ∧ er = actErr R kind path key val ∧ e = .returned (.tuple #[bktV r0.root r0.seq, .int .i64 er]) ∧ PagesAt w' b S ∧ PStep b w w') ∨
  (∃ S' R' r', actErr R kind path key val = 0 ∧ e = .returned (.tuple #[bktV r'.root r'.seq, .int .i64 0]) ∧ ActTo m S R kind path key val S' R' r' ∧ PagesAt w' b S' ∧ PStep b w w')
structure Mad (w : World) (b : Nat) (r0 : Rec) (kind : Int) (path key val : Bytes) (wx : World) (S : PSt) : Prop where
  pages : PagesAt wx b S
  st : PStep b w wx
  t4 : Away wx b w.heap.size (.cells #[.int .i64 r0.root, .int .i64 r0.seq] 23 (0, 0))
  t5 : Away wx b (w.heap.size + 1) (.cells #[.int .i64 kind, str path, str key, str val] 55 (0, 0))
  t6 : Away wx b (w.heap.size + 1 + 1) (.cells #[.int .i64 0, .int .i64 0] 23 (0, 0))
theorem Names.set {wx : World} {b B : Nat} {v : Value} {l : List Bytes} {w : World} {S : PSt} {y0 y1 : Value} {t : TypeId} (h : Names wx b v l) (hp : PagesAt wx b S) (hB : Away wx b B (.cells #[y0, y1] t (0, 0))) (hBv : rowBlock v ≠ some B) (hlt : b < w.heap.size) (hst : PStep b w wx) (hf : w.heap.size + 1 + 1 < B) (x0 x1 : Int) : Names ((wx.setCell ⟨B, 0, none⟩ (.int .i64 x0)).setCell ⟨B, 1, none⟩ (.int .i64 x1)) b v l := by
  obtain ⟨g1, g2, g3, g4, g5⟩ := two_set hp hst hB (by omega) hlt (.int .i64 x0) (.int .i64 x1)
  refine ⟨row_only h.row g4 fun j q e => hBv (by rw [q, e]), fun j q => ⟨fun z => (h.away j q).1 ((g5 j).1 z), ?_⟩⟩
  have := g4.size
  have := (h.away j q).2
  omega
section
variable {w wx wy : World} {b : Nat} {r0 : Rec} {kind : Int} {path key val : Bytes} {S S' : PSt}
theorem Mad.still (h : Mad w b r0 kind path key val wx S) (ho : Only (fun _ => False) wx wy) : Mad w b r0 kind path key val wy S :=
  ⟨h.pages.still ho, h.st.trans (PStep.still h.pages.lt ho), h.t4.still h.pages ho, h.t5.still h.pages ho, h.t6.still h.pages ho⟩
theorem Mad.step (h : Mad w b r0 kind path key val wx S) (st : PStep b wx wy) (hp : PagesAt wy b S') : Mad w b r0 kind path key val wy S' :=
  ⟨hp, h.st.trans st, h.t4.step st, h.t5.step st, h.t6.step st⟩
theorem Mad.set {B : Nat} {y0 y1 : Value} (h : Mad w b r0 kind path key val wx S) (hlt : b < w.heap.size) (hB : Away wx b B (.cells #[y0, y1] 23 (0, 0))) (hf : w.heap.size + 1 + 1 < B) (x0 x1 : Value) :
    Mad w b r0 kind path key val ((wx.setCell ⟨B, 0, none⟩ x0).setCell ⟨B, 1, none⟩ x1) S ∧ Away ((wx.setCell ⟨B, 0, none⟩ x0).setCell ⟨B, 1, none⟩ x1) b B (.cells #[x0, x1] 23 (0, 0)) := by
  obtain ⟨g1, g2, g3, g4, g5⟩ := two_set h.pages h.st hB (by omega) hlt x0 x1
  exact ⟨⟨g1, g2, h.t4.set g4 g5 (by omega), h.t5.set g4 g5 (by omega), h.t6.set g4 g5 (by omega)⟩, g3⟩
theorem Mad.new (h : Mad w b r0 kind path key val wx S) (o : Obj) : Mad w b r0 kind path key val (wx.alloc o) S ∧ Away (wx.alloc o) b wx.heap.size o ∧ w.heap.size + 1 + 1 < wx.heap.size :=
  ⟨h.still ((Only.refl _ wx).alloc o), Away.new h.pages o, blk_lt h.t6.at_⟩
theorem Mad.fin (h : Mad w b r0 kind path key val wx S) (hlt : b < w.heap.size) (x0 x1 : Value) :
    PagesAt ((wx.setCell ⟨w.heap.size + 1 + 1, 0, none⟩ x0).setCell ⟨w.heap.size + 1 + 1, 1, none⟩ x1) b S ∧ PStep b w ((wx.setCell ⟨w.heap.size + 1 + 1, 0, none⟩ x0).setCell ⟨w.heap.size + 1 + 1, 1, none⟩ x1) ∧ ((wx.setCell ⟨w.heap.size + 1 + 1, 0, none⟩ x0).setCell ⟨w.heap.size + 1 + 1, 1, none⟩ x1).heap[w.heap.size + 1 + 1]? = some (.cells #[x0, x1] 23 (0, 0)) :=
  two_fin h.pages h.st h.t6 (by omega) hlt x0 x1
theorem Mad.cells (h : Mad w b r0 kind path key val wx S) : wx.cell? ⟨w.heap.size, 0, none⟩ = some (.int .i64 r0.root) ∧ wx.cell? ⟨w.heap.size, 1, none⟩ = some (.int .i64 r0.seq) ∧ wx.cell? ⟨w.heap.size + 1, 0, none⟩ = some (.int .i64 kind) ∧ wx.cell? ⟨w.heap.size + 1, 1, none⟩ = some (str path) ∧ wx.cell? ⟨w.heap.size + 1, 2, none⟩ = some (str key) ∧ wx.cell? ⟨w.heap.size + 1, 3, none⟩ = some (str val) ∧
    wx.cell? ⟨w.heap.size + 1 + 1, 0, none⟩ = some (.int .i64 0) ∧ wx.cell? ⟨w.heap.size + 1 + 1, 1, none⟩ = some (.int .i64 0) ∧ wx.frozen? ⟨w.heap.size + 1 + 1, 0, none⟩ = false ∧ wx.frozen? ⟨w.heap.size + 1 + 1, 1, none⟩ = false :=
  ⟨blk_cell h.t4.at_ 0, blk_cell h.t4.at_ 1, blk_cell h.t5.at_ 0, blk_cell h.t5.at_ 1, blk_cell h.t5.at_ 2, blk_cell h.t5.at_ 3, blk_cell h.t6.at_ 0, blk_cell h.t6.at_ 1, blk_frozen h.t6.at_ 0, blk_frozen h.t6.at_ 1⟩
end
set_option maxRecDepth 100000 in
set_option maxHeartbeats 16000000 in
theorem Act_is (w : World) (b m : Nat) (S : PSt) (R : Path → Option Rec) (r0 : Rec) (kind : Int) (path key val : Bytes) (hM : MaxAt w) (h : PagesAt w b S) (H : Held S R [] []) (hp0 : R [] = some r0) (hm : m ≤ 11) (hfew : ∀ p r, R p = some r → r.l.length + 1 < 2 ^ m) (hseq : ∀ p r, R p = some r → r.seq + 1 ≤ 1000000) (hpl : path.length < 1000000) (hkl : key.length ≤ 1000000)
    (hL : S.L.length + 30 + 6 * (2 + 2 * m) ≤ 3998) (hG : S.given.length ≤ 900000) (h34 : kind = 3 ∨ kind = 4 → (bk.pathP path).length < 4) :
    Calls Tryz.prog 20 #[pagesV b, bktV r0.root r0.seq, .agg #[.int .i64 kind, str path, str key, str val]] w (ActEnds w b m S R r0 kind path key val) := by
  have hnf := bk.pathP_few path
  have o1 := (Only.refl (fun _ => False) w).alloc (.cells #[.int .i64 r0.root, .int .i64 r0.seq] 23)
  have s1 : (w.alloc (.cells #[.int .i64 r0.root, .int .i64 r0.seq] 23)).heap.size = w.heap.size + 1 := Array.size_push _
  have A1 := Away.new h (.cells #[.int .i64 r0.root, .int .i64 r0.seq] 23)
  have h1 := h.still o1
  generalize hW1 : w.alloc (.cells #[.int .i64 r0.root, .int .i64 r0.seq] 23) = W1 at *
  have o2 := (Only.refl (fun _ => False) W1).alloc (.cells #[.int .i64 kind, str path, str key, str val] 55)
  have A2 := Away.new h1 (.cells #[.int .i64 kind, str path, str key, str val] 55)
  have s2 : (W1.alloc (.cells #[.int .i64 kind, str path, str key, str val] 55)).heap.size = W1.heap.size + 1 := Array.size_push _
  have h2 := h1.still o2
  have A12 := A1.still h1 o2
  rw [s1] at A2 s2
  generalize hW2 : W1.alloc (.cells #[.int .i64 kind, str path, str key, str val] 55) = W2 at *
  have A3 := Away.new h2 (.cells #[.int .i64 0, .int .i64 0] 23)
  rw [s2] at A3
  have o3 := (Only.refl (fun _ => False) W2).alloc (.cells #[.int .i64 0, .int .i64 0] 23)
  have M3 : Mad w b r0 kind path key val (W2.alloc (.cells #[.int .i64 0, .int .i64 0] 23)) S := ⟨h2.still o3, ((PStep.still h.lt o1).trans (PStep.still h1.lt o2)).trans (PStep.still h2.lt o3), A12.still h2 o3, A2.still h2 o3, A3⟩
  have hlt := h.lt
  have hmx := ((hM.still o1).still o2).still o3
  have HP := Lib.hid (bk.BPath_is _ path hpl hmx)
  unfold bk.BPathEnds at HP
  obtain ⟨c0, c1, c2, c3, c4, c5, c6, c7, c8, c9⟩ := M3.cells
  have HM3 := Lib.hid M3
  have HH := Lib.hid (And.intro H (And.intro hp0 (And.intro hfew (And.intro hseq (And.intro hL (And.intro hG h34))))))
  have H34 := Lib.hid h34
  have HE : Hid (actErr R kind path key val = if bk.pathE path ≠ 0 then bk.pathE path else if findE R [] (bk.pathP path) ≠ 0 then findE R [] (bk.pathP path) else match R (bk.pathP path) with | some r => actE kind r.l key val | none => 0) := Lib.hid rfl
  have HLN : Hid (∀ x ∈ bk.pathP path, x.length ≤ 1000000) := Lib.hid (fun x hx => by
    unfold bk.pathP at hx
    split at hx
    · have := partsP_len path x hx
      omega
    · cases hx)
  have HEND : Hid (∀ S' R' r', bk.pathE path = 0 → (∃ r S1 R1 r1, R (bk.pathP path) = some r ∧ findE R [] (bk.pathP path) = 0 ∧ actE kind r.l key val = 0 ∧ OpTo m S R (bk.pathP path) r kind key val S1 R1 r1 ∧ SetTo m S1 R1 [] (bk.pathP path) S' R' r') → ActTo m S R kind path key val S' R' r') := Lib.hid (fun S' R' r' a b => ⟨a, b⟩)
  clear o1 s1 A1 h1 o2 A2 s2 h2 A12 A3 o3 M3 hmx hM h H hp0 hfew hseq hL hG h34
  generalize bk.pathP path = names at *
  generalize bk.pathE path = pe at *
  subst hW2
  subst hW1
  unfold pagesV bktV
  go_enter Tryz.func20, Tryz.ntmps20
  go_wp2_with fail
  generalize (((w.alloc (.cells #[.int .i64 r0.root, .int .i64 r0.seq] 23)).alloc (.cells #[.int .i64 kind, str path, str key, str val] 55)).alloc (.cells #[.int .i64 0, .int .i64 0] 23)) = W3 at *
  (with_reducible refine HP.out.mono ?_)
  rintro e w4 ⟨v, rfl, hown, hnew, o4⟩
  obtain ⟨aN, cN, rfl⟩ := ownsRow_form hown
  have M4 := HM3.out.still o4
  have hcap : names.length ≤ cN := by
    rcases hown.2 with ⟨q, hq⟩ | ⟨g, cap, cur, q, _, _, q1, _⟩
    · omega
    · simp only [Value.slice.injEq] at q
      omega
  have hrb : rowBlock (Value.slice aN names.length cN) = (Value.slice aN names.length cN).ownBlock := bk.rowBlock_own hown
  have HN : Names w4 b (.slice aN names.length cN) names := ⟨bk.row_own (fun _ => rfl) hown, fun j q => by
    rw [hrb] at q
    have h5 := hnew j q
    refine ⟨fun z => ?_, (hown.lt j q).2⟩
    have := pown_lt HM3.out.pages ((pown_of_heap (o4.block b HM3.out.pages.lt id) j).1 z)
    omega⟩
  have HN4 := Lib.hid HN
  have HCAP := Lib.hid hcap
  obtain ⟨c0, c1, c2, c3, c4, c5, c6, c7, c8, c9⟩ := M4.cells
  have HM4 := Lib.hid M4
  clear hown hnew o4 M4 hcap hrb HN HP HM3
  by_cases hpe : pe = 0
  · have hpe1 : (pe != 0) = false := by simp [hpe]
    have hh := HH.out
    have HFI := Lib.hid (BFind_is w4 b S R [] r0 aN cN names HM4.out.pages hh.1 hh.2.1 (by omega) (fun p r hq => Nat.lt_of_lt_of_le (Nat.lt_of_succ_lt (hh.2.2.1 p r hq)) (Nat.pow_le_pow_right (by omega) hm)) HN4.out (by omega) HLN.out)
    unfold FindEnds at HFI
    unfold pagesV bktV at HFI
    rw [hpe]
    rw [hpe] at HE
    simp only [ne_eq, not_true_eq_false, if_false] at HE
    have HPE := Lib.hid hpe
    clear hh hpe
    go_wp2_with fail
    (with_reducible refine HFI.out.mono ?_)
    rintro e w5 ⟨root, seq, er, rfl, her, hok, hbad, hp5, st5⟩
    have hNW := HM4.out.step st5 hp5
    have hnw := hNW.new (.cells #[.int .i64 root, .int .i64 seq] 23)
    obtain ⟨c0, c1, c2, c3, c4, c5, c6, c7, c8, c9⟩ := hnw.1.cells
    have hN6 := (HN4.out.step st5).step (PStep.still hp5.lt ((Only.refl _ w5).alloc (.cells #[.int .i64 root, .int .i64 seq] 23)))
    have f0 := blk_cell hnw.2.1.at_ 0
    have f1 := blk_cell hnw.2.1.at_ 1
    simp only [List.getElem?_toArray, List.getElem?_cons_zero, List.getElem?_cons_succ] at f0 f1
    have HN6 := Lib.hid hN6
    have HM6 := Lib.hid hnw
    rw [← her] at HE
    have HER := Lib.hid (And.intro her (And.intro hok hbad))
    clear her hok hbad hp5 st5 hNW hnw hN6 HFI HM4 HN4
    by_cases hz : er = 0
    · subst hz
      obtain ⟨r, hr, rfl, rfl⟩ := HER.out.2.1 rfl
      rw [List.nil_append] at hr
      rw [hr] at HE
      simp only [not_true_eq_false, if_false] at HE
      have HR := Lib.hid hr
      clear hr
      go_upto_region 7 with fail
      generalize hWX : w5.alloc (.cells #[.int .i64 r.root, .int .i64 r.seq] 23) = w6 at *
      generalize hg10 : w5.heap.size = g10 at *
      have M7 := HM6.out.1.new (.cells #[.int .i64 0, .int .i64 0] 23)
      have A10 := HM6.out.2.1.still HM6.out.1.pages ((Only.refl _ w6).alloc (.cells #[.int .i64 0, .int .i64 0] 23))
      have hN7 := HN6.out.step (PStep.still HM6.out.1.pages.lt ((Only.refl _ w6).alloc (.cells #[.int .i64 0, .int .i64 0] 23)))
      have h67 := blk_lt HM6.out.2.1.at_
      have HM7 := Lib.hid (And.intro M7 (And.intro A10 (And.intro hN7 (And.intro h67 HM6.out.2.2))))
      obtain ⟨c0, c1, c2, c3, c4, c5, c6, c7, c8, c9⟩ := M7.1.cells
      have f0 := blk_cell A10.at_ 0
      have f1 := blk_cell A10.at_ 1
      have d0 := blk_cell M7.2.1.at_ 0
      have d1 := blk_cell M7.2.1.at_ 1
      have z0 := blk_frozen M7.2.1.at_ 0
      have z1 := blk_frozen M7.2.1.at_ 1
      simp only [List.getElem?_toArray, List.getElem?_cons_zero, List.getElem?_cons_succ] at f0 f1 d0 d1
      have hh := HH.out
      have HAB : Hid (Able b m S R names r key) := Lib.hid ⟨hh.1, HR.out, fun p r hq => Nat.lt_of_succ_lt (hh.2.2.1 p r hq), hm, hkl, by omega, by omega, hh.2.2.2.1 _ r HR.out⟩
      have HSET : Hid (∀ wx S1 R1 r1, actE kind r.l key val = 0 → OpTo m S R names r kind key val S1 R1 r1 → PagesAt wx b S1 → Names wx b (.slice aN names.length cN) names → Calls Tryz.prog 89 #[pagesV b, bktV r0.root r0.seq, bktV r1.root r1.seq, .slice aN names.length cN] wx (SetEnds wx b m S1 R1 [] names)) := Lib.hid (fun wx S1 R1 r1 hact OP hpx hnx => by
        have hlenO := OP.len
        have hgivO := OP.given
        have hcs : (if kind = 1 then (madeCs val).length else 0) ≤ 9 := by
          split
          · exact madeCs_few (actE_val hact (by assumption))
          · omega
        have hmul : names.length * (2 + 2 * m) ≤ 4 * (2 + 2 * m) := Nat.mul_le_mul_right _ hnf
        obtain ⟨rp, hrp⟩ : ∃ rp, R1 [] = some rp := OP.held.bush.top
        refine BSet_is b m S1 R1 (by omega) hm ?_ names wx [] rp r1 r0.root r0.seq aN cN hpx (by rw [List.nil_append]; exact OP.held) hrp (by rw [List.nil_append]; exact OP.at_) ?_ (by rw [OP.find]; exact HER.out.1.symm) hnx HCAP.out (by omega) HLN.out (by omega) (by omega)
        · exact OP.few HR.out hh.2.2.1
        · intro hne
          have : R1 [] = R [] := OP.out [] fun z => hne (List.prefix_nil.1 z)
          rw [this, hh.2.1] at hrp
          cases hrp
          exact ⟨rfl, rfl⟩)
      have hbv : rowBlock (Value.slice aN names.length cN) ≠ some w6.heap.size := fun q => by
        have := (HN6.out.away _ q).2
        omega
      clear M7 A10 hN7 h67 HH hh
      have hge : w.heap.size + 1 + 1 < w6.heap.size := by have := HM7.out.2.2.2.1; have := HM7.out.2.2.2.2; omega
      by_cases hk1 : kind = 1
      · subst hk1
        have HK := Lib.hid (Put_op _ b m S R names r key val HM7.out.1.1.pages HAB.out)
        unfold OpEnds at HK
        unfold pagesV bktV at HK
        go_wp2_with fail
        (with_reducible refine HK.out.mono ?_)
        rintro e w8 (⟨er, hne, hae, rfl, hp8, st8⟩ | ⟨S1, R1, r1, hact, rfl, hop, hp8, st8⟩)
        · have M8 := HM7.out.1.1.step st8 hp8
          have A8 := HM7.out.1.2.1.step st8
          have d0 := blk_cell A8.at_ 0
          have d1 := blk_cell A8.at_ 1
          have z0 := blk_frozen A8.at_ 0
          have z1 := blk_frozen A8.at_ 1
          simp only [List.getElem?_toArray, List.getElem?_cons_zero, List.getElem?_cons_succ] at d0 d1
          have M9 := M8.set hlt A8 hge (.int .i64 0) (.int .i64 0)
          have hz1 : (er != 0) = true := by simpa using hne
          have HNE := Lib.hid (And.intro hne hae)
          clear M8 A8 hp8 st8 hne hae HK
          go_upto_region 18 with fail
          generalize (w8.setCell ⟨w6.heap.size, 0, none⟩ (.int .i64 0)).setCell ⟨w6.heap.size, 1, none⟩ (.int .i64 0) = w9 at *
          obtain ⟨c0, c1, c2, c3, c4, c5, c6, c7, c8, c9⟩ := M9.1.cells
          have HF := Lib.hid (M9.1.fin hlt (.int .i64 r0.root) (.int .i64 r0.seq))
          clear M9 d0 d1 z0 z1
          go_wp2_with fail
          obtain ⟨g1, g2, g3⟩ := HF.out
          have x0 := blk_cell g3 0
          have x1 := blk_cell g3 1
          simp only [List.getElem?_toArray, List.getElem?_cons_zero, List.getElem?_cons_succ] at x0 x1
          exact bodyPost_ret (v := .tuple #[.agg #[.int .i64 r0.root, .int .i64 r0.seq], .int .i64 er]) (by simp [results, Tryz.results20, go_sem, x0, x1]) rfl (.inl ⟨er, HNE.out.1, by rw [HE.out]; exact HNE.out.2, rfl, g1, g2⟩)
        · have M8 := HM7.out.1.1.step st8 hp8
          have A8 := HM7.out.1.2.1.step st8
          have N8 := HM7.out.2.2.1.step st8
          have d0 := blk_cell A8.at_ 0
          have d1 := blk_cell A8.at_ 1
          have z0 := blk_frozen A8.at_ 0
          have z1 := blk_frozen A8.at_ 1
          simp only [List.getElem?_toArray, List.getElem?_cons_zero, List.getElem?_cons_succ] at d0 d1
          have HOP := Lib.hid (And.intro hact hop)
          clear hact hop hp8 HK
          have M9 := M8.set hlt A8 hge (.int .i64 r1.root) (.int .i64 r1.seq)
          have N9 := N8.set M8.pages A8 hbv hlt M8.st hge r1.root r1.seq
          clear M8 A8 N8
          go_upto_region 18 with fail
          generalize (w8.setCell ⟨w6.heap.size, 0, none⟩ (.int .i64 r1.root)).setCell ⟨w6.heap.size, 1, none⟩ (.int .i64 r1.seq) = w9 at *
          obtain ⟨c0, c1, c2, c3, c4, c5, c6, c7, c8, c9⟩ := M9.1.cells
          have d0 := blk_cell M9.2.at_ 0
          have d1 := blk_cell M9.2.at_ 1
          simp only [List.getElem?_toArray, List.getElem?_cons_zero, List.getElem?_cons_succ] at d0 d1
          have HST := Lib.hid (HSET.out w9 S1 R1 r1 HOP.out.1 HOP.out.2 M9.1.pages N9)
          unfold SetEnds at HST
          unfold pagesV bktV at HST
          have HM9 := Lib.hid M9.1
          clear M9 N9 z0 z1
          go_wp2_with fail
          (with_reducible refine HST.out.mono ?_)
          rintro e wA ⟨S', R', r', rfl, hset, hpA, stA⟩
          have MA := HM9.out.step stA hpA
          obtain ⟨c0, c1, c2, c3, c4, c5, c6, c7, c8, c9⟩ := MA.cells
          have HF := Lib.hid (MA.fin hlt (.int .i64 r'.root) (.int .i64 r'.seq))
          have HSE := Lib.hid hset
          clear MA hset hpA stA HM9 HST d0 d1
          go_wp2_with fail
          obtain ⟨g1, g2, g3⟩ := HF.out
          have x0 := blk_cell g3 0
          have x1 := blk_cell g3 1
          simp only [List.getElem?_toArray, List.getElem?_cons_zero, List.getElem?_cons_succ] at x0 x1
          exact bodyPost_ret (v := .tuple #[.agg #[.int .i64 r'.root, .int .i64 r'.seq], .int .i64 0]) (by simp [results, Tryz.results20, go_sem, x0, x1]) rfl (.inr ⟨S', R', r', by rw [HE.out]; exact HOP.out.1, rfl, HEND.out S' R' r' HPE.out ⟨r, S1, R1, r1, HR.out, HER.out.1.symm, HOP.out.1, HOP.out.2, HSE.out⟩, g1, g2⟩)
      have hkb1 : (kind == 1) = false := by simpa using hk1
      by_cases hk2 : kind = 2
      · subst hk2
        have HK := Lib.hid (Del_op _ b m S R names r key val HM7.out.1.1.pages HAB.out)
        unfold OpEnds at HK
        unfold pagesV bktV at HK
        go_wp2_with fail
        (with_reducible refine HK.out.mono ?_)
        rintro e w8 (⟨er, hne, hae, rfl, hp8, st8⟩ | ⟨S1, R1, r1, hact, rfl, hop, hp8, st8⟩)
        · have M8 := HM7.out.1.1.step st8 hp8
          have A8 := HM7.out.1.2.1.step st8
          have d0 := blk_cell A8.at_ 0
          have d1 := blk_cell A8.at_ 1
          have z0 := blk_frozen A8.at_ 0
          have z1 := blk_frozen A8.at_ 1
          simp only [List.getElem?_toArray, List.getElem?_cons_zero, List.getElem?_cons_succ] at d0 d1
          have M9 := M8.set hlt A8 hge (.int .i64 0) (.int .i64 0)
          have hz1 : (er != 0) = true := by simpa using hne
          have HNE := Lib.hid (And.intro hne hae)
          clear M8 A8 hp8 st8 hne hae HK
          go_upto_region 18 with fail
          generalize (w8.setCell ⟨w6.heap.size, 0, none⟩ (.int .i64 0)).setCell ⟨w6.heap.size, 1, none⟩ (.int .i64 0) = w9 at *
          obtain ⟨c0, c1, c2, c3, c4, c5, c6, c7, c8, c9⟩ := M9.1.cells
          have HF := Lib.hid (M9.1.fin hlt (.int .i64 r0.root) (.int .i64 r0.seq))
          clear M9 d0 d1 z0 z1
          go_wp2_with fail
          obtain ⟨g1, g2, g3⟩ := HF.out
          have x0 := blk_cell g3 0
          have x1 := blk_cell g3 1
          simp only [List.getElem?_toArray, List.getElem?_cons_zero, List.getElem?_cons_succ] at x0 x1
          exact bodyPost_ret (v := .tuple #[.agg #[.int .i64 r0.root, .int .i64 r0.seq], .int .i64 er]) (by simp [results, Tryz.results20, go_sem, x0, x1]) rfl (.inl ⟨er, HNE.out.1, by rw [HE.out]; exact HNE.out.2, rfl, g1, g2⟩)
        · have M8 := HM7.out.1.1.step st8 hp8
          have A8 := HM7.out.1.2.1.step st8
          have N8 := HM7.out.2.2.1.step st8
          have d0 := blk_cell A8.at_ 0
          have d1 := blk_cell A8.at_ 1
          have z0 := blk_frozen A8.at_ 0
          have z1 := blk_frozen A8.at_ 1
          simp only [List.getElem?_toArray, List.getElem?_cons_zero, List.getElem?_cons_succ] at d0 d1
          have HOP := Lib.hid (And.intro hact hop)
          clear hact hop hp8 HK
          have M9 := M8.set hlt A8 hge (.int .i64 r1.root) (.int .i64 r1.seq)
          have N9 := N8.set M8.pages A8 hbv hlt M8.st hge r1.root r1.seq
          clear M8 A8 N8
          go_upto_region 18 with fail
          generalize (w8.setCell ⟨w6.heap.size, 0, none⟩ (.int .i64 r1.root)).setCell ⟨w6.heap.size, 1, none⟩ (.int .i64 r1.seq) = w9 at *
          obtain ⟨c0, c1, c2, c3, c4, c5, c6, c7, c8, c9⟩ := M9.1.cells
          have d0 := blk_cell M9.2.at_ 0
          have d1 := blk_cell M9.2.at_ 1
          simp only [List.getElem?_toArray, List.getElem?_cons_zero, List.getElem?_cons_succ] at d0 d1
          have HST := Lib.hid (HSET.out w9 S1 R1 r1 HOP.out.1 HOP.out.2 M9.1.pages N9)
          unfold SetEnds at HST
          unfold pagesV bktV at HST
          have HM9 := Lib.hid M9.1
          clear M9 N9 z0 z1
          go_wp2_with fail
          (with_reducible refine HST.out.mono ?_)
          rintro e wA ⟨S', R', r', rfl, hset, hpA, stA⟩
          have MA := HM9.out.step stA hpA
          obtain ⟨c0, c1, c2, c3, c4, c5, c6, c7, c8, c9⟩ := MA.cells
          have HF := Lib.hid (MA.fin hlt (.int .i64 r'.root) (.int .i64 r'.seq))
          have HSE := Lib.hid hset
          clear MA hset hpA stA HM9 HST d0 d1
          go_wp2_with fail
          obtain ⟨g1, g2, g3⟩ := HF.out
          have x0 := blk_cell g3 0
          have x1 := blk_cell g3 1
          simp only [List.getElem?_toArray, List.getElem?_cons_zero, List.getElem?_cons_succ] at x0 x1
          exact bodyPost_ret (v := .tuple #[.agg #[.int .i64 r'.root, .int .i64 r'.seq], .int .i64 0]) (by simp [results, Tryz.results20, go_sem, x0, x1]) rfl (.inr ⟨S', R', r', by rw [HE.out]; exact HOP.out.1, rfl, HEND.out S' R' r' HPE.out ⟨r, S1, R1, r1, HR.out, HER.out.1.symm, HOP.out.1, HOP.out.2, HSE.out⟩, g1, g2⟩)
      have hkb2 : (kind == 2) = false := by simpa using hk2
      by_cases hk3 : kind = 3
      · subst hk3
        have hd3 : names.length < 4 := H34.out (.inl rfl)
        have HK := Lib.hid (Make_op _ b m S R names r key val HM7.out.1.1.pages HAB.out hd3)
        unfold OpEnds at HK
        unfold pagesV bktV at HK
        go_wp2_with fail
        (with_reducible refine HK.out.mono ?_)
        rintro e w8 (⟨er, hne, hae, rfl, hp8, st8⟩ | ⟨S1, R1, r1, hact, rfl, hop, hp8, st8⟩)
        · have M8 := HM7.out.1.1.step st8 hp8
          have A8 := HM7.out.1.2.1.step st8
          have d0 := blk_cell A8.at_ 0
          have d1 := blk_cell A8.at_ 1
          have z0 := blk_frozen A8.at_ 0
          have z1 := blk_frozen A8.at_ 1
          simp only [List.getElem?_toArray, List.getElem?_cons_zero, List.getElem?_cons_succ] at d0 d1
          have M9 := M8.set hlt A8 hge (.int .i64 0) (.int .i64 0)
          have hz1 : (er != 0) = true := by simpa using hne
          have HNE := Lib.hid (And.intro hne hae)
          clear M8 A8 hp8 st8 hne hae HK
          go_upto_region 18 with fail
          generalize (w8.setCell ⟨w6.heap.size, 0, none⟩ (.int .i64 0)).setCell ⟨w6.heap.size, 1, none⟩ (.int .i64 0) = w9 at *
          obtain ⟨c0, c1, c2, c3, c4, c5, c6, c7, c8, c9⟩ := M9.1.cells
          have HF := Lib.hid (M9.1.fin hlt (.int .i64 r0.root) (.int .i64 r0.seq))
          clear M9 d0 d1 z0 z1
          go_wp2_with fail
          obtain ⟨g1, g2, g3⟩ := HF.out
          have x0 := blk_cell g3 0
          have x1 := blk_cell g3 1
          simp only [List.getElem?_toArray, List.getElem?_cons_zero, List.getElem?_cons_succ] at x0 x1
          exact bodyPost_ret (v := .tuple #[.agg #[.int .i64 r0.root, .int .i64 r0.seq], .int .i64 er]) (by simp [results, Tryz.results20, go_sem, x0, x1]) rfl (.inl ⟨er, HNE.out.1, by rw [HE.out]; exact HNE.out.2, rfl, g1, g2⟩)
        · have M8 := HM7.out.1.1.step st8 hp8
          have A8 := HM7.out.1.2.1.step st8
          have N8 := HM7.out.2.2.1.step st8
          have d0 := blk_cell A8.at_ 0
          have d1 := blk_cell A8.at_ 1
          have z0 := blk_frozen A8.at_ 0
          have z1 := blk_frozen A8.at_ 1
          simp only [List.getElem?_toArray, List.getElem?_cons_zero, List.getElem?_cons_succ] at d0 d1
          have HOP := Lib.hid (And.intro hact hop)
          clear hact hop hp8 HK
          have M9 := M8.set hlt A8 hge (.int .i64 r1.root) (.int .i64 r1.seq)
          have N9 := N8.set M8.pages A8 hbv hlt M8.st hge r1.root r1.seq
          clear M8 A8 N8
          go_upto_region 18 with fail
          generalize (w8.setCell ⟨w6.heap.size, 0, none⟩ (.int .i64 r1.root)).setCell ⟨w6.heap.size, 1, none⟩ (.int .i64 r1.seq) = w9 at *
          obtain ⟨c0, c1, c2, c3, c4, c5, c6, c7, c8, c9⟩ := M9.1.cells
          have d0 := blk_cell M9.2.at_ 0
          have d1 := blk_cell M9.2.at_ 1
          simp only [List.getElem?_toArray, List.getElem?_cons_zero, List.getElem?_cons_succ] at d0 d1
          have HST := Lib.hid (HSET.out w9 S1 R1 r1 HOP.out.1 HOP.out.2 M9.1.pages N9)
          unfold SetEnds at HST
          unfold pagesV bktV at HST
          have HM9 := Lib.hid M9.1
          clear M9 N9 z0 z1
          go_wp2_with fail
          (with_reducible refine HST.out.mono ?_)
          rintro e wA ⟨S', R', r', rfl, hset, hpA, stA⟩
          have MA := HM9.out.step stA hpA
          obtain ⟨c0, c1, c2, c3, c4, c5, c6, c7, c8, c9⟩ := MA.cells
          have HF := Lib.hid (MA.fin hlt (.int .i64 r'.root) (.int .i64 r'.seq))
          have HSE := Lib.hid hset
          clear MA hset hpA stA HM9 HST d0 d1
          go_wp2_with fail
          obtain ⟨g1, g2, g3⟩ := HF.out
          have x0 := blk_cell g3 0
          have x1 := blk_cell g3 1
          simp only [List.getElem?_toArray, List.getElem?_cons_zero, List.getElem?_cons_succ] at x0 x1
          exact bodyPost_ret (v := .tuple #[.agg #[.int .i64 r'.root, .int .i64 r'.seq], .int .i64 0]) (by simp [results, Tryz.results20, go_sem, x0, x1]) rfl (.inr ⟨S', R', r', by rw [HE.out]; exact HOP.out.1, rfl, HEND.out S' R' r' HPE.out ⟨r, S1, R1, r1, HR.out, HER.out.1.symm, HOP.out.1, HOP.out.2, HSE.out⟩, g1, g2⟩)
      have hkb3 : (kind == 3) = false := by simpa using hk3
      by_cases hk4 : kind = 4
      · subst hk4
        have HK := Lib.hid (Drop_op _ b m S R names r key val HM7.out.1.1.pages HAB.out)
        unfold OpEnds at HK
        unfold pagesV bktV at HK
        go_wp2_with fail
        (with_reducible refine HK.out.mono ?_)
        rintro e w8 (⟨er, hne, hae, rfl, hp8, st8⟩ | ⟨S1, R1, r1, hact, rfl, hop, hp8, st8⟩)
        · have M8 := HM7.out.1.1.step st8 hp8
          have A8 := HM7.out.1.2.1.step st8
          have d0 := blk_cell A8.at_ 0
          have d1 := blk_cell A8.at_ 1
          have z0 := blk_frozen A8.at_ 0
          have z1 := blk_frozen A8.at_ 1
          simp only [List.getElem?_toArray, List.getElem?_cons_zero, List.getElem?_cons_succ] at d0 d1
          have M9 := M8.set hlt A8 hge (.int .i64 0) (.int .i64 0)
          have hz1 : (er != 0) = true := by simpa using hne
          have HNE := Lib.hid (And.intro hne hae)
          clear M8 A8 hp8 st8 hne hae HK
          go_upto_region 18 with fail
          generalize (w8.setCell ⟨w6.heap.size, 0, none⟩ (.int .i64 0)).setCell ⟨w6.heap.size, 1, none⟩ (.int .i64 0) = w9 at *
          obtain ⟨c0, c1, c2, c3, c4, c5, c6, c7, c8, c9⟩ := M9.1.cells
          have HF := Lib.hid (M9.1.fin hlt (.int .i64 r0.root) (.int .i64 r0.seq))
          clear M9 d0 d1 z0 z1
          go_wp2_with fail
          obtain ⟨g1, g2, g3⟩ := HF.out
          have x0 := blk_cell g3 0
          have x1 := blk_cell g3 1
          simp only [List.getElem?_toArray, List.getElem?_cons_zero, List.getElem?_cons_succ] at x0 x1
          exact bodyPost_ret (v := .tuple #[.agg #[.int .i64 r0.root, .int .i64 r0.seq], .int .i64 er]) (by simp [results, Tryz.results20, go_sem, x0, x1]) rfl (.inl ⟨er, HNE.out.1, by rw [HE.out]; exact HNE.out.2, rfl, g1, g2⟩)
        · have M8 := HM7.out.1.1.step st8 hp8
          have A8 := HM7.out.1.2.1.step st8
          have N8 := HM7.out.2.2.1.step st8
          have d0 := blk_cell A8.at_ 0
          have d1 := blk_cell A8.at_ 1
          have z0 := blk_frozen A8.at_ 0
          have z1 := blk_frozen A8.at_ 1
          simp only [List.getElem?_toArray, List.getElem?_cons_zero, List.getElem?_cons_succ] at d0 d1
          have HOP := Lib.hid (And.intro hact hop)
          clear hact hop hp8 HK
          have M9 := M8.set hlt A8 hge (.int .i64 r1.root) (.int .i64 r1.seq)
          have N9 := N8.set M8.pages A8 hbv hlt M8.st hge r1.root r1.seq
          clear M8 A8 N8
          go_upto_region 18 with fail
          generalize (w8.setCell ⟨w6.heap.size, 0, none⟩ (.int .i64 r1.root)).setCell ⟨w6.heap.size, 1, none⟩ (.int .i64 r1.seq) = w9 at *
          obtain ⟨c0, c1, c2, c3, c4, c5, c6, c7, c8, c9⟩ := M9.1.cells
          have d0 := blk_cell M9.2.at_ 0
          have d1 := blk_cell M9.2.at_ 1
          simp only [List.getElem?_toArray, List.getElem?_cons_zero, List.getElem?_cons_succ] at d0 d1
          have HST := Lib.hid (HSET.out w9 S1 R1 r1 HOP.out.1 HOP.out.2 M9.1.pages N9)
          unfold SetEnds at HST
          unfold pagesV bktV at HST
          have HM9 := Lib.hid M9.1
          clear M9 N9 z0 z1
          go_wp2_with fail
          (with_reducible refine HST.out.mono ?_)
          rintro e wA ⟨S', R', r', rfl, hset, hpA, stA⟩
          have MA := HM9.out.step stA hpA
          obtain ⟨c0, c1, c2, c3, c4, c5, c6, c7, c8, c9⟩ := MA.cells
          have HF := Lib.hid (MA.fin hlt (.int .i64 r'.root) (.int .i64 r'.seq))
          have HSE := Lib.hid hset
          clear MA hset hpA stA HM9 HST d0 d1
          go_wp2_with fail
          obtain ⟨g1, g2, g3⟩ := HF.out
          have x0 := blk_cell g3 0
          have x1 := blk_cell g3 1
          simp only [List.getElem?_toArray, List.getElem?_cons_zero, List.getElem?_cons_succ] at x0 x1
          exact bodyPost_ret (v := .tuple #[.agg #[.int .i64 r'.root, .int .i64 r'.seq], .int .i64 0]) (by simp [results, Tryz.results20, go_sem, x0, x1]) rfl (.inr ⟨S', R', r', by rw [HE.out]; exact HOP.out.1, rfl, HEND.out S' R' r' HPE.out ⟨r, S1, R1, r1, HR.out, HER.out.1.symm, HOP.out.1, HOP.out.2, HSE.out⟩, g1, g2⟩)
      have hkb4 : (kind == 4) = false := by simpa using hk4
      have hact : actE kind r.l key val = 0 := by
        unfold actE
        rw [if_neg hk1, if_neg hk2, if_neg hk3, if_neg hk4]
      have hsq := HAB.out.seq
      have hsq0 := (HAB.out.held.bush.tree _ r HR.out).2.2.1
      have hws : IntKind.i64.wrap (r.seq + 1) = r.seq + 1 := by exact IntWalk.i64_in _ (by omega)
      clear hsq hsq0
      have hop := op_seq (k := key) (v := val) (m := m) (kind := kind) HAB.out.held HR.out HAB.out.seq ⟨hk1, hk2, hk3, hk4⟩
      have M9 := HM6.out.1.new (.cells #[.int .i64 r.root, .int .i64 (r.seq + 1)] 23)
      have N9 := HN6.out.step (PStep.still HM6.out.1.pages.lt ((Only.refl _ w6).alloc (.cells #[.int .i64 r.root, .int .i64 (r.seq + 1)] 23)))
      have HST := Lib.hid (HSET.out _ S (upd R names ⟨r.root, r.seq + 1, r.l, r.ids⟩) ⟨r.root, r.seq + 1, r.l, r.ids⟩ hact hop M9.1.pages N9)
      unfold SetEnds at HST
      unfold pagesV bktV at HST
      have HM9 := Lib.hid M9.1
      have HOP := Lib.hid (And.intro hact hop)
      obtain ⟨b0, b1, b2, b3, b4, b5, b6, b7, b8, b9⟩ := M9.1.cells
      have t0 := blk_cell M9.2.1.at_ 0
      have t1 := blk_cell M9.2.1.at_ 1
      simp only [List.getElem?_toArray, List.getElem?_cons_zero, List.getElem?_cons_succ] at t0 t1
      clear M9 N9 hact hop
      go_upto_region 18 with fail
      generalize w6.alloc (.cells #[.int .i64 r.root, .int .i64 (r.seq + 1)] 23) = w9 at *
      go_wp2_with fail
      (with_reducible refine HST.out.mono ?_)
      rintro e wA ⟨S', R', r', rfl, hset, hpA, stA⟩
      have MA := HM9.out.step stA hpA
      obtain ⟨c0, c1, c2, c3, c4, c5, c6, c7, c8, c9⟩ := MA.cells
      have HF := Lib.hid (MA.fin hlt (.int .i64 r'.root) (.int .i64 r'.seq))
      have HSE := Lib.hid hset
      clear MA hset hpA stA HM9 HST
      go_wp2_with fail
      obtain ⟨g1, g2, g3⟩ := HF.out
      have x0 := blk_cell g3 0
      have x1 := blk_cell g3 1
      simp only [List.getElem?_toArray, List.getElem?_cons_zero, List.getElem?_cons_succ] at x0 x1
      exact bodyPost_ret (v := .tuple #[.agg #[.int .i64 r'.root, .int .i64 r'.seq], .int .i64 0]) (by simp [results, Tryz.results20, go_sem, x0, x1]) rfl (.inr ⟨S', R', r', by rw [HE.out]; exact HOP.out.1, rfl, HEND.out S' R' r' HPE.out ⟨r, S, _, _, HR.out, HER.out.1.symm, HOP.out.1, HOP.out.2, HSE.out⟩, g1, g2⟩)
    · have hz1 : (er != 0) = true := by simpa using hz
      have HF := Lib.hid (HM6.out.1.fin hlt (.int .i64 r0.root) (.int .i64 r0.seq))
      have HZ := Lib.hid hz
      clear hz HN6 HM6 HH
      go_wp2_with fail
      obtain ⟨g1, g2, g3⟩ := HF.out
      have x0 := blk_cell g3 0
      have x1 := blk_cell g3 1
      simp only [List.getElem?_toArray, List.getElem?_cons_zero, List.getElem?_cons_succ] at x0 x1
      exact bodyPost_ret (v := .tuple #[.agg #[.int .i64 r0.root, .int .i64 r0.seq], .int .i64 er]) (by simp [results, Tryz.results20, go_sem, x0, x1]) rfl (.inl ⟨er, HZ.out, by rw [HE.out, if_pos HZ.out], rfl, g1, g2⟩)
  · have hz1 : (pe != 0) = true := by simpa using hpe
    have HF := Lib.hid (HM4.out.fin hlt (.int .i64 r0.root) (.int .i64 r0.seq))
    have HZ := Lib.hid hpe
    clear hpe HN4 HM4 HH
    go_wp2_with fail
    obtain ⟨g1, g2, g3⟩ := HF.out
    have x0 := blk_cell g3 0
    have x1 := blk_cell g3 1
    simp only [List.getElem?_toArray, List.getElem?_cons_zero, List.getElem?_cons_succ] at x0 x1
    exact bodyPost_ret (v := .tuple #[.agg #[.int .i64 r0.root, .int .i64 r0.seq], .int .i64 pe]) (by simp [results, Tryz.results20, go_sem, x0, x1]) rfl (.inl ⟨pe, HZ.out, by rw [HE.out, if_pos HZ.out], rfl, g1, g2⟩)
end Go.Proofs.YtbhiamcmiopnoaaGreatDoor
