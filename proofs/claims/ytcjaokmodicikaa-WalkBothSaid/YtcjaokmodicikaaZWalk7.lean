/- Package walk over the law's pages: First, Last, Seek, Next, Back, Item, On. Conditions: one goroutine; the cursor and the pages lie in memory. -/
import Derived.Test.YtcjaokmodicikaaZWalk6
namespace Go.Proofs.Ytcjaokmodicikaa
open Go.RowKit

theorem enters_first (args : Array Value) (w : World) : (callFunc 35 args).run Try.prog w = .ok (.enter 35 args) w := Go.MuLone.run_callFunc_enter Try.func35 (by kernel_rfl) rfl args w
theorem enters_last (args : Array Value) (w : World) : (callFunc 36 args).run Try.prog w = .ok (.enter 36 args) w := Go.MuLone.run_callFunc_enter Try.func36 (by kernel_rfl) rfl args w
theorem enters_seek (args : Array Value) (w : World) : (callFunc 37 args).run Try.prog w = .ok (.enter 37 args) w := Go.MuLone.run_callFunc_enter Try.func37 (by kernel_rfl) rfl args w

/-- What a move does to a cursor in memory. -/
def Moves (w : World) (x b : Nat) (_ c' : Cur) (F : Nat → Prop) (r : Bool) : Ending → World → Prop := fun e w' => ∃ F', e = .returned (.bool r) ∧ CurAt w' x b c' F' ∧ CStep b F F' w w'

set_option maxRecDepth 100000 in
theorem wFirst_is (w : World) (x b : Nat) (c c' : Cur) (F : Nat → Prop) (r : Bool) (h : CurAt w x b c F) (hroot : -1000000 ≤ c.root ∧ c.root ≤ 1000000) (hd : cStart chFirst 1 c = some (r, c')) :
    Calls Try.prog 12 #[.pointer (some ⟨x, 0, none⟩)] w (Moves w x b c c' F r) := by
  have HS := Lib.hid (wstart_is 35 #[] chFirst 0 none enters_first (fun W g off p v _ _ => wfirst_is W _) (fun n _ => ⟨by unfold chFirst; omega, by unfold chFirst; omega⟩) 1 (.inl rfl) w x b c c' F r h ⟨fun u hu => by cases hu⟩ hroot hd)
  go_enter Try.func12, Try.ntmps12
  go_wp2_with fail
  refine HS.out.mono ?_
  rintro e w1 ⟨F1, rfl, ha1, st1⟩
  go_wp2_with fail
  go_ret
  exact ⟨F1, rfl, ha1, st1⟩
set_option maxRecDepth 100000 in
theorem wLast_is (w : World) (x b : Nat) (c c' : Cur) (F : Nat → Prop) (r : Bool) (h : CurAt w x b c F) (hroot : -1000000 ≤ c.root ∧ c.root ≤ 1000000) (hd : cStart chLast (-1) c = some (r, c')) :
    Calls Try.prog 13 #[.pointer (some ⟨x, 0, none⟩)] w (Moves w x b c c' F r) := by
  have HS := Lib.hid (wstart_is 36 #[] chLast 0 none enters_last (fun W g off p v h _ => wlast_is W g off p v h) (fun n hn => ⟨by unfold chLast; omega, by unfold chLast; omega⟩) (-1) (.inr rfl) w x b c c' F r h ⟨fun u hu => by cases hu⟩ hroot hd)
  go_enter Try.func13, Try.ntmps13
  go_wp2_with fail
  refine HS.out.mono ?_
  rintro e w1 ⟨F1, rfl, ha1, st1⟩
  go_wp2_with fail
  go_ret
  exact ⟨F1, rfl, ha1, st1⟩

theorem chSeek_near (key : Bytes) (n : Node) (h : nlen n ≤ 255) : -1000 ≤ chSeek key n ∧ chSeek key n ≤ 1000 := by
  cases n with
  | leaf l =>
    have h1 := findAt_le l key
    have h2 : l.length ≤ 255 := h
    show -1000 ≤ ((findAt l key : Nat) : Int) ∧ ((findAt l key : Nat) : Int) ≤ 1000
    omega
  | twig l =>
    have h1 := (List.takeWhile_sublist (p := fun x : Kid => !decide (key < x.key)) (l := l)).length_le
    have h2 : l.length ≤ 255 := h
    show -1000 ≤ ((findK l key : Nat) : Int) ∧ ((findK l key : Nat) : Int) ≤ 1000
    unfold findK
    omega
set_option maxRecDepth 100000 in
theorem wSeek_is (w : World) (x b : Nat) (c c' : Cur) (F : Nat → Prop) (key : Bytes) (r : Bool) (h : CurAt w x b c F) (hroot : -1000000 ≤ c.root ∧ c.root ≤ 1000000) (hd : cStart (chSeek key) 1 c = some (r, c')) :
    Calls Try.prog 14 #[.pointer (some ⟨x, 0, none⟩), str key] w (Moves w x b c c' F r) := by
  have hmf : ∀ (fn : Fn) (first cap : Array Value) (w : World), (Instr.makeFunc fn first cap).run Try.prog w = .ok (.func fn first cap) w := fun _ _ _ _ => rfl
  have ho := (Only.refl (fun _ => False) w).alloc (.cells #[str key] 9)
  obtain ⟨hlb, hlx⟩ := h.lt
  have hc := heap_cell (heap_alloc_new w (.cells #[str key] 9)) 0
  have hF : ¬ F w.heap.size := fun q => by
    obtain ⟨_, _, hI⟩ := h
    have := hI.small _ q; omega
  have hp : ¬ pown (w.alloc (.cells #[str key] 9)) b w.heap.size := fun q => by
    obtain ⟨_, _, hI⟩ := h
    have := pown_lt hI.pages ((pown_of_heap (ho.block b hlb (fun q => q)) _).1 q); omega
  have HS := Lib.hid (wstart_is 37 #[.pointer (some ⟨w.heap.size, 0, none⟩)] (chSeek key) w.heap.size (some (str key)) enters_seek (fun W g off p v h hk => wseek_is W g off w.heap.size key p v h (hk _ rfl)) (fun n hn => chSeek_near key n hn) 1 (.inl rfl) (w.alloc (.cells #[str key] 9)) x b c c' F r (h.still ho) ⟨fun u hu => by cases hu; exact ⟨hc, hF, hp⟩⟩ hroot hd)
  have HO := Lib.hid ho
  clear hc
  go_enter Try.func14, Try.ntmps14
  go_wp2_with fail
  refine HS.out.mono ?_
  rintro e w1 ⟨F1, rfl, ha1, st1⟩
  go_wp2_with fail
  go_ret
  exact ⟨F1, rfl, ha1, (CStep.still hlb HO.out).trans st1⟩

set_option maxRecDepth 100000 in
set_option maxHeartbeats 1000000 in
theorem wmove_is (by_ : Int) (hby : by_ = 1 ∨ by_ = -1) (w : World) (x b : Nat) (c c' : Cur) (F : Nat → Prop) (r : Bool) (h : CurAt w x b c F) (hsl : c.stack.length ≤ 12) (hnr : Near 900 c) (hd : cMove by_ c = some (r, c')) :
    Calls Try.prog 40 #[.pointer (some ⟨x, 0, none⟩), .int .i64 by_] w (Moves w x b c c' F r) := by
  obtain ⟨vS, vs, hI⟩ := h
  cases hst : c.stack with
  | nil =>
    unfold cMove at hd
    rw [hst] at hd
    simp only [Option.some.injEq, Prod.mk.injEq] at hd
    obtain ⟨rfl, rfl⟩ := hd
    have hown := hI.own
    rw [hst] at hown
    obtain ⟨aS, cS, rfl⟩ := ownsRow_form hown
    have c2 := heap_cell hI.heap 2
    simp only [List.getElem?_toArray, List.getElem?_cons_zero, List.getElem?_cons_succ, List.length_nil] at c2
    go_enter Try.func40, Try.ntmps40
    go_wp2_with fail
    go_ret
    exact ⟨F, rfl, hI.at_, CStep.refl b F w⟩
  | cons p st =>
    obtain ⟨n, a⟩ := p
    unfold cMove at hd
    rw [hst] at hd
    simp only [bump] at hd
    have hqa := hnr ⟨n, a⟩ (by rw [hst]; simp)
    simp only at hqa
    have hl2 : st.length ≤ 1000 := by rw [hst, List.length_cons] at hsl; omega
    obtain ⟨g, cap, us, v, rfl, rfl, _⟩ := hI.top hst
    have c2 := heap_cell hI.heap 2
    simp only [List.getElem?_toArray, List.getElem?_cons_zero, List.getElem?_cons_succ] at c2
    have HT := Lib.hid (wtop_is w x b c F g cap _ st.length hI hl2)
    have hwq : IntKind.i64.wrap (a + by_) = a + by_ := by rcases hby with rfl | rfl <;> exact IntWalk.i64_in _ (by omega)
    have hne : ¬ (st.length : Int) + 1 = 0 := by omega
    have HI := Lib.hid hI
    clear hI
    go_enter Try.func40, Try.ntmps40
    go_wp2_with fail
    refine HT.out.mono ?_
    rintro e w5 ⟨rfl, o5⟩
    have hI5 := HI.out.still o5
    have q5 := (hI5.topPlace hst).cells 2 (.int .i64 a) (by unfold placeC; cases n <;> rfl)
    have z5 : w5.frozen? ⟨g, st.length * 3 + 2, none⟩ = false := by
      have := hI5.own
      rw [hst, List.length_cons] at this
      exact own_frozen this _
    obtain ⟨hI6, hs6⟩ := hI5.setTop hst (a + by_)
    have HH := Lib.hid (where_is by_ hby 40 (by omega) _ x b _ c' F r hI6.at_ (by simp only [List.length_cons]; rw [hst, List.length_cons] at hsl; omega) (fun q hq => by
      rcases List.mem_cons.1 hq with rfl | hq
      · simp only; rcases hby with rfl | rfl <;> omega
      · have := hnr q (by rw [hst]; simp [hq]); omega) hd)
    have HS6 := Lib.hid ((CStep.still (F := F) HI.out.pages.lt o5).trans hs6)
    clear hI5 hI6 hs6 o5
    go_wp2_with fail
    refine HH.out.mono ?_
    rintro e w6 ⟨F6, rfl, ha6, st6⟩
    go_wp2_with fail
    go_ret
    exact ⟨F6, rfl, ha6, HS6.out.trans st6⟩
set_option maxRecDepth 100000 in
theorem wNext_is (w : World) (x b : Nat) (c c' : Cur) (F : Nat → Prop) (r : Bool) (h : CurAt w x b c F) (hsl : c.stack.length ≤ 12) (hnr : Near 900 c) (hd : cMove 1 c = some (r, c')) :
    Calls Try.prog 15 #[.pointer (some ⟨x, 0, none⟩)] w (Moves w x b c c' F r) := by
  have HS := Lib.hid (wmove_is 1 (.inl rfl) w x b c c' F r h hsl hnr hd)
  unfold Moves at HS
  go_enter Try.func15, Try.ntmps15
  go_wp2_with fail
  refine HS.out.mono ?_
  rintro e w1 ⟨F1, rfl, ha1, st1⟩
  go_wp2_with fail
  go_ret
  exact ⟨F1, rfl, ha1, st1⟩
set_option maxRecDepth 100000 in
theorem wBack_is (w : World) (x b : Nat) (c c' : Cur) (F : Nat → Prop) (r : Bool) (h : CurAt w x b c F) (hsl : c.stack.length ≤ 12) (hnr : Near 900 c) (hd : cMove (-1) c = some (r, c')) :
    Calls Try.prog 16 #[.pointer (some ⟨x, 0, none⟩)] w (Moves w x b c c' F r) := by
  have HS := Lib.hid (wmove_is (-1) (.inr rfl) w x b c c' F r h hsl hnr hd)
  unfold Moves at HS
  go_enter Try.func16, Try.ntmps16
  go_wp2_with fail
  refine HS.out.mono ?_
  rintro e w1 ⟨F1, rfl, ha1, st1⟩
  go_wp2_with fail
  go_ret
  exact ⟨F1, rfl, ha1, st1⟩

set_option maxRecDepth 100000 in
theorem wOn_is (w : World) (b : Nat) (S : PSt) (root : Int) (h : PagesAt w b S) :
    Calls Try.prog 11 #[pagesV b, .int .i64 root] w fun e w' => e = .returned (.pointer (some ⟨w.heap.size, 0, none⟩)) ∧ CurAt w' w.heap.size b ⟨S, root, [], 0⟩ (fun k => k = w.heap.size) ∧ Only (fun _ => False) w w' := by
  have hnil := pages_nil b
  have ho := (Only.refl (fun _ => False) w).alloc (.cells #[pagesV b, .int .i64 root, .slice none 0 0, .int .i64 0] 72)
  have hI : CurIn (w.alloc (.cells #[pagesV b, .int .i64 root, .slice none 0 0, .int .i64 0] 72)) w.heap.size b ⟨S, root, [], 0⟩ (fun k => k = w.heap.size) (.slice none 0 0) [] :=
    ⟨heap_alloc_new w _, ⟨rfl, .inl ⟨rfl, rfl⟩⟩, rfl, (fun j p v hj _ => by simp at hj), rfl, (fun k q => by cases q), (fun v hv => by cases hv), (fun k hk => by simp; omega), (fun k hk q => by have := pown_lt h ((pown_of_heap (ho.block b h.lt (fun q => q)) k).1 q); omega), h.still ho⟩
  unfold pagesV at hnil hI ⊢
  go_enter Try.func11, Try.ntmps11
  go_wp2_with fail
  go_ret
  exact ⟨rfl, ⟨_, _, hI⟩, ho⟩

def noItem : Value := .agg #[str [], str [], .int .i64 0]
set_option maxRecDepth 100000 in
set_option maxHeartbeats 1000000 in
theorem wItem_none (w : World) (x b : Nat) (c : Cur) (F : Nat → Prop) (h : CurAt w x b c F) (hs : c.stack = []) :
    Calls Try.prog 17 #[.pointer (some ⟨x, 0, none⟩)] w fun e w' => e = .returned (.tuple #[noItem, .bool false]) ∧ Only (fun _ => False) w w' := by
  obtain ⟨vS, vs, hI⟩ := h
  have ho := (Only.refl (fun _ => False) w).alloc (.cells #[str [], str [], .int .i64 0] 35)
  have hI1 := hI.still ho
  have hown := hI1.own
  rw [hs] at hown
  obtain ⟨aS, cS, rfl⟩ := ownsRow_form hown
  have c2 := heap_cell hI1.heap 2
  simp only [List.getElem?_toArray, List.getElem?_cons_zero, List.getElem?_cons_succ, List.length_nil] at c2
  go_enter Try.func17, Try.ntmps17
  go_wp2_with fail
  exact bodyPost_ret (v := .tuple #[noItem, .bool false]) (by simp [results, Try.results17, go_sem, noItem, str]) rfl ⟨rfl, ho⟩
set_option maxRecDepth 100000 in
set_option maxHeartbeats 2000000 in
theorem wItem_some (w : World) (x b : Nat) (c : Cur) (F : Nat → Prop) (h : CurAt w x b c F) (m : List Item) (a : Nat) (st : List Place) (it : Item) (hs : c.stack = ⟨.leaf m, a⟩ :: st) (hm : m[a]? = some it) (hl : st.length ≤ 1000) :
    Calls Try.prog 17 #[.pointer (some ⟨x, 0, none⟩)] w fun e w' => e = .returned (.tuple #[itemV it, .bool true]) ∧ Only (fun _ => False) w w' := by
  obtain ⟨vS, vs, hI⟩ := h
  have ho := (Only.refl (fun _ => False) w).alloc (.cells #[str [], str [], .int .i64 0] 35)
  have hI1 := hI.still ho
  obtain ⟨g, cap, us, v, rfl, rfl, _⟩ := hI.top hs
  have c2 := heap_cell hI1.heap 2
  simp only [List.getElem?_toArray, List.getElem?_cons_zero, List.getElem?_cons_succ] at c2
  have hh := heap_alloc_new w (.cells #[str [], str [], .int .i64 0] 35)
  have hws : (w.alloc (.cells #[str [], str [], .int .i64 0] 35)).heap.size = w.heap.size + 1 := by simp
  have HT := Lib.hid (wtop_is _ x b c F g cap _ st.length hI1 hl)
  have HO := Lib.hid ho
  have HI1 := Lib.hid hI1
  have hv0 : ∀ k, rowBlock v = some k → k < w.heap.size := fun k hk => hI.small k (hI.fv v (by simp) k hk).1
  have hne : ¬ (st.length : Int) + 1 = 0 := by omega
  clear hI hI1 ho
  go_enter Try.func17, Try.ntmps17
  go_wp2_with fail
  refine HT.out.mono ?_
  rintro e w5 ⟨rfl, o5⟩
  have hP := (HI1.out.still o5).topPlace hs
  have hr := hP.row
  obtain ⟨al, nl, cl, rfl⟩ := capOk_form hr.1.cap
  have hn : nl = m.length := by cases hr.1.row <;> rfl
  subst hn
  have q0 := hP.cells 0 _ rfl
  have q2 := hP.cells 2 _ rfl
  simp only [Nat.add_zero] at q0
  obtain ⟨gi, offi, rfl, i0, i1, i2⟩ := row_item hr.1.row hm
  have hB := (o5.block _ (by rw [hws]; omega) (fun q => q)).trans hh
  have b0 := heap_cell hB 0
  have b1 := heap_cell hB 1
  have b2 := heap_cell hB 2
  have z0 := heap_frozen hB 0
  have z1 := heap_frozen hB 1
  have z2 := heap_frozen hB 2
  simp only [List.getElem?_toArray, List.getElem?_cons_zero, List.getElem?_cons_succ] at b0 b1 b2
  have ha := (List.getElem?_eq_some_iff.1 hm).1
  have ha2 : (a : Int) < (m.length : Int) := by omega
  have hgi : gi ≠ w.heap.size := fun e => by have := hv0 gi rfl; omega
  have hfin : Only (fun _ => False) w (((w5.setCell ⟨w.heap.size, 0, none⟩ (str it.key)).setCell ⟨w.heap.size, 1, none⟩ (str it.val)).setCell ⟨w.heap.size, 2, none⟩ (.int .i64 it.kind)) := (((HO.out.trans o5 (fun _ _ q => q)).setCell (p := ⟨w.heap.size, 0, none⟩) (fun q => by simp at q) (str it.key)).setCell (p := ⟨w.heap.size, 1, none⟩) (fun q => by simp at q) (str it.val)).setCell (p := ⟨w.heap.size, 2, none⟩) (fun q => by simp at q) (.int .i64 it.kind)
  have hH := heap_setCell (heap_setCell (heap_setCell hB 0 (str it.key)) 1 (str it.val)) 2 (.int .i64 it.kind)
  have hHd : ((((w5.setCell ⟨w.heap.size, 0, none⟩ (str it.key)).setCell ⟨w.heap.size, 1, none⟩ (str it.val)).setCell ⟨w.heap.size, 2, none⟩ (.int .i64 it.kind)).drew).heap[w.heap.size]? = _ := hH
  have g0 := heap_cell hHd 0
  have g1 := heap_cell hHd 1
  have g2 := heap_cell hHd 2
  simp only [List.getElem?_toArray, List.getElem?_cons_zero, List.getElem?_cons_succ, List.setIfInBounds_toArray, List.set_cons_zero, List.set_cons_succ] at g0 g1 g2
  have HF := Lib.hid hfin
  have HG := Lib.hid (And.intro g0 (And.intro g1 g2))
  clear hfin hH hHd g0 g1 g2 hP hr hB hh hws HT HI1
  go_wp2_with fail
  go_region
  all_goals
    go_wp2_with fail
    obtain ⟨g0, g1, g2⟩ := HG.out
    exact bodyPost_ret (v := .tuple #[itemV it, .bool true]) (by simp [results, Try.results17, go_sem, itemV, itemC, str, g0, g1, g2]) rfl ⟨rfl, HF.out.drew⟩
end Go.Proofs.Ytcjaokmodicikaa
