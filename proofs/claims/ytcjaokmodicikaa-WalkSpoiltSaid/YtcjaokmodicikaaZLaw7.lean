/- A cursor over the law's pages of which only so many more are told; a cursor that is nil. Conditions: one goroutine; the pages lie in memory. -/
import Derived.Test.YtcjaokmodicikaaZLaw4
namespace Go.Proofs.Ytcjaokmodicikaa
open Go.RowKit

/-- Where a cursor sits while pages are told. -/
structure Sits2 (S : PSt) (root : Int) (l : List Item) (c : Cur) (k : Option Nat) : Prop where
  p : c.p = { S with stop := c.p.stop }
  stop : 0 ≤ c.p.stop
  root : c.root = root
  e : c.e = 0
  at_ : match k with | some k => Stands S.L l c.stack k | none => c.stack = []
/-- A cursor that has failed. -/
structure Gone (S : PSt) (root : Int) (c : Cur) : Prop where
  p : c.p = { S with stop := c.p.stop }
  root : c.root = root
  e : c.e = 14
  at_ : c.stack = []
theorem Sits2.lt {S : PSt} {root : Int} {l : List Item} {c : Cur} {k : Nat} (h : Sits2 S root l c (some k)) : k < l.length := by
  obtain ⟨m, a, r, x, h1, h2, h3, h4⟩ := stands_item (l := l) h.at_
  exact (List.getElem?_eq_some_iff.1 h3).1
theorem Sits2.next {S : PSt} {root : Int} {l : List Item} {c c' : Cur} {k k' : Option Nat} {r : Bool} (h : Sits2 S root l c k) (he : Ends S.L l c k' r c') : (r = k'.isSome ∧ Sits2 S root l c' k') ∨ (r = false ∧ Gone S root c') := by
  have hp : c'.p = { S with stop := c'.p.stop } := by
    have := he.pages
    rw [h.p] at this
    exact this
  have hu := he.upset h.stop
  rcases he.how with ⟨h1, h2, h3⟩ | ⟨_, h2, h3, h4⟩
  · exact .inl ⟨h1, hp, hu, he.root.trans h.root, h2.trans h.e, h3⟩
  · exact .inr ⟨h2, hp, he.root.trans h.root, h4, h3⟩
/-- The pages with a tree in them, told or not. -/
structure Grown2 (S : PSt) (root : Int) (l : List Item) : Prop where
  rooted : ∃ ids, Rooted S.L root l ids
  few : l.length < 2 ^ 11
  pages : S.L.length ≤ 3998
def Goes2 (w : World) (x b : Nat) (S : PSt) (root : Int) (l : List Item) (F : Nat → Prop) (k : Option Nat) : Ending → World → Prop := fun e w' =>
  ∃ (r : Bool) (c' : Cur) (F' : Nat → Prop), e = .returned (.bool r) ∧ CurAt w' x b c' F' ∧ CStep b F F' w w' ∧ ((r = k.isSome ∧ Sits2 S root l c' k) ∨ (r = false ∧ Gone S root c'))
section
variable {S : PSt} {root : Int} {l : List Item} (G : Grown2 S root l) (w : World) (x b : Nat) (c : Cur) (F : Nat → Prop)
include G
theorem goes2_first (k : Option Nat) (h : CurAt w x b c F) (s : Sits2 S root l c k) : Calls Try.prog 12 #[.pointer (some ⟨x, 0, none⟩)] w (Goes2 w x b S root l F (fstOf l)) := by
  obtain ⟨ids, R⟩ := G.rooted
  have hr := rooted_range R G.pages
  obtain ⟨r, c', h1, h2⟩ := first_is S.L l root ids R G.few c (by rw [s.p]) s.root s.e
  have h3 := s.next h2
  refine (wFirst_is w x b c c' F _ h (by rw [s.root]; exact hr) h1).mono ?_
  rintro e w' ⟨F', e1, e2, e3⟩
  exact ⟨r, c', F', e1, e2, e3, h3⟩
end
theorem goes2_next {S : PSt} {root : Int} {l : List Item} (w : World) (x b : Nat) (c : Cur) (F : Nat → Prop) (k : Nat) (h : CurAt w x b c F) (s : Sits2 S root l c (some k)) : Calls Try.prog 15 #[.pointer (some ⟨x, 0, none⟩)] w (Goes2 w x b S root l F (nxtOf l (some k))) := by
  have hst : Stands S.L l c.stack k := s.at_
  obtain ⟨r, c', h1, h2⟩ := next_is S.L l c (by rw [s.p]) k hst
  have h3 := s.next h2
  refine (wNext_is w x b c c' F _ h hst.near.2 hst.near.1 h1).mono ?_
  rintro e w' ⟨F', e1, e2, e3⟩
  exact ⟨r, c', F', e1, e2, e3, h3⟩
theorem goes2_item {S : PSt} {root : Int} {l : List Item} (w : World) (x b : Nat) (c : Cur) (F : Nat → Prop) (k : Nat) (h : CurAt w x b c F) (s : Sits2 S root l c (some k)) :
    Calls Try.prog 17 #[.pointer (some ⟨x, 0, none⟩)] w fun e w' => e = .returned (.tuple #[itemAt l (some k), .bool true]) ∧ Only (fun _ => False) w w' := by
  have hst : Stands S.L l c.stack k := s.at_
  obtain ⟨m, a, r, it, h1, h2, h3, h4⟩ := stands_item hst
  have hl := hst.near.2
  rw [h1, List.length_cons] at hl
  have := wItem_some w x b c F h m a r it h1 h2 (by omega)
  unfold itemAt
  simp only [Option.bind_some, h3]
  exact this

/-- A cursor that has failed answers each call so. -/
def Stays (w : World) (x b : Nat) (c : Cur) (F : Nat → Prop) : Ending → World → Prop := fun e w' => ∃ F', e = .returned (.bool false) ∧ CurAt w' x b c F' ∧ CStep b F F' w w'
section
variable (w : World) (x b : Nat) (c : Cur) (F : Nat → Prop) (h : CurAt w x b c F) (he : c.e = 14) (hs : c.stack = []) (hroot : -1000000 ≤ c.root ∧ c.root ≤ 1000000)
include h he hroot
theorem gone_first : Calls Try.prog 12 #[.pointer (some ⟨x, 0, none⟩)] w (Stays w x b c F) :=
  wFirst_is w x b c c F false h hroot (by unfold cStart; rw [if_pos (by omega)])
theorem gone_last : Calls Try.prog 13 #[.pointer (some ⟨x, 0, none⟩)] w (Stays w x b c F) :=
  wLast_is w x b c c F false h hroot (by unfold cStart; rw [if_pos (by omega)])
theorem gone_seek (key : Bytes) : Calls Try.prog 14 #[.pointer (some ⟨x, 0, none⟩), str key] w (Stays w x b c F) :=
  wSeek_is w x b c c F key false h hroot (by unfold cStart; rw [if_pos (by omega)])
end
section
variable (w : World) (x b : Nat) (c : Cur) (F : Nat → Prop) (h : CurAt w x b c F) (hs : c.stack = [])
include h hs
theorem gone_next : Calls Try.prog 15 #[.pointer (some ⟨x, 0, none⟩)] w (Stays w x b c F) :=
  wNext_is w x b c c F false h (by rw [hs]; simp) (fun q hq => by rw [hs] at hq; cases hq) (cMove_nil 1 c hs)
theorem gone_back : Calls Try.prog 16 #[.pointer (some ⟨x, 0, none⟩)] w (Stays w x b c F) :=
  wBack_is w x b c c F false h (by rw [hs]; simp) (fun q hq => by rw [hs] at hq; cases hq) (cMove_nil (-1) c hs)
end

/-- A cursor that is nil. -/
theorem wstart_nil (f : Value) (by_ : Int) (w : World) : Calls Try.prog 34 #[.pointer none, f, .int .i64 by_] w fun e w' => e = .returned (.bool false) ∧ w = w' := by
  go_enter Try.func34, Try.ntmps34
  go_wp2_with fail
  go_ret
  exact ⟨rfl, rfl⟩
theorem wmove_nil (by_ : Int) (w : World) : Calls Try.prog 40 #[.pointer none, .int .i64 by_] w fun e w' => e = .returned (.bool false) ∧ w = w' := by
  go_enter Try.func40, Try.ntmps40
  go_wp2_with fail
  go_ret
  exact ⟨rfl, rfl⟩
def NilEnds (w : World) : Ending → World → Prop := fun e w' => e = .returned (.bool false) ∧ Only (fun _ => False) w w'
theorem nil_first (w : World) : Calls Try.prog 12 #[.pointer none] w (NilEnds w) := by
  go_enter Try.func12, Try.ntmps12
  go_wp2_with fail
  refine (wstart_nil _ _ _).mono ?_
  rintro e w1 ⟨rfl, rfl⟩
  go_wp2_with fail
  go_ret
  exact ⟨rfl, Only.refl _ _⟩
theorem nil_last (w : World) : Calls Try.prog 13 #[.pointer none] w (NilEnds w) := by
  go_enter Try.func13, Try.ntmps13
  go_wp2_with fail
  refine (wstart_nil _ _ _).mono ?_
  rintro e w1 ⟨rfl, rfl⟩
  go_wp2_with fail
  go_ret
  exact ⟨rfl, Only.refl _ _⟩
theorem nil_seek (key : Bytes) (w : World) : Calls Try.prog 14 #[.pointer none, str key] w (NilEnds w) := by
  have hmf : ∀ (fn : Fn) (first cap : Array Value) (w : World), (Instr.makeFunc fn first cap).run Try.prog w = .ok (.func fn first cap) w := fun _ _ _ _ => rfl
  have HO := Lib.hid ((Only.refl (fun _ => False) w).alloc (.cells #[str key] 9))
  go_enter Try.func14, Try.ntmps14
  go_wp2_with fail
  refine (wstart_nil _ _ _).mono ?_
  rintro e w1 ⟨rfl, rfl⟩
  go_wp2_with fail
  go_ret
  exact ⟨rfl, HO.out⟩
theorem nil_next (w : World) : Calls Try.prog 15 #[.pointer none] w (NilEnds w) := by
  go_enter Try.func15, Try.ntmps15
  go_wp2_with fail
  refine (wmove_nil _ _).mono ?_
  rintro e w1 ⟨rfl, rfl⟩
  go_wp2_with fail
  go_ret
  exact ⟨rfl, Only.refl _ _⟩
theorem nil_back (w : World) : Calls Try.prog 16 #[.pointer none] w (NilEnds w) := by
  go_enter Try.func16, Try.ntmps16
  go_wp2_with fail
  refine (wmove_nil _ _).mono ?_
  rintro e w1 ⟨rfl, rfl⟩
  go_wp2_with fail
  go_ret
  exact ⟨rfl, Only.refl _ _⟩

/-- How many more pages are told is set anew. -/
theorem pages_stop {w : World} {b : Nat} {S : PSt} (h : PagesAt w b S) (n : Int) (hn : -1 ≤ n ∧ n ≤ 1000000) : PagesAt (w.setCell ⟨b, 5, none⟩ (.int .i64 n)) b { S with stop := n } ∧ (∀ k, pown (w.setCell ⟨b, 5, none⟩ (.int .i64 n)) b k → pown w b k) := by
  obtain ⟨vL, vG, hI⟩ := h
  have hh := heap_setCell hI.heap 5 (.int .i64 n)
  have ho := (Only.refl (fun k => k = b) w).put b 5 rfl (.int .i64 n)
  have hP : PagesIn (w.setCell ⟨b, 5, none⟩ (.int .i64 n)) b { S with stop := n } vL vG :=
    ⟨hh, own_only hI.rowL ho (fun k q e => hI.neL (e ▸ q)), own_only hI.rowG ho (fun k q e => hI.neG (e ▸ q)), hI.neL, hI.neG, hI.apart, hI.sound, hI.few, hI.mine, hn, hI.given⟩
  exact ⟨⟨vL, vG, hP⟩, fun k q => by rw [hP.pown_iff] at q; rw [hI.pown_iff]; exact q⟩
theorem cur_stop {w : World} {x b : Nat} {c : Cur} {F : Nat → Prop} (h : CurAt w x b c F) (n : Int) (hn : -1 ≤ n ∧ n ≤ 1000000) : CurAt (w.setCell ⟨b, 5, none⟩ (.int .i64 n)) x b { c with p := { c.p with stop := n } } F ∧ CStep b F F w (w.setCell ⟨b, 5, none⟩ (.int .i64 n)) := by
  obtain ⟨vS, vs, hI⟩ := h
  obtain ⟨hP, hw⟩ := pages_stop hI.pages n hn
  have ho := (Only.refl (fun k => k = b) w).put b 5 rfl (.int .i64 n)
  exact ⟨⟨vS, vs, hI.beside ho (fun k hk e => hI.apart k hk (e ▸ .inl rfl)) hP (fun k q => .inl (hw k q))⟩, ho.mono fun k _ e => .inr (e ▸ .inl rfl), fun k q => .inl q, fun k q => .inl (hw k q)⟩
end Go.Proofs.Ytcjaokmodicikaa
