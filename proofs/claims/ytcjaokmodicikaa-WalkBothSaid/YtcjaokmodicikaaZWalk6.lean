/- Package walk over the law's pages: First, Last, Seek, Next, Back, Item, On. Conditions: one goroutine; the cursor and the pages lie in memory. -/
import Derived.Test.YtcjaokmodicikaaZWalk5
namespace Go.Proofs.Ytcjaokmodicikaa
open Go.RowKit

theorem getP_L {p p' : PSt} {id : Int} {r : Except Int Node} (h : getP p id = (r, p')) : p'.L = p.L := by
  unfold getP at h
  split at h
  · cases h; rfl
  · split at h
    · cases h; split <;> rfl
    · cases h; split <;> rfl
theorem cLoad_true2 {c c' : Cur} {id : Int} (h : cLoad c id = (true, c')) : ∃ n, n ∈ c.p.L ∧ c'.stack = ⟨n, 0⟩ :: c.stack ∧ c'.p.L = c.p.L := by
  unfold cLoad at h
  split at h
  · cases h
  · split at h
    · cases h
    · rename_i n p hg; cases h; exact ⟨n, nodeAt_mem (getP_ok hg), rfl, getP_L hg⟩
theorem cDown_near {ch : Node → Int} (hN : ∀ n, nlen n ≤ 255 → -1000 ≤ ch n ∧ ch n ≤ 1000) (f : Nat) : ∀ (c c' : Cur) (r : Bool), cDown ch f c = some (r, c') → c.stack.length ≤ 12 → Near 1000 c → (∀ n ∈ c.p.L, nlen n ≤ 255) → (∀ p ∈ c.stack, nlen p.node ≤ 255) → c'.stack.length ≤ 12 ∧ Near 1000 c' := by
  induction f with
  | zero => intro c c' r h; cases h
  | succ f ih =>
    intro c c' r h hl hn hL hS
    cases hst : c.stack with
    | nil => rw [cDown, hst] at h; cases h
    | cons p st =>
      obtain ⟨node, a⟩ := p
      have hS0 := hS ⟨node, a⟩ (by rw [hst]; simp)
      rw [hst, List.length_cons] at hl
      cases node with
      | leaf l =>
        rw [cDown, hst] at h
        simp only [Option.some.injEq, Prod.mk.injEq] at h
        obtain ⟨rfl, rfl⟩ := h
        refine ⟨by simp only [List.length_cons]; omega, fun p hp => ?_⟩
        rcases List.mem_cons.1 hp with rfl | hp
        · exact hN _ hS0
        · exact hn p (by rw [hst]; simp [hp])
      | twig l =>
        rw [cDown, hst] at h
        simp only at h
        cases hk : kidAt l (ch (.twig l)) with
        | none => rw [hk] at h; cases h
        | some k =>
          rw [hk] at h
          simp only at h
          cases hcl : cLoad { c with stack := ⟨.twig l, ch (.twig l)⟩ :: st } k.page with
          | mk r2 c2 =>
            rw [hcl] at h
            cases r2 with
            | false =>
              simp only [Option.some.injEq, Prod.mk.injEq] at h
              obtain ⟨rfl, rfl⟩ := h
              have : c2.stack = [] := by
                unfold cLoad at hcl
                split at hcl
                · cases hcl; rfl
                · split at hcl
                  · cases hcl; rfl
                  · cases hcl
              exact ⟨by rw [this]; simp, fun p hp => by rw [this] at hp; cases hp⟩
            | true =>
              obtain ⟨n2, h1, h2, h3⟩ := cLoad_true2 hcl
              refine ih c2 c' r h (cLoad_len hcl) (fun p hp => ?_) (by rw [h3]; exact hL) (fun p hp => ?_)
              · rw [h2] at hp
                rcases List.mem_cons.1 hp with rfl | hp
                · exact ⟨by simp only; omega, by simp only; omega⟩
                · rcases List.mem_cons.1 hp with rfl | hp
                  · exact hN _ hS0
                  · exact hn p (by rw [hst]; simp [hp])
              · rw [h2] at hp
                rcases List.mem_cons.1 hp with rfl | hp
                · exact hL _ h1
                · rcases List.mem_cons.1 hp with rfl | hp
                  · exact hS0
                  · exact hS p (by rw [hst]; simp [hp])

set_option maxRecDepth 100000 in
set_option maxHeartbeats 8000000 in
theorem wstart_is (fk : Nat) (cap : Array Value) (ch : Node → Int) (B : Nat) (kv : Option Value) (hent : ∀ args w, (callFunc fk args).run Try.prog w = .ok (.enter fk args) w) (hch : ChooseIs fk cap ch B kv) (hchn : ∀ n, nlen n ≤ 255 → -1000 ≤ ch n ∧ ch n ≤ 1000) (by_ : Int) (hby : by_ = 1 ∨ by_ = -1) (w : World) (x b : Nat) (c c' : Cur) (F : Nat → Prop) (r : Bool) (h : CurAt w x b c F) (hK : KInv b B kv F w) (hroot : -1000000 ≤ c.root ∧ c.root ≤ 1000000) (hd : cStart ch by_ c = some (r, c')) :
    Calls Try.prog 34 #[.pointer (some ⟨x, 0, none⟩), .func (.func fk) #[] cap, .int .i64 by_] w fun e w' => ∃ F', e = .returned (.bool r) ∧ CurAt w' x b c' F' ∧ CStep b F F' w w' := by
  obtain ⟨vS, vs, hI⟩ := h
  have hLs : ∀ n ∈ c.p.L, nlen n ≤ 255 := fun n hn => by
    obtain ⟨vL, vG, hp⟩ := hI.pages
    have := hp.sound n hn
    cases n with
    | leaf l => exact this.1.2.2
    | twig l => exact this.1.2.2
  have c3 := heap_cell hI.heap 3
  have c1 := heap_cell hI.heap 1
  have c2 := heap_cell hI.heap 2
  have z2 := heap_frozen hI.heap 2
  simp only [List.getElem?_toArray, List.getElem?_cons_zero, List.getElem?_cons_succ] at c1 c2 c3
  by_cases he : c.e ≠ 0
  · have hd2 := hd
    unfold cStart at hd2
    rw [if_pos he] at hd2
    simp only [Option.some.injEq, Prod.mk.injEq] at hd2
    obtain ⟨rfl, rfl⟩ := hd2
    go_enter Try.func34, Try.ntmps34
    go_wp2_with fail
    go_ret
    first | exact ⟨rfl, F, hI.at_, CStep.refl b F w⟩ | exact ⟨F, rfl, hI.at_, CStep.refl b F w⟩
  · have he0 : c.e = 0 := Classical.not_not.1 he
    unfold cStart at hd
    rw [if_neg he] at hd
    -- the stack is made empty
    have ho := (Only.refl (fun k => k = x) w).put x 2 rfl (.slice none 0 0)
    have hbx : ∀ k, pown w b k → ¬ k = x := fun k q e => hI.apart k (e ▸ hI.fx) q
    have hpw : ∀ k, pown (w.setCell ⟨x, 2, none⟩ (.slice none 0 0)) b k ↔ pown w b k := pown_of_heap (ho.block b hI.pages.lt (hbx b (.inl rfl)))
    have hP : PagesAt (w.setCell ⟨x, 2, none⟩ (.slice none 0 0)) b c.p := by
      obtain ⟨vL, vG, hp⟩ := hI.pages
      exact ⟨vL, vG, hp.beside ho hbx⟩
    have hI1 : CurIn (w.setCell ⟨x, 2, none⟩ (.slice none 0 0)) x b { c with stack := [] } F (.slice none 0 0) [] :=
      ⟨heap_setCell hI.heap 2 _, ⟨rfl, .inl ⟨rfl, rfl⟩⟩, rfl, (fun j p v hj _ => by simp at hj), hI.fx, (fun k q => by cases q), (fun v hv => by cases hv), fun k hk => Nat.lt_of_lt_of_le (hI.small k hk) ho.size, fun k hk q => hI.apart k hk ((hpw k).1 q), hP⟩
    have hs1 : CStep b F F w (w.setCell ⟨x, 2, none⟩ (.slice none 0 0)) := ⟨ho.mono fun k _ e => .inl (by have e2 : k = x := e; exact e2 ▸ hI.fx), fun k q => .inl q, fun k q => .inl ((hpw k).1 q)⟩
    have hK1 := hK.step hs1
    have d1 := heap_cell hI1.heap 1
    simp only [List.getElem?_toArray, List.getElem?_cons_zero, List.getElem?_cons_succ] at d1
    rw [he0] at c3
    have HI1 := Lib.hid hI1
    have HS1 := Lib.hid hs1
    have HK1 := Lib.hid hK1
    clear hI hI1 hs1 hK1 ho hbx hpw hP hK
    by_cases hr0 : c.root = 0
    · rw [if_pos hr0] at hd
      simp only [Option.some.injEq, Prod.mk.injEq] at hd
      obtain ⟨rfl, rfl⟩ := hd
      rw [hr0] at c1 d1
      go_enter Try.func34, Try.ntmps34
      go_wp2_with fail
      go_ret
      first | exact ⟨rfl, F, HI1.out.at_, HS1.out⟩ | exact ⟨F, rfl, HI1.out.at_, HS1.out⟩
    · rw [if_neg hr0] at hd
      have HL := Lib.hid (wload_is _ x b _ F c.root HI1.out.at_ hroot (by simp))
      cases hcl : cLoad { c with stack := [] } c.root with
      | mk r1 cA =>
        rw [hcl] at hd HL
        cases r1 with
        | false =>
          simp only [Option.some.injEq, Prod.mk.injEq] at hd
          obtain ⟨rfl, rfl⟩ := hd
          go_enter Try.func34, Try.ntmps34
          go_wp2_with fail
          refine HL.out.mono ?_
          rintro e w4 ⟨F4, rfl, ha4, st4⟩
          go_wp2_with fail
          go_ret
          first | exact ⟨rfl, F4, ha4, HS1.out.trans st4⟩ | exact ⟨F4, rfl, ha4, HS1.out.trans st4⟩
        | true =>
          simp only at hd
          have hlA := cLoad_len hcl
          have hnA : Near 1000 cA := by
            obtain ⟨n2, h2⟩ := cLoad_true hcl
            intro p hp
            rw [h2] at hp
            rcases List.mem_cons.1 hp with rfl | hp
            · exact ⟨by simp only; omega, by simp only; omega⟩
            · cases hp
          have hLA : ∀ n ∈ cA.p.L, nlen n ≤ 255 := by
            obtain ⟨n2, h1, h2, h3⟩ := cLoad_true2 hcl
            rw [h3]; exact hLs
          have hSA : ∀ p ∈ cA.stack, nlen p.node ≤ 255 := by
            obtain ⟨n2, h1, h2, h3⟩ := cLoad_true2 hcl
            intro p hp
            rw [h2] at hp
            rcases List.mem_cons.1 hp with rfl | hp
            · exact hLs _ h1
            · cases hp
          cases hcd : cDown ch 20 cA with
          | none => rw [hcd] at hd; cases hd
          | some q =>
            obtain ⟨r2, cB⟩ := q
            rw [hcd] at hd
            have hDN := fun W F' (hW : CurAt W x b cA F') hk => wdown_is fk cap ch B kv hent hch 20 W x b cA cB F' r2 hW hk hlA hcd
            have HDN := Lib.hid hDN
            cases r2 with
            | false =>
              simp only [Option.some.injEq, Prod.mk.injEq] at hd
              obtain ⟨rfl, rfl⟩ := hd
              clear hDN
              go_enter Try.func34, Try.ntmps34
              go_wp2_with fail
              refine HL.out.mono ?_
              rintro e w4 ⟨F4, rfl, ha4, st4⟩
              have HA4 := Lib.hid ha4
              have HS4 := Lib.hid st4
              clear ha4 st4
              go_wp2_with fail
              refine (HDN.out _ F4 HA4.out (HK1.out.step HS4.out)).mono ?_
              rintro e w5 ⟨F5, rfl, ha5, st5⟩
              go_wp2_with fail
              go_ret
              first | exact ⟨rfl, F5, ha5, HS1.out.trans (HS4.out.trans st5)⟩ | exact ⟨F5, rfl, ha5, HS1.out.trans (HS4.out.trans st5)⟩
            | true =>
              simp only at hd
              obtain ⟨hlB, hnB⟩ := cDown_near hchn 20 cA cB true hcd hlA hnA hLA hSA
              have HH := Lib.hid (fun W F' (hW : CurAt W x b cB F') => where_is by_ hby 40 (by omega) W x b cB c' F' r hW hlB hnB hd)
              clear hDN hd
              go_enter Try.func34, Try.ntmps34
              go_wp2_with fail
              refine HL.out.mono ?_
              rintro e w4 ⟨F4, rfl, ha4, st4⟩
              have HA4 := Lib.hid ha4
              have HS4 := Lib.hid st4
              clear ha4 st4
              go_wp2_with fail
              refine (HDN.out _ F4 HA4.out (HK1.out.step HS4.out)).mono ?_
              rintro e w5 ⟨F5, rfl, ha5, st5⟩
              have HA5 := Lib.hid ha5
              have HS5 := Lib.hid st5
              clear ha5 st5
              go_wp2_with fail
              refine (HH.out _ F5 HA5.out).mono ?_
              rintro e w6 ⟨F6, rfl, ha6, st6⟩
              go_wp2_with fail
              go_ret
              first | exact ⟨rfl, F6, ha6, HS1.out.trans (HS4.out.trans (HS5.out.trans st6))⟩ | exact ⟨F6, rfl, ha6, HS1.out.trans (HS4.out.trans (HS5.out.trans st6))⟩
end Go.Proofs.Ytcjaokmodicikaa
