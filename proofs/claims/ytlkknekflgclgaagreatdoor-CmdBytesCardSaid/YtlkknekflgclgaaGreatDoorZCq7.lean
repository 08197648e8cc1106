/- Requests held against each other; how much room a list of commands takes. Conditions: one goroutine. -/
import Derived.Test.YtlkknekflgclgaaGreatDoorZCq6
import Derived.BigRegion
namespace Go.Proofs.YtlkknekflgclgaaGreatDoor
open Go.RowKit Go.MuLone

theorem cq_iff (x y : Cq) : x = y ↔ x.kind = y.kind ∧ x.path = y.path ∧ x.key = y.key ∧ x.val = y.val ∧ x.old = y.old := by
  cases x; cases y; simp
theorem cmd_eql (x y : Cq) (w : World) : (binOp .eql 119 (.agg #[.int .i64 x.kind, .string ⟨x.path.toArray⟩, .string ⟨x.key.toArray⟩, .string ⟨x.val.toArray⟩, .string ⟨x.old.toArray⟩]) (.agg #[.int .i64 y.kind, .string ⟨y.path.toArray⟩, .string ⟨y.key.toArray⟩, .string ⟨y.val.toArray⟩, .string ⟨y.old.toArray⟩])).run Tryz.prog w = .ok (.bool (decide (x = y))) w := by
  have h := cq_iff x y
  simp [go_sem]
  by_cases h1 : x.kind = y.kind <;> by_cases h2 : x.path = y.path <;> by_cases h3 : x.key = y.key <;> by_cases h4 : x.val = y.val <;> by_cases h5 : x.old = y.old <;> simp [h, h1, h2, h3, h4, h5]
theorem cmd_neq (x y : Cq) (w : World) : (binOp .neq 119 (.agg #[.int .i64 x.kind, .string ⟨x.path.toArray⟩, .string ⟨x.key.toArray⟩, .string ⟨x.val.toArray⟩, .string ⟨x.old.toArray⟩]) (.agg #[.int .i64 y.kind, .string ⟨y.path.toArray⟩, .string ⟨y.key.toArray⟩, .string ⟨y.val.toArray⟩, .string ⟨y.old.toArray⟩])).run Tryz.prog w = .ok (.bool (!decide (x = y))) w := by
  have h := cq_iff x y
  simp [go_sem]
  by_cases h1 : x.kind = y.kind <;> by_cases h2 : x.path = y.path <;> by_cases h3 : x.key = y.key <;> by_cases h4 : x.val = y.val <;> by_cases h5 : x.old = y.old <;> simp [h, h1, h2, h3, h4, h5]
set_option maxRecDepth 100000 in
set_option maxHeartbeats 4000000 in
theorem SameReq_is (w : World) (r q : ReqQ) (v u : Value) (hv : RowAt cmdC 5 w v r.cmds) (hu : RowAt cmdC 5 w u q.cmds) (hn : r.cmds.length ≤ 9223372036854775807) :
    Calls Tryz.prog 21 #[.agg #[.int .i64 r.client, .int .i64 r.seq, v], .agg #[.int .i64 q.client, .int .i64 q.seq, u]] w fun e w' => e = .returned (.bool (decide (r = q))) ∧ Only (fun _ => False) w w' := by
  obtain ⟨cl, sq, l⟩ := r
  obtain ⟨cl2, sq2, l2⟩ := q
  dsimp only at *
  obtain ⟨a, cap, rfl, ha⟩ := row_len hv
  obtain ⟨a2, cap2, rfl, ha2⟩ := row_len hu
  have oA := ((Only.refl (fun _ => False) w).alloc (.cells #[.int .i64 cl, .int .i64 sq, .slice a l.length cap] 52)).alloc (.cells #[.int .i64 cl2, .int .i64 sq2, .slice a2 l2.length cap2] 52)
  have HO := Lib.hid oA
  have HV := Lib.hid (row_still hv oA)
  have HU := Lib.hid (row_still hu oA)
  have HA := Lib.hid ha
  have HA2 := Lib.hid ha2
  have hiff : (⟨cl, sq, l⟩ : ReqQ) = ⟨cl2, sq2, l2⟩ ↔ cl = cl2 ∧ sq = sq2 ∧ l = l2 := by simp
  generalize hdd : decide ((⟨cl, sq, l⟩ : ReqQ) = ⟨cl2, sq2, l2⟩) = d at *
  have hd1 : cl ≠ cl2 ∨ sq ≠ sq2 ∨ l ≠ l2 → d = false := fun h => by
    rw [← hdd]
    refine decide_eq_false fun q => ?_
    obtain ⟨q1, q2, q3⟩ := hiff.1 q
    rcases h with h | h | h
    · exact h q1
    · exact h q2
    · exact h q3
  have hd2 : cl = cl2 → sq = sq2 → l = l2 → d = true := fun h1 h2 h3 => by
    rw [← hdd]
    exact decide_eq_true (hiff.2 ⟨h1, h2, h3⟩)
  have HD1 := Lib.hid hd1
  have HD2 := Lib.hid hd2
  clear hv hu oA ha ha2 hiff hdd hd1 hd2
  by_cases h1 : cl = cl2
  · subst h1
    by_cases h2 : sq = sq2
    · subst h2
      by_cases h3 : l.length = l2.length
      · rw [← h3] at HU HO HV ⊢
        have H3 := Lib.hid h3
        clear h3
        go_enter Tryz.func21, Tryz.ntmps21
        go_wp2_with fail
        have sA : ∀ o : Obj, (w.alloc o).heap.size = w.heap.size + 1 := fun o => Array.size_push _
        have n1 := ((Only.refl (fun _ => False) (w.alloc (.cells #[.int .i64 cl, .int .i64 sq, .slice a l.length cap] 52))).alloc (.cells #[.int .i64 cl, .int .i64 sq, .slice a2 l.length cap2] 52)).block w.heap.size (by rw [sA]; omega) id
        have n1 := n1.trans (blk_new w _)
        have n2 := blk_new (w.alloc (.cells #[.int .i64 cl, .int .i64 sq, .slice a l.length cap] 52)) (.cells #[.int .i64 cl, .int .i64 sq, .slice a2 l.length cap2] 52)
        rw [sA] at n2
        generalize hW0 : (w.alloc (.cells #[.int .i64 cl, .int .i64 sq, .slice a l.length cap] 52)).alloc (.cells #[.int .i64 cl, .int .i64 sq, .slice a2 l.length cap2] 52) = W0 at *
        have HZ : Hid (∀ W, Only (fun _ => False) W0 W → W.cell? ⟨w.heap.size, 2, none⟩ = some (.slice a l.length cap) ∧ W.cell? ⟨w.heap.size + 1, 2, none⟩ = some (.slice a2 l.length cap2)) := Lib.hid (fun W hW => ⟨blk_cell (blk_keep n1 hW id) 2, blk_cell (blk_keep n2 hW id) 2⟩)
        clear n1 n2 sA hW0
        go_loopg [5] l.length (fun gh iv wr => ∃ i : Nat, gh + i = l.length ∧ iv = .int .i64 i ∧ Only (fun _ => False) W0 wr ∧ l.take i = l2.take i)
        case atStart => exact ⟨0, by omega, rfl, Only.refl _ _, rfl⟩
        case round =>
          obtain ⟨i, hgk, rfl, ho, htk⟩ := hrel
          have HOw := Lib.hid ho
          have HTK := Lib.hid htk
          obtain ⟨z1, z2⟩ := HZ.out wr ho
          clear ho htk
          by_cases hi : i < l.length
          · obtain ⟨x, hx⟩ : ∃ x, l[i]? = some x := ⟨_, List.getElem?_eq_getElem hi⟩
            obtain ⟨y, hy⟩ : ∃ y, l2[i]? = some y := ⟨_, List.getElem?_eq_getElem (by have := H3.out; omega)⟩
            obtain ⟨g, off, rfl⟩ := HA.out (fun e => by rw [e] at hi; simp at hi)
            obtain ⟨g2, off2, rfl⟩ := HA2.out (fun e => by rw [e] at hy; simp at hy)
            obtain ⟨c0, c1, c2, c3, c4⟩ := cmd_at (row_still HV.out HOw.out) hx
            obtain ⟨d0, d1, d2, d3, d4⟩ := cmd_at (row_still HU.out HOw.out) hy
            have hi1 : (i : Int) < (l.length : Int) := by omega
            have hi0 : (0 : Int) ≤ (i : Int) := by omega
            have hwi : IntKind.i64.wrap ((i : Int) + 1) = (i : Int) + 1 := IntWalk.i64_in _ (by omega)
            have HX : Hid (l[i]? = some x) := Lib.hid hx
            have HY : Hid (l2[i]? = some y) := Lib.hid hy
            by_cases hxy : x = y
            · subst hxy
              have hne := fun W => cmd_neq x x W
              simp only [decide_true, Bool.not_true] at hne
              go_wp2_with fail
              go_region
              all_goals (
                go_wp2_with fail
                go_roundg (gk - 1)
                case measure => omega
                case rel =>
                  refine ⟨i + 1, by omega, by go_num, by first | exact HOw.out | exact HOw.out.drew, ?_⟩
                  rw [List.take_add_one, List.take_add_one, HX.out, HY.out, HTK.out])
            · have hne := fun W => cmd_neq x y W
              rw [decide_eq_false hxy] at hne
              simp only [Bool.not_false] at hne
              obtain rfl := HD1.out (.inr (.inr (fun q => hxy (by
                have h1 := HX.out
                rw [q, HY.out] at h1
                exact (Option.some.inj h1).symm))))
              go_wp2_with fail
              go_region
              all_goals (
                go_wp2_with fail
                go_ret
                exact ⟨rfl, HO.out.trans (by first | exact HOw.out | exact HOw.out.drew) (fun _ _ q => q)⟩)
          · obtain rfl : i = l.length := by omega
            have hi1 : ¬ ((l.length : Int) < (l.length : Int)) := by omega
            obtain rfl := HD2.out (by trivial) (by trivial) (by
              have h1 := HTK.out
              rw [List.take_length] at h1
              rw [h1, H3.out, List.take_length])
            go_wp2_with fail
            go_ret
            exact ⟨rfl, HO.out.trans HOw.out (fun _ _ q => q)⟩
      · obtain rfl := HD1.out (.inr (.inr (fun q => h3 (by rw [q]))))
        have e3 : ((l.length : Int) == (l2.length : Int)) = false := by rw [beq_eq_false_iff_ne]; omega
        have e4 : ((l.length : Int) != (l2.length : Int)) = true := by rw [bne_iff_ne]; omega
        go_enter Tryz.func21, Tryz.ntmps21
        go_wp2_with fail
        go_ret
        exact ⟨rfl, HO.out⟩
    · obtain rfl := HD1.out (.inr (.inl h2))
      have e3 : (sq == sq2) = false := by simpa using h2
      have e4 : (sq != sq2) = true := by simpa using h2
      go_enter Tryz.func21, Tryz.ntmps21
      go_wp2_with fail
      go_ret
      exact ⟨rfl, HO.out⟩
  · obtain rfl := HD1.out (.inl h1)
    have e3 : (cl == cl2) = false := by simpa using h1
    have e4 : (cl != cl2) = true := by simpa using h1
    go_enter Tryz.func21, Tryz.ntmps21
    go_wp2_with fail
    go_ret
    exact ⟨rfl, HO.out⟩
set_option maxRecDepth 100000 in
set_option maxHeartbeats 4000000 in
theorem CEqual_is (w : World) (l l2 : List Cq) (v u : Value) (hv : RowAt cmdC 5 w v l) (hu : RowAt cmdC 5 w u l2) (hn : l.length ≤ 9223372036854775807) :
    Calls Tryz.prog 108 #[v, u] w fun e w' => e = .returned (.bool (decide (l = l2))) ∧ Only (fun _ => False) w w' := by
  obtain ⟨a, cap, rfl, ha⟩ := row_len hv
  obtain ⟨a2, cap2, rfl, ha2⟩ := row_len hu
  have HV := Lib.hid hv
  have HU := Lib.hid hu
  have HA := Lib.hid ha
  have HA2 := Lib.hid ha2
  generalize hdd : decide (l = l2) = d at *
  have HD1 : Hid (l ≠ l2 → d = false) := Lib.hid (fun h => by rw [← hdd]; exact decide_eq_false h)
  have HD2 : Hid (l = l2 → d = true) := Lib.hid (fun h => by rw [← hdd]; exact decide_eq_true h)
  clear hv hu ha ha2 hdd
  by_cases h3 : l.length = l2.length
  · rw [← h3] at HU ⊢
    have H3 := Lib.hid h3
    clear h3
    go_enter Tryz.func108, Tryz.ntmps108
    go_wp2_with fail
    go_loopg [13] l.length (fun gh iv wr => ∃ i : Nat, gh + i = l.length ∧ iv = .int .i64 i ∧ Only (fun _ => False) w wr ∧ l.take i = l2.take i)
    case atStart => exact ⟨0, by omega, rfl, Only.refl _ _, rfl⟩
    case round =>
      obtain ⟨i, hgk, rfl, ho, htk⟩ := hrel
      have HOw := Lib.hid ho
      have HTK := Lib.hid htk
      clear ho htk
      by_cases hi : i < l.length
      · obtain ⟨x, hx⟩ : ∃ x, l[i]? = some x := ⟨_, List.getElem?_eq_getElem hi⟩
        obtain ⟨y, hy⟩ : ∃ y, l2[i]? = some y := ⟨_, List.getElem?_eq_getElem (by have := H3.out; omega)⟩
        obtain ⟨g, off, rfl⟩ := HA.out (fun e => by rw [e] at hi; simp at hi)
        obtain ⟨g2, off2, rfl⟩ := HA2.out (fun e => by rw [e] at hy; simp at hy)
        obtain ⟨c0, c1, c2, c3, c4⟩ := cmd_at (row_still HV.out HOw.out) hx
        obtain ⟨d0, d1, d2, d3, d4⟩ := cmd_at (row_still HU.out HOw.out) hy
        have hi1 : (i : Int) < (l.length : Int) := by omega
        have hi0 : (0 : Int) ≤ (i : Int) := by omega
        have hwi : IntKind.i64.wrap ((i : Int) + 1) = (i : Int) + 1 := IntWalk.i64_in _ (by omega)
        have HX : Hid (l[i]? = some x) := Lib.hid hx
        have HY : Hid (l2[i]? = some y) := Lib.hid hy
        by_cases hxy : x = y
        · subst hxy
          have hne := fun W => cmd_neq x x W
          simp only [decide_true, Bool.not_true] at hne
          go_wp2_with fail
          go_region
          all_goals (
            go_wp2_with fail
            go_roundg (gk - 1)
            case measure => omega
            case rel =>
              refine ⟨i + 1, by omega, by go_num, by first | exact HOw.out | exact HOw.out.drew, ?_⟩
              rw [List.take_add_one, List.take_add_one, HX.out, HY.out, HTK.out])
        · have hne := fun W => cmd_neq x y W
          rw [decide_eq_false hxy] at hne
          simp only [Bool.not_false] at hne
          obtain rfl := HD1.out (fun q => hxy (by
            have h1 := HX.out
            rw [q, HY.out] at h1
            exact (Option.some.inj h1).symm))
          go_wp2_with fail
          go_region
          all_goals (
            go_wp2_with fail
            go_ret
            exact ⟨rfl, by first | exact HOw.out | exact HOw.out.drew⟩)
      · obtain rfl : i = l.length := by omega
        have hi1 : ¬ ((l.length : Int) < (l.length : Int)) := by omega
        obtain rfl := HD2.out (by
          have h1 := HTK.out
          rw [List.take_length] at h1
          rw [h1, H3.out, List.take_length])
        go_wp2_with fail
        go_ret
        exact ⟨rfl, HOw.out⟩
  · obtain rfl := HD1.out (fun q => h3 (by rw [q]))
    have e3 : ((l.length : Int) == (l2.length : Int)) = false := by rw [beq_eq_false_iff_ne]; omega
    have e4 : ((l.length : Int) != (l2.length : Int)) = true := by rw [bne_iff_ne]; omega
    go_enter Tryz.func108, Tryz.ntmps108
    go_wp2_with fail
    go_ret
    exact ⟨rfl, Only.refl _ _⟩
set_option maxRecDepth 100000 in
theorem CSame_is (w : World) (r q : ReqQ) (v u : Value) (hv : RowAt cmdC 5 w v r.cmds) (hu : RowAt cmdC 5 w u q.cmds) (hn : r.cmds.length ≤ 9223372036854775807) :
    Calls Tryz.prog 23 #[.agg #[.int .i64 r.client, .int .i64 r.seq, v], .agg #[.int .i64 q.client, .int .i64 q.seq, u]] w fun e w' => e = .returned (.bool (decide (r = q))) ∧ Only (fun _ => False) w w' := by
  obtain ⟨cl, sq, l⟩ := r
  obtain ⟨cl2, sq2, l2⟩ := q
  dsimp only at *
  obtain ⟨a, cap, rfl, ha⟩ := row_len hv
  obtain ⟨a2, cap2, rfl, ha2⟩ := row_len hu
  have oA := ((Only.refl (fun _ => False) w).alloc (.cells #[.int .i64 cl, .int .i64 sq, .slice a l.length cap] 52)).alloc (.cells #[.int .i64 cl2, .int .i64 sq2, .slice a2 l2.length cap2] 52)
  have HO := Lib.hid oA
  have HE := Lib.hid (CEqual_is _ l l2 _ _ (row_still hv oA) (row_still hu oA) hn)
  have hiff : decide ((⟨cl, sq, l⟩ : ReqQ) = ⟨cl2, sq2, l2⟩) = (decide (cl = cl2) && decide (sq = sq2) && decide (l = l2)) := by
    by_cases h1 : cl = cl2 <;> by_cases h2 : sq = sq2 <;> by_cases h3 : l = l2 <;> simp [h1, h2, h3]
  rw [hiff]
  clear hv hu oA ha ha2 hiff hn
  generalize decide (l = l2) = d at *
  by_cases h1 : cl = cl2
  · subst h1
    by_cases h2 : sq = sq2
    · subst h2
      simp only [decide_true, Bool.true_and]
      go_enter Tryz.func23, Tryz.ntmps23
      go_wp2_with fail
      (with_reducible refine HE.out.mono ?_)
      rintro e w2 ⟨rfl, o2⟩
      have HF := Lib.hid (HO.out.trans o2 (fun _ _ q => q))
      clear o2
      go_wp2_with fail
      go_ret
      exact ⟨rfl, HF.out⟩
    · have e3 : (sq == sq2) = false := by simpa using h2
      have e4 : (sq != sq2) = true := by simpa using h2
      rw [decide_eq_false h2]
      simp only [Bool.and_false, Bool.false_and]
      go_enter Tryz.func23, Tryz.ntmps23
      go_wp2_with fail
      go_ret
      exact ⟨rfl, HO.out⟩
  · have e3 : (cl == cl2) = false := by simpa using h1
    have e4 : (cl != cl2) = true := by simpa using h1
    rw [decide_eq_false h1]
    simp only [Bool.false_and]
    go_enter Tryz.func23, Tryz.ntmps23
    go_wp2_with fail
    go_ret
    exact ⟨rfl, HO.out⟩
end Go.Proofs.YtlkknekflgclgaaGreatDoor
