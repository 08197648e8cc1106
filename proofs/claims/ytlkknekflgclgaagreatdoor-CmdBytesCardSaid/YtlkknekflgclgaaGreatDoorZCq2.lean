/- Package cmd: a request that can be as bytes. Conditions: one goroutine. -/
import Derived.Test.YtlkknekflgclgaaGreatDoorZCq1
import Derived.Test.YtlkknekflgclgaaGreatDoorZPutG
import Derived.Deep.RegionHeld3
namespace Go.Proofs.YtlkknekflgclgaaGreatDoor
open Go.RowKit Go.MuLone

theorem cmdB_length (c : Cq) : (cmdB c).length = 9 + c.path.length + c.key.length + c.val.length + c.old.length := by
  unfold cmdB textL
  simp only [List.length_append, lowB_length]
  omega
theorem cmdB_short {c : Cq} (h : okC c = true) : (cmdB c).length ≤ 9200 := by
  have := okC_parts h
  rw [cmdB_length]
  omega
theorem flat_short (l : List Cq) (h : ∀ c ∈ l, okC c = true) : (l.flatMap cmdB).length ≤ 9200 * l.length := by
  induction l with
  | nil => simp
  | cons c l ih =>
    have h1 := cmdB_short (h c (by simp))
    have h2 := ih (fun x hx => h x (by simp [hx]))
    rw [List.flatMap_cons, List.length_append, List.length_cons]
    omega
theorem cmd_new (w : World) (x : Cq) (ty : TypeId) : (w.alloc (.cells #[.int .i64 x.kind, str x.path, str x.key, str x.val, str x.old] ty)).cell? ⟨w.heap.size, 0, none⟩ = some (.int .i64 x.kind) ∧ (w.alloc (.cells #[.int .i64 x.kind, str x.path, str x.key, str x.val, str x.old] ty)).cell? ⟨w.heap.size, 1, none⟩ = some (str x.path)
    ∧ (w.alloc (.cells #[.int .i64 x.kind, str x.path, str x.key, str x.val, str x.old] ty)).cell? ⟨w.heap.size, 2, none⟩ = some (str x.key) ∧ (w.alloc (.cells #[.int .i64 x.kind, str x.path, str x.key, str x.val, str x.old] ty)).cell? ⟨w.heap.size, 3, none⟩ = some (str x.val)
    ∧ (w.alloc (.cells #[.int .i64 x.kind, str x.path, str x.key, str x.val, str x.old] ty)).cell? ⟨w.heap.size, 4, none⟩ = some (str x.old) := by
  have b := blk_new w (.cells #[.int .i64 x.kind, str x.path, str x.key, str x.val, str x.old] ty)
  exact ⟨blk_cell b 0, blk_cell b 1, blk_cell b 2, blk_cell b 3, blk_cell b 4⟩
set_option maxRecDepth 100000 in
set_option maxHeartbeats 8000000 in
theorem lay_is (w : World) (r : ReqQ) (v : Value) (hv : RowAt cmdC 5 w v r.cmds) (hf : r.cmds.length ≤ 6) (hok : ∀ c ∈ r.cmds, okC c = true) :
    Calls Tryz.prog 100 #[.agg #[.int .i64 r.client, .int .i64 r.seq, v]] w fun e w' => e = .returned (.tuple #[str (reqB r), .int .i64 0]) ∧ Only (fun _ => False) w w' := by
  obtain ⟨cl, sq, l⟩ := r
  dsimp only at *
  obtain ⟨a, cap, rfl, ha⟩ := row_len hv
  have o1 := (Only.refl (fun _ => False) w).alloc (.cells #[.int .i64 cl, .int .i64 sq, .slice a l.length cap] 52)
  have b1 := blk_new w (.cells #[.int .i64 cl, .int .i64 sq, .slice a l.length cap] 52)
  have c0 := blk_cell b1 0
  have c1 := blk_cell b1 1
  have c2 := blk_cell b1 2
  simp only [List.getElem?_toArray, List.getElem?_cons_zero, List.getElem?_cons_succ] at c0 c1 c2
  have HV := Lib.hid (row_still hv o1)
  have HO1 := Lib.hid o1
  have HOK := Lib.hid hok
  have HA := Lib.hid ha
  have HB : Hid (reqB ⟨cl, sq, l⟩ = lowB (u64N cl) 8 ++ lowB (u64N sq) 8 ++ lowB l.length 1 ++ l.flatMap cmdB) := Lib.hid (by unfold reqB; simp only [List.append_assoc])
  have HFL := Lib.hid (flat_short l hok)
  generalize hreq : reqB ⟨cl, sq, l⟩ = rb at *
  clear hv o1 hok ha b1
  go_enter Tryz.func100, Tryz.ntmps100
  go_wp2_with fail
  generalize hW0 : w.alloc (.cells #[.int .i64 cl, .int .i64 sq, .slice a l.length cap] 52) = W0 at *
  generalize hBB : w.heap.size = B at *
  have hB : ∀ w', Only (fun _ => False) W0 w' → w'.cell? ⟨B, 0, none⟩ = some (.int .i64 cl) ∧ w'.cell? ⟨B, 1, none⟩ = some (.int .i64 sq) ∧ w'.cell? ⟨B, 2, none⟩ = some (.slice a l.length cap) := fun w' hw => ⟨(hw.cell (p := ⟨B, 0, none⟩) (lt_of_cell c0) id).trans c0, (hw.cell (p := ⟨B, 1, none⟩) (lt_of_cell c1) id).trans c1, (hw.cell (p := ⟨B, 2, none⟩) (lt_of_cell c2) id).trans c2⟩
  have HBB := Lib.hid hB
  have hS0 := put_fresh W0 97
  have hS1 : PutNew (fun _ => False) W0 (W0.alloc (.cells #[.slice none 0 0, .int .i64 0] 97)).drew W0.heap.size ⟨[], 0⟩ := by
    obtain ⟨sv, h⟩ := hS0
    exact ⟨sv, h.drew⟩
  have k0 : Only (fun _ => False) W0 W0 := Only.refl _ _
  have k1 : Only (fun _ => False) W0 W0.drew := (Only.refl _ _).drew
  have k2 : Only (fun _ => False) W0 (W0.alloc (.cells #[.slice none 0 0, .int .i64 0] 97)) := (Only.refl _ _).alloc _
  have k3 : Only (fun _ => False) W0 (W0.alloc (.cells #[.slice none 0 0, .int .i64 0] 97)).drew := ((Only.refl _ _).alloc _).drew
  have HC1 : Hid (∀ w', PutNew (fun _ => False) W0 w' W0.heap.size ⟨[], 0⟩ → Calls Tryz.prog 53 #[.pointer (some ⟨W0.heap.size, 0, none⟩), .int .i64 cl] w' fun e w'' => e = .returned (.pointer (some ⟨W0.heap.size, 0, none⟩)) ∧ PutNew (fun _ => False) W0 w'' W0.heap.size ⟨lowB (u64N cl) 8, 0⟩) := Lib.hid (fun w' h => Int_new _ W0 w' _ ⟨[], 0⟩ cl h (by simp))
  have HC2 : Hid (∀ w', PutNew (fun _ => False) W0 w' W0.heap.size ⟨lowB (u64N cl) 8, 0⟩ → Calls Tryz.prog 53 #[.pointer (some ⟨W0.heap.size, 0, none⟩), .int .i64 sq] w' fun e w'' => e = .returned (.pointer (some ⟨W0.heap.size, 0, none⟩)) ∧ PutNew (fun _ => False) W0 w'' W0.heap.size ⟨lowB (u64N cl) 8 ++ lowB (u64N sq) 8, 0⟩) := Lib.hid (fun w' h => Int_new _ W0 w' _ ⟨lowB (u64N cl) 8, 0⟩ sq h (by simp only [lowB_length]; omega))
  have HC3 : Hid (∀ w', PutNew (fun _ => False) W0 w' W0.heap.size ⟨lowB (u64N cl) 8 ++ lowB (u64N sq) 8, 0⟩ → Calls Tryz.prog 118 #[.pointer (some ⟨W0.heap.size, 0, none⟩), .int .i64 (l.length : Int)] w' fun e w'' => e = .returned (.pointer (some ⟨W0.heap.size, 0, none⟩)) ∧ PutNew (fun _ => False) W0 w'' W0.heap.size ⟨lowB (u64N cl) 8 ++ lowB (u64N sq) 8 ++ lowB l.length 1, 0⟩) := Lib.hid (fun w' h => by
    have := Byte_new _ W0 w' _ ⟨lowB (u64N cl) 8 ++ lowB (u64N sq) 8, 0⟩ (l.length : Int) ⟨by omega, by omega⟩ h (by simp only [List.length_append, lowB_length]; omega)
    have e : smallS ⟨lowB (u64N cl) 8 ++ lowB (u64N sq) 8, 0⟩ (l.length : Int) 1 = ⟨lowB (u64N cl) 8 ++ lowB (u64N sq) 8 ++ lowB l.length 1, 0⟩ := by unfold smallS; rw [if_neg (by simp), if_neg (by omega)]; simp
    rwa [e] at this)
  have hpl : (lowB (u64N cl) 8 ++ lowB (u64N sq) 8 ++ lowB l.length 1).length = 17 := by simp only [List.length_append, lowB_length]
  generalize lowB (u64N cl) 8 ++ lowB (u64N sq) 8 ++ lowB l.length 1 = t3 at *
  generalize lowB (u64N cl) 8 ++ lowB (u64N sq) 8 = t2 at *
  generalize lowB (u64N cl) 8 = t1 at *
  clear hB
  generalize hP : W0.heap.size = p at *
  go_region_held3 (fun w' => w'.cell? ⟨B, 0, none⟩ = some (.int .i64 cl) ∧ w'.cell? ⟨B, 1, none⟩ = some (.int .i64 sq) ∧ w'.cell? ⟨B, 2, none⟩ = some (.slice a l.length cap)) (first | exact HBB.out _ (by assumption)) (first | ((with_reducible refine (HC1.out _ (by assumption)).mono ?_); rintro _ w4 ⟨rfl, hq1⟩; have k4 := hq1.choose_spec.since) | ((with_reducible refine (HC2.out _ (by assumption)).mono ?_); rintro _ w5 ⟨rfl, hq2⟩; have k5 := hq2.choose_spec.since) | ((with_reducible refine (HC3.out _ (by assumption)).mono ?_); rintro _ w6 ⟨rfl, hq3⟩; have k6 := hq3.choose_spec.since))
  all_goals (
    have HP3 := Lib.hid hq3
    obtain ⟨d0, d1, d2⟩ := HBB.out w6 k6
    clear hq1 hq2 hq3 k0 k1 k2 k3 k4 k5 k6 hS0 hS1 HC1 HC2 HC3 c0 c1 c2 hP
    go_wp2_with fail
    go_loopg [22] l.length (fun gh iv wr => ∃ k : Nat, gh + k = l.length ∧ iv = .int .i64 k ∧ PutNew (fun _ => False) W0 wr p ⟨t3 ++ (l.take k).flatMap cmdB, 0⟩)
    case atStart => exact ⟨0, by omega, rfl, by simpa using HP3.out⟩
    case round =>
      obtain ⟨k, hg, rfl, hp⟩ := hrel
      by_cases hk : k < l.length
      · obtain ⟨x, hx⟩ : ∃ x, l[k]? = some x := ⟨l[k], List.getElem?_eq_getElem hk⟩
        obtain ⟨g, off, rfl⟩ := HA.out (fun e => by rw [e] at hk; simp at hk)
        obtain ⟨sv, hp⟩ := hp
        have HPr := Lib.hid hp
        have HW := Lib.hid (row_still HV.out hp.since)
        clear hp d0 d1 d2
        obtain ⟨c0, c1, c2, c3, c4⟩ := cmd_at HW.out hx
        have hk2 : (k : Int) < (l.length : Int) := by omega
        have hk0 : (0 : Int) ≤ (k : Int) := by omega
        have w4 : IntKind.i64.wrap ((k : Int) + 1) = (k : Int) + 1 := by exact IntWalk.i64_in _ (by omega)
        have hok := HOK.out x (List.mem_of_getElem? hx)
        obtain ⟨x1, x2, x3, x4, x5, x6⟩ := okC_parts hok
        have hlen : (l.take k).flatMap cmdB ++ cmdB x = (l.take (k + 1)).flatMap cmdB := by
          have hx2 : l[k] = x := by rw [List.getElem?_eq_getElem hk] at hx; exact Option.some.inj hx
          rw [List.take_succ_eq_append_getElem hk, List.flatMap_append, hx2]; simp
        have hle : (t3 ++ (l.take k).flatMap cmdB).length ≤ 60000 := by
          have h1 := flat_short (l.take k) (fun c hc => HOK.out c (List.mem_of_mem_take hc))
          simp only [List.length_append, List.length_take] at h1 ⊢
          omega
        generalize hpre : t3 ++ (l.take k).flatMap cmdB = pre at *
        have HNX : Hid (pre ++ lowB x.kind.toNat 1 ++ textL x.path ++ textL x.key ++ textL x.val ++ textL x.old = t3 ++ (l.take (k + 1)).flatMap cmdB) := Lib.hid (by
          rw [← hlen, ← List.append_assoc, hpre]; simp [cmdB])
        clear hlen hpre hx HW hok
        go_wp2_with fail
        obtain ⟨b0, b1, b2, b3, b4⟩ := cmd_new wr x 119
        have HPW := Lib.hid (HPr.out.alloc (.cells #[.int .i64 x.kind, str x.path, str x.key, str x.val, str x.old] 119))
        have hBp : p < wr.heap.size := lt_of_cell HPr.out.c0
        have hBr : ∀ q, sv.ownBlock = some q → q < wr.heap.size := fun q hq => (HPr.out.own.lt q hq).2
        clear HPr
        generalize (wr.alloc (.cells #[.int .i64 x.kind, str x.path, str x.key, str x.val, str x.old] 119)) = W at *
        generalize wr.heap.size = C at *
        clear c0 c1 c2 c3 c4
        have hB : ∀ w' s', PutNew (Lays p sv) W w' p s' → w'.cell? ⟨C, 0, none⟩ = some (.int .i64 x.kind) ∧ w'.cell? ⟨C, 1, none⟩ = some (str x.path) ∧ w'.cell? ⟨C, 2, none⟩ = some (str x.key) ∧ w'.cell? ⟨C, 3, none⟩ = some (str x.val) ∧ w'.cell? ⟨C, 4, none⟩ = some (str x.old) := by
          rintro w' s' ⟨sv', q⟩
          have hn : ¬ Lays p sv C := by rintro (q | q); omega; have := hBr _ q; omega
          exact ⟨(q.since.cell (p := ⟨C, 0, none⟩) (lt_of_cell b0) hn).trans b0, (q.since.cell (p := ⟨C, 1, none⟩) (lt_of_cell b1) hn).trans b1, (q.since.cell (p := ⟨C, 2, none⟩) (lt_of_cell b2) hn).trans b2, (q.since.cell (p := ⟨C, 3, none⟩) (lt_of_cell b3) hn).trans b3, (q.since.cell (p := ⟨C, 4, none⟩) (lt_of_cell b4) hn).trans b4⟩
        have hS0 : PutNew (Lays p sv) W W.drew p ⟨pre, 0⟩ := ⟨_, HPW.out.here.drew⟩
        have HC1 : Hid (∀ w', PutNew (Lays p sv) W w' p ⟨pre, 0⟩ → Calls Tryz.prog 118 #[.pointer (some ⟨p, 0, none⟩), .int .i64 x.kind] w' fun e w'' => e = .returned (.pointer (some ⟨p, 0, none⟩)) ∧ PutNew (Lays p sv) W w'' p ⟨pre ++ lowB x.kind.toNat 1, 0⟩) := Lib.hid (fun w' h => by
          have := Byte_new _ W w' p ⟨pre, 0⟩ x.kind ⟨by omega, by omega⟩ h (by simp only; omega)
          have e : smallS ⟨pre, 0⟩ x.kind 1 = ⟨pre ++ lowB x.kind.toNat 1, 0⟩ := by unfold smallS; rw [if_neg (by simp), if_neg (by omega)]
          rwa [e] at this)
        have HC2 : Hid (∀ w', PutNew (Lays p sv) W w' p ⟨pre ++ lowB x.kind.toNat 1, 0⟩ → Calls Tryz.prog 119 #[.pointer (some ⟨p, 0, none⟩), str x.path] w' fun e w'' => e = .returned (.pointer (some ⟨p, 0, none⟩)) ∧ PutNew (Lays p sv) W w'' p ⟨pre ++ lowB x.kind.toNat 1 ++ textL x.path, 0⟩) := Lib.hid (fun w' h => by
          have := Text_new _ W w' p _ x.path h (by simp only [List.length_append, lowB_length]; omega) (by omega)
          rwa [textL_fit _ _ rfl (by omega)] at this)
        have HC3 : Hid (∀ w', PutNew (Lays p sv) W w' p ⟨pre ++ lowB x.kind.toNat 1 ++ textL x.path, 0⟩ → Calls Tryz.prog 119 #[.pointer (some ⟨p, 0, none⟩), str x.key] w' fun e w'' => e = .returned (.pointer (some ⟨p, 0, none⟩)) ∧ PutNew (Lays p sv) W w'' p ⟨pre ++ lowB x.kind.toNat 1 ++ textL x.path ++ textL x.key, 0⟩) := Lib.hid (fun w' h => by
          have := Text_new _ W w' p _ x.key h (by simp only [textL, List.length_append, lowB_length]; omega) (by omega)
          rwa [textL_fit _ _ rfl (by omega)] at this)
        have HC4 : Hid (∀ w', PutNew (Lays p sv) W w' p ⟨pre ++ lowB x.kind.toNat 1 ++ textL x.path ++ textL x.key, 0⟩ → Calls Tryz.prog 119 #[.pointer (some ⟨p, 0, none⟩), str x.val] w' fun e w'' => e = .returned (.pointer (some ⟨p, 0, none⟩)) ∧ PutNew (Lays p sv) W w'' p ⟨pre ++ lowB x.kind.toNat 1 ++ textL x.path ++ textL x.key ++ textL x.val, 0⟩) := Lib.hid (fun w' h => by
          have := Text_new _ W w' p _ x.val h (by simp only [textL, List.length_append, lowB_length]; omega) (by omega)
          rwa [textL_fit _ _ rfl (by omega)] at this)
        have HC5 : Hid (∀ w', PutNew (Lays p sv) W w' p ⟨pre ++ lowB x.kind.toNat 1 ++ textL x.path ++ textL x.key ++ textL x.val, 0⟩ → Calls Tryz.prog 119 #[.pointer (some ⟨p, 0, none⟩), str x.old] w' fun e w'' => e = .returned (.pointer (some ⟨p, 0, none⟩)) ∧ PutNew (Lays p sv) W w'' p ⟨pre ++ lowB x.kind.toNat 1 ++ textL x.path ++ textL x.key ++ textL x.val ++ textL x.old, 0⟩) := Lib.hid (fun w' h => by
          have := Text_new _ W w' p _ x.old h (by simp only [textL, List.length_append, lowB_length]; omega) (by omega)
          rwa [textL_fit _ _ rfl (by omega)] at this)
        generalize pre ++ lowB x.kind.toNat 1 ++ textL x.path ++ textL x.key ++ textL x.val ++ textL x.old = u5 at *
        generalize pre ++ lowB x.kind.toNat 1 ++ textL x.path ++ textL x.key ++ textL x.val = u4 at *
        generalize pre ++ lowB x.kind.toNat 1 ++ textL x.path ++ textL x.key = u3 at *
        generalize pre ++ lowB x.kind.toNat 1 ++ textL x.path = u2 at *
        generalize pre ++ lowB x.kind.toNat 1 = u1 at *
        clear b0 b1 b2 b3 b4 hBp hBr
        have HB := Lib.hid hB
        clear hB
        have q0 := hS0
        go_region_held3 (fun w' => w'.cell? ⟨C, 0, none⟩ = some (.int .i64 x.kind) ∧ w'.cell? ⟨C, 1, none⟩ = some (str x.path) ∧ w'.cell? ⟨C, 2, none⟩ = some (str x.key) ∧ w'.cell? ⟨C, 3, none⟩ = some (str x.val) ∧ w'.cell? ⟨C, 4, none⟩ = some (str x.old)) (exact HB.out _ _ (by assumption)) (first | ((with_reducible refine (HC1.out _ (by assumption)).mono ?_); rintro _ _ ⟨rfl, hq1⟩) | ((with_reducible refine (HC2.out _ (by assumption)).mono ?_); rintro _ _ ⟨rfl, hq2⟩) | ((with_reducible refine (HC3.out _ (by assumption)).mono ?_); rintro _ _ ⟨rfl, hq3⟩) | ((with_reducible refine (HC4.out _ (by assumption)).mono ?_); rintro _ _ ⟨rfl, hq4⟩) | ((with_reducible refine (HC5.out _ (by assumption)).mono ?_); rintro _ _ ⟨rfl, hq5⟩))
        have HN := Lib.hid (HPW.out.back hq5)
        clear hq1 hq2 hq3 hq4 hq5 q0 hS0 HC1 HC2 HC3 HC4 HC5 HB HPW
        go_wp2_with fail
        go_roundg (gk - 1)
        case measure => omega
        case rel => exact ⟨k + 1, by omega, by go_num, by rw [← HNX.out]; exact HN.out⟩
      · obtain rfl : k = l.length := by omega
        rw [List.take_length] at hp
        have hk2 : ¬ ((l.length : Int) < (l.length : Int)) := by omega
        have HE := Lib.hid (End_new _ _ _ _ _ hp)
        have HO := Lib.hid (hp.choose_spec.since)
        clear hp d0 d1 d2
        go_wp2_with fail
        have hend : endS ⟨t3 ++ l.flatMap cmdB, 0⟩ = (rb, 0) := by
          rw [HB.out]
          unfold endS
          rw [if_neg (fun q => q rfl)]
        rw [hend] at HE
        (with_reducible refine HE.out.mono ?_)
        rintro e w4 ⟨rfl, o4⟩
        have HF := Lib.hid ((HO1.out.trans HO.out (fun _ _ q => q)).trans o4 (fun _ _ q => q))
        clear o4
        go_wp2_with fail
        go_ret2
        exact ⟨rfl, HF.out⟩)
end Go.Proofs.YtlkknekflgclgaaGreatDoor
