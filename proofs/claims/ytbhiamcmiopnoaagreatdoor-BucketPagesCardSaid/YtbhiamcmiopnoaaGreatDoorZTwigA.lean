/- Package twig: which children can be, how many bytes they need, their order. Conditions: the children lie in memory; fewer than 2^30 bytes. -/
import Derived.Test.YtbhiamcmiopnoaaGreatDoorZLeaf6
import Derived.Test.YtbhiamcmiopnoaaGreatDoorZPlain
namespace Go.Proofs.YtbhiamcmiopnoaaGreatDoor
section
open Go.RowKit
def kidC (i : Kid) : List Value := [str i.key, .int .i64 i.page]
def kidV (i : Kid) : Value := .agg (kidC i).toArray
theorem kid_at {w wr : World} {g off : Nat} {l : List Kid} (hc : ∀ (i : Nat) (x : Kid) (j : Nat) (u : Value), l[i]? = some x → (kidC x)[j]? = some u → w.cell? ⟨g, off + (i * 2 + j), none⟩ = some u) {S : Nat → Prop} (ho : Only S w wr) (hg : ¬ S g) {k : Nat} {x : Kid} (hx : l[k]? = some x) :
    wr.cell? ⟨g, off + k * 2, none⟩ = some (str x.key) ∧ wr.cell? ⟨g, off + k * 2 + 1, none⟩ = some (.int .i64 x.page) ∧ g < w.heap.size := by
  have hb := lt_of_cell (hc k _ 0 _ hx rfl)
  exact ⟨(ho.cell (p := ⟨g, off + (k * 2 + 0), none⟩) hb hg).trans (hc k _ 0 _ hx rfl), (ho.cell (p := ⟨g, off + (k * 2 + 1), none⟩) hb hg).trans (hc k _ 1 _ hx rfl), hb⟩
set_option maxRecDepth 100000 in
set_option maxHeartbeats 1000000 in
theorem TValid_is (i : Kid) (w : World) : Calls Tryz.prog 234 #[kidV i] w fun e w' => e = .returned (.bool (okKid i)) ∧ Only (fun _ => False) w w' := by
  unfold kidV kidC
  go_enter Tryz.func234, Tryz.ntmps234
  go_wp2_with fail
  all_goals
    go_ret
    refine ⟨congrArg (fun b => Ending.returned (Value.bool b)) ?_, (Only.refl _ w).alloc _⟩
    unfold okKid
    first
    | exact (decide_eq_false (by omega)).symm
    | exact decide_eq_decide.2 (by omega)
theorem length_le_sizeK (l : List Kid) : l.length ≤ sizeL l := by
  induction l with
  | nil => simp
  | cons a l ih =>
    rw [sizeL_cons, List.length_cons]
    have : Keyed.cost a = 4 + a.key.length := rfl
    omega
set_option maxRecDepth 100000 in
set_option maxHeartbeats 1000000 in
theorem TSize_is (v : Value) (l : List Kid) (w : World) (h : RowAt kidC 2 w v l) (hs : sizeL l ≤ 1073741824) :
    Calls Tryz.prog 225 #[v] w fun e w' => e = .returned (.int .i64 (sizeL l)) ∧ Only (fun _ => False) w w' := by
  cases h with
  | none =>
    go_enter Tryz.func225, Tryz.ntmps225
    go_wp2_with fail
    refine wp_loop_rounds 1 ?_
    rw [rounds_succ]
    go_wp2_with fail
    go_ret
    exact ⟨rfl, Only.refl _ _⟩
  | some g off cap _ hc =>
    have HS := Lib.hid hs
    have HC := Lib.hid hc
    clear hs hc
    go_enter Tryz.func225, Tryz.ntmps225
    go_wp2_with fail
    go_loopg [3, 8] l.length (fun gh n i wr => ∃ k : Nat, gh + k = l.length ∧ n = .int .i64 (sizeL (l.take k)) ∧ i = .int .i64 k ∧ Only (fun _ => False) w wr)
    case atStart => exact ⟨0, by omega, by simp [sizeL], rfl, Only.refl _ _⟩
    case round =>
      obtain ⟨k, hg, rfl, rfl, ho⟩ := hrel
      by_cases hk : k < l.length
      · have hx : l[k]? = some l[k] := List.getElem?_eq_getElem hk
        have hst := sizeL_take l k hk
        have hcost : Keyed.cost l[k] = 4 + l[k].key.length := rfl
        have hle : sizeL (l.take (k + 1)) ≤ 1073741824 := Nat.le_trans (sizeL_le l (k + 1)) HS.out
        obtain ⟨c0, c1, hb⟩ := kid_at HC.out ho (fun q => q) hx
        have hk2 : (k : Int) < (l.length : Int) := by omega
        have w1 : IntKind.i64.wrap (4 + (l[k].key.length : Int)) = 4 + (l[k].key.length : Int) := by exact IntWalk.i64_in _ (by omega)
        have w3 : IntKind.i64.wrap ((sizeL (l.take k) : Int) + (4 + (l[k].key.length : Int))) = (sizeL (l.take (k + 1)) : Int) := by rw [IntWalk.i64_in _ (by omega)]; omega
        have w4 : IntKind.i64.wrap ((k : Int) + 1) = (k : Int) + 1 := by
          have : l.length ≤ sizeL l := length_le_sizeK l
          have := HS.out
          exact IntWalk.i64_in _ (by omega)
        generalize l[k] = x at *
        have HO := Lib.hid ho
        go_wp2_with fail
        go_roundg (gk - 1)
        case measure => omega
        case rel => exact ⟨k + 1, by omega, congrArg (Value.int .i64) (by omega), by go_num, HO.out.alloc _⟩
      · obtain rfl : k = l.length := by omega
        rw [List.take_length]
        go_wp2_with fail
        go_ret
        exact ⟨rfl, ho⟩
set_option maxRecDepth 100000 in
set_option maxHeartbeats 4000000 in
theorem Tright_is (v : Value) (l : List Kid) (w : World) (h : RowAt kidC 2 w v l) (hs : l.length ≤ 1073741824) :
    Calls Tryz.prog 224 #[v] w fun e w' => e = .returned (.bool (rightL l)) ∧ Only (fun _ => False) w w' := by
  cases h with
  | none =>
    go_enter Tryz.func224, Tryz.ntmps224
    go_wp2_with fail
    refine wp_loop_rounds 1 ?_
    rw [rounds_succ]
    go_wp2_with fail
    go_ret
    exact ⟨rfl, Only.refl _ _⟩
  | some g off cap _ hc =>
    have HS := Lib.hid hs
    have HC := Lib.hid hc
    clear hs hc
    go_enter Tryz.func224, Tryz.ntmps224
    go_wp2_with fail
    go_loopg [7] l.length (fun gh i wr => ∃ k : Nat, gh + k = l.length ∧ i = .int .i64 k ∧ Only (fun _ => False) w wr ∧ ∀ j, j < k → okAt l j = true)
    case atStart => exact ⟨0, by omega, rfl, Only.refl _ _, fun j hj => by omega⟩
    case round =>
      obtain ⟨k, hg, rfl, ho, hj⟩ := hrel
      by_cases hk : k < l.length
      · obtain ⟨x, hx⟩ : ∃ x, l[k]? = some x := ⟨l[k], List.getElem?_eq_getElem hk⟩
        obtain ⟨c0, c1, hb⟩ := kid_at HC.out ho (fun q => q) hx
        have hk2 : (k : Int) < (l.length : Int) := by omega
        have w4 : IntKind.i64.wrap ((k : Int) + 1) = (k : Int) + 1 := by have := HS.out; exact IntWalk.i64_in _ (by omega)
        have HO := Lib.hid ho
        have HJ := Lib.hid hj
        have HX := Lib.hid hx
        have HV := Lib.hid (TValid_is x)
        unfold kidV kidC at HV
        have hk0 : (0 : Int) ≤ (k : Int) := by omega
        clear hj hx
        go_wp2_with fail
        have HOW := Lib.hid (HO.out.alloc (.cells #[Value.string ⟨x.key.toArray⟩, Value.int .i64 x.page] 185))
        have b0 : (wr.alloc (.cells #[Value.string ⟨x.key.toArray⟩, Value.int .i64 x.page] 185)).cell? ⟨wr.heap.size, 0, none⟩ = some (str x.key) := by simp only [World.cell?, heap_alloc_new]; rfl
        have b1 : (wr.alloc (.cells #[Value.string ⟨x.key.toArray⟩, Value.int .i64 x.page] 185)).cell? ⟨wr.heap.size, 1, none⟩ = some (.int .i64 x.page) := by simp only [World.cell?, heap_alloc_new]; rfl
        generalize (wr.alloc (.cells #[Value.string ⟨x.key.toArray⟩, Value.int .i64 x.page] 185)) = W at *
        generalize wr.heap.size = B at *
        clear c0 c1
        have q0 : ∀ p : Grew W, p.u.cell? ⟨B, 0, none⟩ = some (str x.key) := fun p => p.cell b0
        have q1 : ∀ p : Grew W, p.u.cell? ⟨B, 1, none⟩ = some (.int .i64 x.page) := fun p => p.cell b1
        clear b0 b1
        cases hv : okKid x with
        | false =>
          rw [hv] at HV
          have hn : okAt l k = false := okAt_bad HX.out hv
          have hn := Lib.hid (right_not hk hn)
          have hkb : ∃ b : Bool, decide ((0 : Int) < (k : Int)) = b := ⟨_, rfl⟩
          obtain ⟨b, hkb⟩ := hkb
          refine wp_region_grew (by kernel_rfl) (by kernel_rfl) (fun _W h0 h1 => ?_)
          repeat (refine h1 _ _ _ (fun K hK => ?_); go_simp; first | (refine hK _ ?_; clear hK K) | (apply Exists.intro; refine ⟨fun _ => ?_, hK _ ?_⟩; (refine Grew.calls _ (HV.out _)); clear hK K))
          refine h0 _ (fun p => ?_)
          clear h0 h1
          go_wp2_with fail
          go_ret
          exact ⟨by rw [hn.out]; rfl, HOW.out.trans p.h (fun _ _ q => q)⟩
        | true =>
          rw [hv] at HV
          cases k with
          | zero =>
            have HN : Hid (okAt l 0 = true) := Lib.hid ((okAt_zero HX.out).trans hv)
            clear hv
            refine wp_region_grew (by kernel_rfl) (by kernel_rfl) (fun _W h0 h1 => ?_)
            repeat (refine h1 _ _ _ (fun K hK => ?_); go_simp; first | (refine hK _ ?_; clear hK K) | (apply Exists.intro; refine ⟨fun _ => ?_, hK _ ?_⟩; (refine Grew.calls _ (HV.out _)); clear hK K))
            refine h0 _ (fun p => ?_)
            clear h0 h1
            go_wp2_with fail
            go_roundg (gk - 1)
            case measure => omega
            case rel => exact ⟨1, by omega, by go_num, HOW.out.trans p.h (fun _ _ q => q), fun j hj => (show j = 0 by omega) ▸ HN.out⟩
          | succ m =>
            obtain ⟨y, hy⟩ : ∃ y, l[m]? = some y := ⟨l[m], List.getElem?_eq_getElem (by omega)⟩
            obtain ⟨d0, _, _⟩ := kid_at HC.out HOW.out (fun q => q) hy
            have q3 : ∀ p : Grew W, p.u.cell? ⟨g, off + m * 2, none⟩ = some (str y.key) := fun p => p.cell d0
            clear d0
            have HN : Hid (okAt l (m + 1) = (okKid x && !(Op.bytesLess x.key y.key || x.key == y.key))) := Lib.hid (okAt_succ HX.out hy)
            rw [hv] at HN
            clear hv hy
            have w5 : IntKind.i64.wrap (m : Int) = (m : Int) := by have := HS.out; exact IntWalk.i64_in _ (by omega)
            have hm0 : (0 : Int) ≤ (m : Int) := by omega
            have hkb : decide ((0 : Int) < ((m + 1 : Nat) : Int)) = true := by simp
            have hm1 : (m : Int) < (l.length : Int) := by omega
            have w6 : IntKind.i64.wrap ((m : Int) + 1 + 1) = (m : Int) + 1 + 1 := by have := HS.out; exact IntWalk.i64_in _ (by omega)
            obtain ⟨bb, hbb⟩ : ∃ bb, (Op.bytesLess x.key y.key || x.key == y.key) = bb := ⟨_, rfl⟩
            rw [hbb] at HN
            cases bb with
            | true =>
              have hn := Lib.hid (right_not hk HN.out)
              refine wp_region_grew (by kernel_rfl) (by kernel_rfl) (fun _W h0 h1 => ?_)
              repeat (refine h1 _ _ _ (fun K hK => ?_); go_simp; first | (refine hK _ ?_; clear hK K) | (apply Exists.intro; refine ⟨fun _ => ?_, hK _ ?_⟩; (refine Grew.calls _ (HV.out _)); clear hK K))
              refine h0 _ (fun p => ?_)
              clear h0 h1
              go_wp2_with fail
              go_ret
              exact ⟨by rw [hn.out]; rfl, HOW.out.trans p.h (fun _ _ q => q)⟩
            | false =>
              refine wp_region_grew (by kernel_rfl) (by kernel_rfl) (fun _W h0 h1 => ?_)
              repeat (refine h1 _ _ _ (fun K hK => ?_); go_simp; first | (refine hK _ ?_; clear hK K) | (apply Exists.intro; refine ⟨fun _ => ?_, hK _ ?_⟩; (refine Grew.calls _ (HV.out _)); clear hK K))
              refine h0 _ (fun p => ?_)
              clear h0 h1
              go_wp2_with fail
              go_roundg (gk - 1)
              case measure => omega
              case rel => exact ⟨m + 1 + 1, by omega, by go_num, HOW.out.trans p.h (fun _ _ q => q), fun j hj => by
                              by_cases hjm : j < m + 1
                              · exact HJ.out j hjm
                              · obtain rfl : j = m + 1 := by omega
                                exact HN.out⟩
      · obtain rfl : k = l.length := by omega
        have hr : rightL l = true := decide_eq_true hj
        go_wp2_with fail
        go_ret
        exact ⟨by rw [hr]; rfl, ho⟩
end
section
open Go.RowKit
def encK (i : Kid) : Bytes := lowB i.page.toNat 2 ++ textB i.key
def twigB (l : List Kid) : Bytes := lowB l.length 1 ++ l.flatMap encK
theorem encK_length (i : Kid) : (encK i).length = Keyed.cost i := by
  show _ = 4 + i.key.length
  simp only [encK, textB, List.length_append, lowB_length]
  omega
theorem flat_encK (l : List Kid) : (l.flatMap encK).length + 1 = sizeL l := by
  induction l with
  | nil => rfl
  | cons a l ih => rw [List.flatMap_cons, List.length_append, encK_length, sizeL_cons]; omega
theorem kid_new (w : World) (i : Kid) (t : TypeId) : (w.alloc (.cells #[str i.key, .int .i64 i.page] t)).cell? ⟨w.heap.size, 0, none⟩ = some (str i.key) ∧
    (w.alloc (.cells #[str i.key, .int .i64 i.page] t)).cell? ⟨w.heap.size, 1, none⟩ = some (.int .i64 i.page) := by
  refine ⟨?_, ?_⟩ <;> (simp only [World.cell?, heap_alloc_new]; rfl)
theorem row_kid {w : World} {a : Option Addr} {n c : Nat} {l : List Kid} (h : RowAt kidC 2 w (.slice a n c) l) {k : Nat} {x : Kid} (hx : l[k]? = some x) :
    ∃ g off, a = some ⟨g, off, none⟩ ∧ w.cell? ⟨g, off + k * 2, none⟩ = some (str x.key) ∧ w.cell? ⟨g, off + k * 2 + 1, none⟩ = some (.int .i64 x.page) := by
  cases h with
  | none => simp at hx
  | some g off cap _ hc => exact ⟨g, off, rfl, hc k x 0 _ hx rfl, hc k x 1 _ hx rfl⟩
set_option maxRecDepth 100000 in
set_option maxHeartbeats 4000000 in
theorem TLay_is (v : Value) (l : List Kid) (w : World) (h : RowAt kidC 2 w v l) (hne : l ≠ []) (hr : rightL l = true) (hz1 : sizeL l ≤ 232) (hz2 : l.length ≤ 255) :
    Calls Tryz.prog 204 #[v] w fun e w' => e = .returned (.tuple #[str (twigB l), .int .i64 0]) ∧ Only (fun _ => False) w w' := by
  have HR := Lib.hid (Tright_is v l w h (by omega))
  rw [hr] at HR
  have hform : ∃ a c, v = .slice a l.length c := by cases h with
    | none => exact ⟨_, _, rfl⟩
    | some g off cap => exact ⟨_, _, rfl⟩
  obtain ⟨a, c, rfl⟩ := hform
  have HA := Lib.hid h
  have HZ : ∀ w1, Only (fun _ => False) w w1 → Calls Tryz.prog 225 #[.slice a l.length c] w1 fun e w' => e = .returned (.int .i64 (sizeL l)) ∧ Only (fun _ => False) w1 w' :=
    fun w1 o1 => TSize_is _ l w1 (row_only HA.out o1 fun _ _ => id) (by omega)
  have HZ := Lib.hid HZ
  have hn0 : ¬ ((l.length : Int) = 0) := by have := List.length_pos_iff.2 hne; omega
  have h1 : ¬ (232 : Int) < (sizeL l : Int) := by omega
  have h2 : ¬ (255 : Int) < (l.length : Int) := by omega
  have HF := Lib.hid (And.intro hz1 hz2)
  have HRI := Lib.hid hr
  clear hr h
  go_enter Tryz.func204, Tryz.ntmps204
  go_wp2_with fail
  (with_reducible refine HR.out.mono ?_)
  rintro e w1 ⟨rfl, o1⟩
  have HZ := Lib.hid (HZ.out w1 o1)
  go_wp2_with fail
  (with_reducible refine HZ.out.mono ?_)
  rintro e w2 ⟨rfl, o2⟩
  have O2 := Lib.hid (o1.trans o2 (fun _ _ q => q))
  clear o1 o2 HR HZ
  go_wp2_with fail
  have HP := Lib.hid (Byte_new _ _ _ _ _ (l.length : Int) ⟨by omega, by omega⟩ (put_fresh w2 102) (by simp))
  rw [smallS_fit _ _ _ rfl (by omega)] at HP
  (with_reducible refine HP.out.mono ?_)
  rintro e w3 ⟨rfl, hp⟩
  have HP := Lib.hid hp
  clear hp
  generalize w2.heap.size = p at *
  go_wp2_with fail
  go_loopg [32] l.length (fun gh i wr => ∃ k : Nat, gh + k = l.length ∧ i = .int .i64 k ∧ PutNew (fun _ => False) w2 wr p ⟨lowB l.length 1 ++ (l.take k).flatMap encK, 0⟩)
  case atStart => exact ⟨0, by omega, rfl, by simpa using HP.out⟩
  case round =>
    obtain ⟨k, hg, rfl, hp⟩ := hrel
    by_cases hk : k < l.length
    · obtain ⟨x, hx⟩ : ∃ x, l[k]? = some x := ⟨l[k], List.getElem?_eq_getElem hk⟩
      obtain ⟨sv, hp⟩ := hp
      have HPr := Lib.hid hp
      have HW := Lib.hid (row_only HA.out (O2.out.trans hp.since (fun _ _ q => q)) (fun _ _ => id))
      clear hp
      obtain ⟨g, off, rfl, c0, c1⟩ := row_kid HW.out hx
      have hk2 : (k : Int) < (l.length : Int) := by omega
      have hk0 : (0 : Int) ≤ (k : Int) := by omega
      have w4 : IntKind.i64.wrap ((k : Int) + 1) = (k : Int) + 1 := by exact IntWalk.i64_in _ (by omega)
      have hok : okKid x = true := ((rightL_iff l).1 HRI.out).1 x (List.mem_of_getElem? hx)
      have HOK := Lib.hid hok
      simp only [okKid, decide_eq_true_eq] at hok
      have hlen : (l.take k).flatMap encK ++ encK x = (l.take (k + 1)).flatMap encK := by
        have hx2 : l[k] = x := by rw [List.getElem?_eq_getElem hk] at hx; exact Option.some.inj hx
        rw [List.take_succ_eq_append_getElem hk, List.flatMap_append, hx2]; simp
      have hle : (lowB l.length 1 ++ (l.take k).flatMap encK).length + (encK x).length ≤ 300 := by
        have h1 := flat_encK (l.take (k + 1))
        have h2 := sizeL_le l (k + 1)
        rw [← hlen] at h1
        have := HF.out.1
        simp only [List.length_append, lowB_length] at h1 ⊢
        omega
      have hxl := encK_length x
      have hcost : Keyed.cost x = 4 + x.key.length := rfl
      generalize hpre : lowB l.length 1 ++ (l.take k).flatMap encK = pre at *
      have HNX : Hid (pre ++ lowB x.page.toNat 2 ++ textB x.key = lowB l.length 1 ++ (l.take (k + 1)).flatMap encK) := Lib.hid (by
        rw [← hlen, ← List.append_assoc, hpre]; simp [encK])
      clear hlen hpre hx HW HOK HF
      go_wp2_with fail
      obtain ⟨b0, b1⟩ := kid_new wr x 185
      have HPW := Lib.hid (HPr.out.alloc (.cells #[str x.key, .int .i64 x.page] 185))
      have hBp : p < wr.heap.size := lt_of_cell HPr.out.c0
      have hBr : ∀ q, sv.ownBlock = some q → q < wr.heap.size := fun q hq => (HPr.out.own.lt q hq).2
      clear HPr
      change Hid (PutAt _ w2 (wr.alloc (.cells #[Value.string ⟨x.key.toArray⟩, Value.int .i64 x.page] 185)) p _ sv) at HPW
      change (wr.alloc (.cells #[Value.string ⟨x.key.toArray⟩, Value.int .i64 x.page] 185)).cell? _ = _ at b0 b1
      generalize (wr.alloc (.cells #[Value.string ⟨x.key.toArray⟩, Value.int .i64 x.page] 185)) = W at *
      generalize wr.heap.size = B at *
      clear c0 c1
      have hB : ∀ w' s', PutNew (Lays p sv) W w' p s' → w'.cell? ⟨B, 0, none⟩ = some (str x.key) ∧ w'.cell? ⟨B, 1, none⟩ = some (.int .i64 x.page) := by
        rintro w' s' ⟨sv', q⟩
        have hn : ¬ Lays p sv B := by rintro (q | q); omega; have := hBr _ q; omega
        exact ⟨(q.since.cell (p := ⟨B, 0, none⟩) (lt_of_cell b0) hn).trans b0, (q.since.cell (p := ⟨B, 1, none⟩) (lt_of_cell b1) hn).trans b1⟩
      have hS0 : PutNew (Lays p sv) W W.drew p ⟨pre, 0⟩ := ⟨_, HPW.out.here.drew⟩
      have HC1 : Hid (∀ w', PutNew (Lays p sv) W w' p ⟨pre, 0⟩ → Calls Tryz.prog 48 #[.pointer (some ⟨p, 0, none⟩), .int .i64 x.page] w' fun e w'' => e = .returned (.pointer (some ⟨p, 0, none⟩)) ∧ PutNew (Lays p sv) W w'' p ⟨pre ++ lowB x.page.toNat 2, 0⟩) := Lib.hid (fun w' h => by
        have := Half_new _ W w' p ⟨pre, 0⟩ x.page ⟨by omega, by omega⟩ h (by simp only; omega)
        have e : smallS ⟨pre, 0⟩ x.page 2 = ⟨pre ++ lowB x.page.toNat 2, 0⟩ := by unfold smallS; rw [if_neg (by simp), if_neg (by omega)]
        rwa [e] at this)
      have HC2 : Hid (∀ w', PutNew (Lays p sv) W w' p ⟨pre ++ lowB x.page.toNat 2, 0⟩ → Calls Tryz.prog 215 #[.pointer (some ⟨p, 0, none⟩), str x.key] w' fun e w'' => e = .returned (.pointer (some ⟨p, 0, none⟩)) ∧ PutNew (Lays p sv) W w'' p ⟨pre ++ lowB x.page.toNat 2 ++ textB x.key, 0⟩) := Lib.hid (fun w' h => by
        have := Text_new _ W w' p _ x.key h (by simp only [List.length_append, lowB_length]; omega) (by omega)
        rwa [textS_fit _ _ rfl (by omega)] at this)
      generalize pre ++ lowB x.page.toNat 2 ++ textB x.key = t2 at *
      generalize pre ++ lowB x.page.toNat 2 = t1 at *
      clear b0 b1 hBp hBr
      have HB := Lib.hid hB
      clear hB
      have q0 := hS0
      go_region_held3 (fun w' => w'.cell? ⟨B, 0, none⟩ = some (str x.key) ∧ w'.cell? ⟨B, 1, none⟩ = some (.int .i64 x.page)) (exact HB.out _ _ (by assumption)) (first | ((with_reducible refine (HC1.out _ (by assumption)).mono ?_); rintro _ _ ⟨rfl, hq1⟩) | ((with_reducible refine (HC2.out _ (by assumption)).mono ?_); rintro _ _ ⟨rfl, hq2⟩))
      have HN := Lib.hid (HPW.out.back hq2)
      clear hq1 hq2 q0 hS0 HC1 HC2 HB HPW
      go_wp2_with fail
      go_roundg (gk - 1)
      case measure => omega
      case rel => exact ⟨k + 1, by omega, by go_num, by rw [← HNX.out]; exact HN.out⟩
    · obtain rfl : k = l.length := by omega
      rw [List.take_length] at hp
      have HE := Lib.hid (End_new _ _ _ _ _ hp)
      have HO := Lib.hid (hp.choose_spec.since)
      clear hp
      go_wp2_with fail
      (with_reducible refine HE.out.mono ?_)
      rintro e w4 ⟨rfl, o4⟩
      go_wp2_with fail
      go_ret2
      exact ⟨rfl, (O2.out.trans HO.out (fun _ _ q => q)).trans o4 (fun _ _ q => q)⟩
end
section
open Go.RowKit
theorem kidInfo : (Tryz.prog.info? 185).map (fun i => (i.zero, i.size, i.bytes)) = some (some (.agg #[str [], .int .i64 0]), 2, 24) := by kernel_rfl
set_option maxRecDepth 100000 in
set_option maxHeartbeats 4000000 in
theorem TRead_is (l : List Kid) (hne : l ≠ []) (hr : rightL l = true) (h1 : sizeL l ≤ 232) (h2 : l.length ≤ 255) (w : World) :
    Calls Tryz.prog 178 #[str (twigB l)] w fun e w' => ∃ v, e = .returned (.tuple #[v, .int .i64 0]) ∧ RowC kidC 2 w' v l ∧ Only (fun _ => False) w w' ∧ ∀ b, rowBlock v = some b → w.heap.size ≤ b := by
  obtain ⟨i0, hi, hz0, hz1, hz2⟩ := info_parts kidInfo
  have hlen := flat_encK l
  have HB : ∀ g w', GetAt w' g ⟨twigB l, 0⟩ → Calls Tryz.prog 201 #[.pointer (some ⟨g, 0, none⟩)] w' fun e w'' => e = .returned (.int .i64 (l.length : Int)) ∧ GetTo w' g ⟨l.flatMap encK, 0⟩ w'' := fun g w' h => by
    have := Byte_get g _ w' h (by simp only [twigB, List.length_append, lowB_length]; omega)
    rwa [twigB, lowG_low _ _ _ (by omega)] at this
  have HB := Lib.hid HB
  have HNE := Lib.hid hne
  have HRI := Lib.hid hr
  have HZ := Lib.hid h1
  clear hr h1 hlen
  generalize hb : twigB l = b at *
  have HBL := Lib.hid hb
  clear hb
  go_enter Tryz.func178, Tryz.ntmps178
  go_wp2_with fail
  (with_reducible refine (From_get b w).mono ?_)
  rintro e w1 ⟨rfl, hg, o1⟩
  have HB := Lib.hid (HB.out _ _ hg)
  clear hg
  go_wp2_with fail
  (with_reducible refine HB.out.mono ?_)
  rintro e w2 ⟨rfl, hg, o2⟩
  have hw1 := o1.size
  have hgw : w.heap.size ≤ w.heap.size := Nat.le_refl _
  have O2 : Hid (Only (fun _ => False) w w2) := Lib.hid (o1.trans o2 (fun i hi q => by omega))
  clear o1 o2 HB hw1
  generalize hgg : w.heap.size = g at *
  have HG := Lib.hid hg
  clear hg
  go_wp2_with fail
  go_loopg [5, 14] l.length (fun gh ov i wr => ∃ k : Nat, gh + k = l.length ∧ i = .int .i64 k ∧ GetAt wr g ⟨(l.drop k).flatMap encK, 0⟩ ∧ wr.ownsRow 0 185 2 ov k ((l.take k).flatMap kidC) ∧ ov.ownBlock ≠ some g ∧ (∀ q, ov.ownBlock = some q → w.heap.size ≤ q) ∧ Only (fun _ => False) w wr)
  case atStart => exact ⟨0, by omega, rfl, HG.out, ⟨rfl, .inl ⟨rfl, rfl⟩⟩, by simp [Value.ownBlock], fun q hq => by simp [Value.ownBlock] at hq, O2.out⟩
  case round =>
    obtain ⟨k, hgk, rfl, hgt, own, hne, hnew, ho⟩ := hrel
    by_cases hk : k < l.length
    · obtain ⟨x, hx⟩ : ∃ x, l[k]? = some x := ⟨l[k], List.getElem?_eq_getElem hk⟩
      have hk2 : (k : Int) < (l.length : Int) := by omega
      have w4 : IntKind.i64.wrap ((k : Int) + 1) = (k : Int) + 1 := by exact IntWalk.i64_in _ (by omega)
      have hok : okKid x = true := ((rightL_iff l).1 HRI.out).1 x (List.mem_of_getElem? hx)
      simp only [okKid, decide_eq_true_eq] at hok
      have hx2 : l[k] = x := by rw [List.getElem?_eq_getElem hk] at hx; exact Option.some.inj hx
      have htake : (l.take k).flatMap kidC ++ kidC x = (l.take (k + 1)).flatMap kidC := by
        rw [List.take_succ_eq_append_getElem hk, List.flatMap_append, hx2]; simp
      have hdrop : (l.drop k).flatMap encK = lowB x.page.toNat 2 ++ (textB x.key ++ (l.drop (k + 1)).flatMap encK) := by
        rw [List.drop_eq_getElem_cons hk, List.flatMap_cons, hx2]; simp [encK]
      have hdl : ((l.drop k).flatMap encK).length ≤ 300 := by
        have h1 := flat_encK (l.drop k)
        have h2 := sizeL_drop l k
        have := HZ.out
        omega
      rw [hdrop] at hgt hdl
      have hcost : Keyed.cost x = 4 + x.key.length := rfl
      simp only [List.length_append, lowB_length] at hdl
      have HK : Hid (∀ w', GetAt w' g ⟨lowB x.page.toNat 2 ++ (textB x.key ++ (l.drop (k + 1)).flatMap encK), 0⟩ → Calls Tryz.prog 46 #[.pointer (some ⟨g, 0, none⟩)] w' fun e w'' => e = .returned (.int .i64 x.page) ∧ GetTo w' g ⟨textB x.key ++ (l.drop (k + 1)).flatMap encK, 0⟩ w'') := Lib.hid (fun w' h => by
        have := Half_get g _ w' h (by simp only [List.length_append, lowB_length]; omega)
        rw [lowG_low _ _ _ (by omega)] at this
        simp only [Int.toNat_of_nonneg (show 0 ≤ x.page by omega)] at this
        exact this)
      have HT1 : Hid (∀ w', GetAt w' g ⟨textB x.key ++ (l.drop (k + 1)).flatMap encK, 0⟩ → Calls Tryz.prog 202 #[.pointer (some ⟨g, 0, none⟩)] w' fun e w'' => e = .returned (str x.key) ∧ GetTo w' g ⟨(l.drop (k + 1)).flatMap encK, 0⟩ w'') := Lib.hid (fun w' h => by
        have := Text_get g _ w' h (by simp only [List.length_append]; omega)
        rwa [textG_text _ _ (by omega)] at this)
      have HTK := Lib.hid htake
      have HKN := Lib.hid (show k + 1 ≤ 255 by omega)
      have HOWN := Lib.hid own
      have HGT := Lib.hid hgt
      have HO := Lib.hid ho
      have HNEW := Lib.hid hnew
      have hgw2 : g < wr.heap.size := lt_of_cell hgt.c0
      clear htake hdrop hdl own hgt ho hnew hx2 hx hok hcost
      generalize lowB x.page.toNat 2 ++ (textB x.key ++ (l.drop (k + 1)).flatMap encK) = r0 at *
      generalize textB x.key ++ (l.drop (k + 1)).flatMap encK = r1 at *
      generalize h3 : (l.drop (k + 1)).flatMap encK = r3 at *
      have H3 := Lib.hid h3
      clear h3
      go_wp2_with fail
      (with_reducible refine (HK.out _ HGT.out).mono ?_)
      rintro e wa ⟨rfl, ga, oa⟩
      have HOWN := Lib.hid (own_only HOWN.out oa (fun q hq e => hne (e ▸ hq)))
      have HO := Lib.hid (HO.out.trans oa (fun i hi e => by omega))
      have GA := Lib.hid ga
      have hga2 : g < wa.heap.size := lt_of_cell ga.c0
      have hra2 : ∀ q, u5.ownBlock = some q → q < wa.heap.size := fun q hq => (HOWN.out.lt q hq).2
      clear ga oa HGT HK hgw2
      go_wp2_with fail
      obtain ⟨b0, b1⟩ := kid_new wa ⟨[], x.page⟩ 185
      have z0 : (wa.alloc (.cells #[str [], .int .i64 x.page] 185)).frozen? ⟨wa.heap.size, 0, none⟩ = false := by simp only [World.frozen?, heap_alloc_new]; rfl
      have oW := (Only.refl (fun _ => False) wa).alloc (.cells #[str [], .int .i64 x.page] 185)
      have HOWN := Lib.hid (own_only HOWN.out oW (fun _ _ => id))
      have HO := Lib.hid (HO.out.trans oW (fun _ _ => id))
      have GA := Lib.hid (GA.out.only oW id)
      clear oW
      change (wa.alloc (.cells #[Value.string { data := #[] }, .int .i64 x.page] 185)).cell? _ = _ at b0 b1
      change (wa.alloc (.cells #[Value.string { data := #[] }, .int .i64 x.page] 185)).frozen? _ = _ at z0
      change Hid (Only _ w (wa.alloc (.cells #[Value.string { data := #[] }, .int .i64 x.page] 185))) at HO
      change Hid (GetAt (wa.alloc (.cells #[Value.string { data := #[] }, .int .i64 x.page] 185)) g _) at GA
      change Hid ((wa.alloc (.cells #[Value.string { data := #[] }, .int .i64 x.page] 185)).ownsRow 0 _ _ _ _ _) at HOWN
      generalize (wa.alloc (.cells #[Value.string { data := #[] }, .int .i64 x.page] 185)) = W at *
      generalize wa.heap.size = B at *
      have hBg : B ≠ g := by omega
      have hBr : ∀ q, u5.ownBlock = some q → q ≠ B := fun q hq e => by have := hra2 q hq; omega
      have hBW := lt_of_cell b0
      have hnw : w.heap.size ≤ B := by omega
      clear hra2 hga2
      (with_reducible refine (HT1.out _ GA.out).mono ?_)
      rintro e wd ⟨rfl, gd, od⟩
      have b0 := (od.cell (p := ⟨B, 0, none⟩) hBW hBg).trans b0
      have b1 := (od.cell (p := ⟨B, 1, none⟩) hBW hBg).trans b1
      have z0 := (od.frozen (p := ⟨B, 0, none⟩) hBW hBg).trans z0
      have HOWN := Lib.hid (own_only HOWN.out od (fun q hq e => hne (e ▸ hq)))
      have HO := Lib.hid (HO.out.trans od (fun i hi e => by omega))
      have hBd := lt_of_cell b0
      have GD := Lib.hid gd
      clear gd od GA HT1
      have hBw : B < w.heap.size → False := fun q => by omega
      have hgd2 : g < wd.heap.size := lt_of_cell GD.out.c0
      have HO := Lib.hid (HO.out.setCell (p := ⟨B, 0, none⟩) hBw (str x.key))
      have hY : (wd.setCell ⟨B, 0, none⟩ (str x.key)).heap.size = wd.heap.size := by simp [World.setCell]
      have HC := cells_new (wd.setCell ⟨B, 0, none⟩ (str x.key)) (kidC x) 185 (0, 0)
      rw [hY] at HC
      have HC := Lib.hid HC
      have HYW : Hid (Only (fun q => u5.ownBlock = some q ∨ q = B) wd ((wd.setCell ⟨B, 0, none⟩ (str x.key)).alloc (.cells (kidC x).toArray 185 (0, 0)))) :=
        Lib.hid (((Only.refl _ wd).setCell (p := ⟨B, 0, none⟩) (fun _ => .inr rfl) (str x.key)).alloc _)
      have HOWN := Lib.hid (own_only (own_store HOWN.out (fun e => hBr _ e rfl) 0 (str x.key)) ((Only.refl (fun _ => False) _).alloc (.cells (kidC x).toArray 185 (0, 0))) (fun _ _ => id))
      have HO := Lib.hid (HO.out.alloc (.cells (kidC x).toArray 185 (0, 0)))
      have hX : ((wd.setCell ⟨B, 0, none⟩ (str x.key)).alloc (.cells (kidC x).toArray 185 (0, 0))).heap.size = wd.heap.size + 1 := by rw [← hY]; simp
      have hkl : ((l.take k).flatMap kidC).length = k * 2 := HOWN.out.1
      go_wp2_with (at_builtin; refine wpList_append_moved _ rfl _ _ 163 rfl 185 i0 _ 2 24 Tryz.underlying163 hi hz0 hz1 hz2 rfl (by decide) _ _ _ rfl HOWN.out ⟨wd.heap.size, 0, none⟩ 1 1 (kidC x) rfl rfl HC.out (by simp [kidC, Value.oneCell']) (by unfold maxLen; have := HKN.out; omega) (by have := HKN.out; omega) ?_; intro a' c' wx hown2 hgr hmv; have HX := Lib.hid (And.intro hown2 (And.intro hgr hmv)); clear hown2 hgr hmv)
      go_roundg (gk - 1)
      case measure => omega
      case rel =>
        obtain ⟨hown2, hgr, hmv⟩ := HX.out
        rw [HTK.out] at hown2
        have hq := HYW.out.grown hgr (fun q _ e => .inl e)
        refine ⟨k + 1, by omega, by go_num, by rw [H3.out]; exact GD.out.only hq (fun e => e.elim hne (fun e => hBg e.symm)), hown2, fun e => ?_, fun q e => ?_, HO.out.grown hgr (fun q hq2 e => ?_)⟩
        · rcases hmv _ e with e | e
          · exact hne e
          · have : wd.heap.size + 1 ≤ g := by rw [← hX]; exact e
            omega
        · rcases hmv _ e with e | e
          · exact HNEW.out q e
          · have : wd.heap.size + 1 ≤ q := by rw [← hX]; exact e
            omega
        · have := HNEW.out q e; omega
    · obtain rfl : k = l.length := by omega
      rw [List.take_length] at own
      rw [List.drop_length] at hgt
      have HE : Calls Tryz.prog 203 #[.pointer (some ⟨g, 0, none⟩)] wr fun e w' => e = .returned (.int .i64 0) ∧ GetTo wr g ⟨[], 0⟩ w' := End_get g ⟨[], 0⟩ wr hgt
      have HE := Lib.hid HE
      have HOWN := Lib.hid own
      have HO := Lib.hid ho
      have HNEW := Lib.hid hnew
      clear own hgt ho hnew
      go_wp2_with fail
      (with_reducible refine HE.out.mono ?_)
      rintro e wa ⟨rfl, ga, oa⟩
      have hrow := own_only HOWN.out oa (fun q hq e => hne (e ▸ hq))
      have HRB := Lib.hid (rowBlock_own hrow)
      have HCP := Lib.hid (cap_own hrow)
      have HROW := Lib.hid (row_own (enc := kidC) (k := 2) (xs := l) (fun _ => rfl) hrow)
      have HO := Lib.hid (HO.out.trans oa (fun i hi e => by omega))
      have HLY := Lib.hid (TLay_is _ l wa HROW.out HNE.out HRI.out HZ.out h2)
      rw [HBL.out] at HLY
      clear ga oa HE hrow
      go_wp2_with fail
      (with_reducible refine HLY.out.mono ?_)
      rintro e wb ⟨rfl, ob⟩
      have hbb : (b == b) = true := by simp
      go_wp2_with fail
      go_ret2
      exact ⟨_, rfl, ⟨row_only HROW.out ob (fun _ _ => id), HCP.out⟩, HO.out.trans ob (fun _ _ => id), fun q hq => HNEW.out q (by rw [← HRB.out]; exact hq)⟩
end
section
open Go.RowKit
theorem lt_upto {l : List Kid} (hr : Rising l) (key : Bytes) (i : Nat) (x : Kid) (hx : l[i]? = some x) : i < (l.takeWhile fun x => !decide (key < x.key)).length ↔ ¬ key < x.key := by
  induction l generalizing i with
  | nil => simp at hx
  | cons y ys ih =>
    have hp := List.pairwise_cons.1 hr
    rw [List.takeWhile_cons]
    by_cases hy : key < y.key
    · rw [if_neg (by simpa using hy)]
      have : key < x.key := by
        cases i with
        | zero => simp only [List.getElem?_cons_zero, Option.some.injEq] at hx; rw [← hx]; exact hy
        | succ i => rw [List.getElem?_cons_succ] at hx; exact List.lt_trans hy (hp.1 x (List.mem_of_getElem? hx))
      simp [this]
    · rw [if_pos (by simpa using hy), List.length_cons]
      cases i with
      | zero => simp only [List.getElem?_cons_zero, Option.some.injEq] at hx; rw [← hx]; simp [hy]
      | succ i =>
        rw [List.getElem?_cons_succ] at hx
        rw [← ih hp.2 i hx]
        omega
set_option maxRecDepth 100000 in
set_option maxHeartbeats 2000000 in
theorem TFindF_is (v : Value) (l : List Kid) (key : Bytes) (b2 b3 i : Nat) (x : Kid) (w : World) (h : RowAt kidC 2 w v l) (c2 : w.cell? ⟨b2, 0, none⟩ = some v) (c3 : w.cell? ⟨b3, 0, none⟩ = some (str key)) (hx : l[i]? = some x) (hn : l.length ≤ 1073741824) :
    Calls Tryz.prog 181 #[.int .i64 (i : Int), .pointer (some ⟨b2, 0, none⟩), .pointer (some ⟨b3, 0, none⟩)] w fun e w' => e = .returned (.bool (!(Op.bytesLess x.key key || x.key == key))) ∧ Only (fun _ => False) w w' := by
  have hform : ∃ a c, v = .slice a l.length c := by cases h with
    | none => exact ⟨_, _, rfl⟩
    | some g off cap => exact ⟨_, _, rfl⟩
  obtain ⟨a, c, rfl⟩ := hform
  have hi : i < l.length := (List.getElem?_eq_some_iff.1 hx).1
  obtain ⟨g, off, rfl, c0, _⟩ := row_kid h hx
  have hi1 : (i : Int) < (l.length : Int) := by omega
  have hi0 : (0 : Int) ≤ (i : Int) := by omega
  clear h hx
  go_enter Tryz.func181, Tryz.ntmps181
  go_wp2_with fail
  have q0 : ∀ p : Grew w, p.u.cell? ⟨g, off + i * 2, none⟩ = some (str x.key) := fun p => p.cell c0
  have q2 : ∀ p : Grew w, p.u.cell? ⟨b2, 0, none⟩ = some (.slice (some ⟨g, off, none⟩) l.length c) := fun p => p.cell c2
  have q3 : ∀ p : Grew w, p.u.cell? ⟨b3, 0, none⟩ = some (str key) := fun p => p.cell c3
  refine wp_region_grew (by kernel_rfl) (by kernel_rfl) (fun _W h0 h1 => ?_)
  repeat (refine h1 _ _ _ (fun K hK => ?_); go_simp; (refine hK _ ?_; clear hK K))
  refine h0 _ (fun p => ?_)
  clear h0 h1
  go_wp2_with fail
  go_ret
  exact ⟨by simp, p.h⟩
theorem enters_TFindF (args : Array Value) (w : World) : (callFunc 181 args).run Tryz.prog w = .ok (.enter 181 args) w := Go.MuLone.run_callFunc_enter Tryz.func181 (by kernel_rfl) rfl args w
set_option maxRecDepth 100000 in
set_option maxHeartbeats 2000000 in
theorem TFind_is (v : Value) (l : List Kid) (key : Bytes) (w : World) (h : RowAt kidC 2 w v l) (hne : l ≠ []) (hr : Rising l) (hn : l.length ≤ 1073741824) :
    Calls Tryz.prog 147 #[v, str key] w fun e w' => e = .returned (.int .i64 (findK l key : Nat)) ∧ Only (fun _ => False) w w' := by
  have hform : ∃ a c, v = .slice a l.length c := by cases h with
    | none => exact ⟨_, _, rfl⟩
    | some g off cap => exact ⟨_, _, rfl⟩
  obtain ⟨a, c, rfl⟩ := hform
  have HA := Lib.hid h
  have HR := Lib.hid hr
  have HN := Lib.hid hn
  have hl0 : 0 < l.length := List.length_pos_iff.2 hne
  clear h hr
  go_enter Tryz.func147, Tryz.ntmps147
  go_wp2_with fail
  obtain ⟨c2, c3⟩ := boxes_new w (.slice a l.length c) (str key) 163 9
  have oW := ((Only.refl (fun _ => False) w).alloc (.cells #[.slice a l.length c] 163)).alloc (.cells #[str key] 9)
  have HA := Lib.hid (row_only HA.out oW (fun _ _ => id))
  have HW := Lib.hid oW
  clear oW
  generalize (w.alloc (.cells #[.slice a l.length c] 163)).alloc (.cells #[str key] 9) = W at *
  generalize w.heap.size + 1 = b3 at *
  generalize w.heap.size = b2 at *
  have hl2 := lt_of_cell c2
  have hl3 := lt_of_cell c3
  have hm : (l.takeWhile fun x => !decide (key < x.key)).length ≤ l.length := by
    have := congrArg List.length (List.takeWhile_append_dropWhile (p := fun x : Kid => !decide (key < x.key)) (l := l))
    rw [List.length_append] at this
    omega
  have hS := Search_is 181 #[.pointer (some ⟨b2, 0, none⟩), .pointer (some ⟨b3, 0, none⟩)] l.length (fun i => match l[i]? with | some x => !(Op.bytesLess x.key key || x.key == key) | none => true) W enters_TFindF HN.out
    (fun w' o i hi => by
      have hx : l[i]? = some l[i] := List.getElem?_eq_getElem hi
      rw [hx]
      exact TFindF_is _ l key b2 b3 i l[i] w' (row_only HA.out o (fun _ _ => id)) ((o.cell hl2 id).trans c2) ((o.cell hl3 id).trans c3) hx HN.out)
    (l.takeWhile fun x => !decide (key < x.key)).length hm
    (fun i hi => by
      have hil : i < l.length := by omega
      have hx : l[i]? = some l[i] := List.getElem?_eq_getElem hil
      have := (lt_upto HR.out key i _ hx).1 hi
      simp only [hx]
      rw [less_or_eq, decide_eq_false this])
    (fun i hi hin => by
      have hx : l[i]? = some l[i] := List.getElem?_eq_getElem hin
      have : key < l[i].key := Classical.byContradiction fun q => by have := (lt_upto HR.out key i _ hx).2 q; omega
      simp only [hx]
      rw [less_or_eq, decide_eq_true this])
  have HS := Lib.hid hS
  have HFK : Hid (findK l key = (l.takeWhile fun x => !decide (key < x.key)).length - 1) := Lib.hid rfl
  clear hS
  generalize (l.takeWhile fun x => !decide (key < x.key)).length = m at *
  (with_reducible refine HS.out.mono ?_)
  rintro e w1 ⟨rfl, o1⟩
  have c2 := (o1.cell hl2 id).trans c2
  have HW := Lib.hid (HW.out.trans o1 (fun _ _ => id))
  clear o1 HS hl2 hl3 c3
  have hw1 : IntKind.i64.wrap ((m : Int) - 1) = (m : Int) - 1 := by exact IntWalk.i64_in _ (by omega)
  by_cases h0 : m = 0
  · subst h0
    have hl1 : (0 : Int) < (l.length : Int) := by omega
    go_wp2_with fail
    go_ret
    exact ⟨by rw [HFK.out]; rfl, HW.out⟩
  · have h1 : ¬ ((m : Int) - 1 < 0) := by omega
    go_wp2_with fail
    go_ret
    refine ⟨?_, HW.out⟩
    rw [HFK.out]
    show Ending.returned (Value.int .i64 ((m : Int) - 1)) = Ending.returned (Value.int .i64 ((m - 1 : Nat) : Int))
    congr 2
    omega
end
end Go.Proofs.YtbhiamcmiopnoaaGreatDoor
