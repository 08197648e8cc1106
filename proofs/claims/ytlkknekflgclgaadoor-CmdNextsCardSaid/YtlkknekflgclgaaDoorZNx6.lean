/- CmdNexts: the law itself. Conditions: none but those of the statement. -/
import Derived.Test.YtlkknekflgclgaaDoorZNx5
import Derived.Test.YtlkknekflgclgaaDoorZArgC
import Derived.Deep.LoopGhost
namespace Go.Proofs.YtlkknekflgclgaaDoor
open Go.RowKit Go.MuLone

theorem byte_at {l : Bytes} {i : Nat} {x : UInt8} (h : l[i]? = some x) : ∀ h' : i < (⟨l.toArray⟩ : ByteArray).size, (⟨l.toArray⟩ : ByteArray)[i]'h' = x := by
  intro h'
  have hi : i < l.length := by
    have h2 : i < l.toArray.size := h'
    simpa using h2
  have h3 : l[i]'hi = x := by
    rw [List.getElem?_eq_getElem hi] at h
    exact Option.some.inj h
  rw [← h3]
  show l.toArray[i]'_ = l[i]'hi
  simp
theorem byte_ne {x : UInt8} {n : Nat} (hn : n < 256) (h : x ≠ UInt8.ofNat n) : ((x.toNat : Int) == (n : Int)) = false := by
  rw [beq_eq_false_iff_ne]
  intro q
  refine h (UInt8.toNat_inj.1 ?_)
  rw [UInt8.toNat_ofNat', Nat.mod_eq_of_lt (by omega)]
  omega
theorem named_of {p : Bytes} {c : UInt8} (h0 : p[0]? = some c) (hc : c ≠ 0) (h : p.length ≤ 32) (hf : ∀ k : Nat, k < p.length → p[k]? ≠ some (47 : UInt8)) : Named p := by
  refine ⟨fun e => by rw [e] at h0; simp at h0, h, fun k q => ?_, ?_⟩
  · have hk := (List.getElem?_eq_some_iff.1 q).1
    exact hf k hk q
  · cases p with
    | nil => simp at h0
    | cons x r =>
      have hx : x = c := by simpa using h0
      subst hx
      simp only [ownS, Lib.hasPrefix, List.isPrefixOf, Bool.and_true]
      rw [beq_eq_false_iff_ne]
      exact fun q => hc q.symm
/-- The law's numbers: how often each bucket was counted. -/
structure NxAt (w W : World) (nt st r a b top lo1 lo2 r1 r2 c1 : Nat) (p q : Bytes) (n m u v : Int) : Prop where
  root : RootAt w W nt st r a b top (upM (upM (fun _ => none) p (some r1)) q (some r2)) 2
  s1 : SubAt W lo1 lo2 r1 n
  s2 : SubAt W lo2 c1 r2 m
  k1 : W.heap[c1]? = some (.cells #[.int .i64 u] 3 (0, 0))
  k2 : W.heap[c1 + 1]? = some (.cells #[.int .i64 v] 3 (0, 0))
  b1 : top ≤ lo1
  b2 : w.heap.size ≤ lo1
  b3 : lo1 ≤ lo2
  b4 : lo2 ≤ c1
section
variable {w W W' : World} {nt st r a b top lo1 lo2 r1 r2 c1 : Nat} {p q : Bytes} {n m u v : Int} (h : NxAt w W nt st r a b top lo1 lo2 r1 r2 c1 p q n m u v)
include h
theorem NxAt.still (ho : Only (fun _ => False) W W') : NxAt w W' nt st r a b top lo1 lo2 r1 r2 c1 p q n m u v :=
  ⟨h.root.still ho, h.s1.only ho (fun _ _ _ => id), h.s2.only ho (fun _ _ _ => id), blk_still h.k1 ho id, blk_still h.k2 ho id, h.b1, h.b2, h.b3, h.b4⟩
theorem NxAt.set1 (x : Int) : NxAt w (W.setCell ⟨c1, 0, none⟩ (.int .i64 x)) nt st r a b top lo1 lo2 r1 r2 c1 p q n m x v := by
  have ho : Only (fun j => j = c1) W (W.setCell ⟨c1, 0, none⟩ (.int .i64 x)) := (Only.refl (fun j => j = c1) W).put c1 0 rfl _
  have e1 := h.b1
  have e2 := h.b2
  have e3 := h.b3
  have e4 := h.b4
  exact ⟨h.root.off ho (by omega) (by omega), h.s1.only ho (fun j a1 a2 => by omega), h.s2.only ho (fun j a1 a2 => by omega), blk_set h.k1 0 _, blk_still h.k2 ho (by omega), h.b1, h.b2, h.b3, h.b4⟩
theorem NxAt.set2 (x : Int) : NxAt w (W.setCell ⟨c1 + 1, 0, none⟩ (.int .i64 x)) nt st r a b top lo1 lo2 r1 r2 c1 p q n m u x := by
  have ho : Only (fun j => j = c1 + 1) W (W.setCell ⟨c1 + 1, 0, none⟩ (.int .i64 x)) := (Only.refl (fun j => j = c1 + 1) W).put (c1 + 1) 0 rfl _
  have e1 := h.b1
  have e2 := h.b2
  have e3 := h.b3
  have e4 := h.b4
  exact ⟨h.root.off ho (by omega) (by omega), h.s1.only ho (fun j a1 a2 => by omega), h.s2.only ho (fun j a1 a2 => by omega), blk_still h.k1 ho (by omega), blk_set h.k2 0 _, h.b1, h.b2, h.b3, h.b4⟩
theorem NxAt.next1 (hp : Named p) (hpq : p ≠ q) (hn : 0 ≤ n ∧ n ≤ 1000000) : Calls Tryd.prog 7 #[.pointer (some ⟨st, 0, none⟩), .agg #[.int .i64 7, str p, .string ⟨#[]⟩, .string ⟨#[]⟩, .string ⟨#[]⟩]] W fun e w' => e = .returned (.agg #[.int .i64 0, str (Lib.itoa (n + 1))]) ∧ NxAt w w' nt st r a b top lo1 lo2 r1 r2 c1 p q (n + 1) m u v ∧ Only (fun j => j = r1) W w' := by
  obtain ⟨a1, b1', hb, m1, m2, m3, m4, m5, m6⟩ := h.s1
  have e3 := h.b3
  have e4 := h.b4
  refine (h.root.next hp (by show upM _ q (some r2) p = _; rw [upM, if_neg hpq, upM, if_pos rfl]) h.s1 h.b1 h.b2 hn).mono ?_
  rintro e w' ⟨he, hr, hs, ho⟩
  exact ⟨he, ⟨hr, hs, h.s2.only ho (fun j a1 a2 => by omega), blk_still h.k1 ho (by omega), blk_still h.k2 ho (by omega), h.b1, h.b2, h.b3, h.b4⟩, ho⟩
theorem NxAt.next2 (hq : Named q) (hn : 0 ≤ m ∧ m ≤ 1000000) : Calls Tryd.prog 7 #[.pointer (some ⟨st, 0, none⟩), .agg #[.int .i64 7, str q, .string ⟨#[]⟩, .string ⟨#[]⟩, .string ⟨#[]⟩]] W fun e w' => e = .returned (.agg #[.int .i64 0, str (Lib.itoa (m + 1))]) ∧ NxAt w w' nt st r a b top lo1 lo2 r1 r2 c1 p q n (m + 1) u v ∧ Only (fun j => j = r2) W w' := by
  obtain ⟨a1, b1', hb, m1, m2, m3, m4, m5, m6⟩ := h.s2
  have e1 := h.b1
  have e2 := h.b2
  have e3 := h.b3
  have e4 := h.b4
  refine (h.root.next hq (by show upM _ q (some r2) q = _; rw [upM, if_pos rfl]) h.s2 (by omega) (by omega) hn).mono ?_
  rintro e w' ⟨he, hr, hs, ho⟩
  exact ⟨he, ⟨hr, h.s1.only ho (fun j a1 a2 => by omega), hs, blk_still h.k1 ho (by omega), blk_still h.k2 ho (by omega), h.b1, h.b2, h.b3, h.b4⟩, ho⟩
end
theorem reply_field (x y : Value) (W : World) : (Instr.field 28 (.agg #[x, y]) 0).run Tryd.prog W = .ok x W := by kernel_rfl
theorem itoa1 : Lib.itoa (0 + 1) = [49] := by kernel_rfl
set_option maxRecDepth 100000 in
set_option maxHeartbeats 8000000 in
theorem nexts_in (w : World) (nt : Nat) (hT : Tab nt w) (hm : MaxAt w) (hnt : nt ≤ w.heap.size) (p q : Bytes) (c d : UInt8) (hp0 : p[0]? = some c) (hq0 : q[0]? = some d) (hc : c ≠ 0) (hd : d ≠ 0) (hp : p.length ≤ 32) (hq : q.length ≤ 32) (hpq : p ≠ q)
    (a : Option Addr) (len cap : Nat) (l : List Bool) (hl : IsBools w a len cap l) (hlen : len ≤ 60) :
    Calls Tryd.prog 4 #[str p, str q, .slice a len cap] w fun e w' => e = .returned (.bool true) ∧ Only (fun _ => False) w w' := by
  have HA := Lib.hid (alive_is w nt hT hnt)
  have HT := Lib.hid hT
  have HM := Lib.hid hm
  have HL := Lib.hid hl
  have p1 : 0 < p.length := (List.getElem?_eq_some_iff.1 hp0).1
  have q1 : 0 < q.length := (List.getElem?_eq_some_iff.1 hq0).1
  have g1 : decide ((p.length : Int) < 1) = false := decide_eq_false (by omega)
  have g2 : decide ((q.length : Int) < 1) = false := decide_eq_false (by omega)
  have g3 : decide (32 < (p.length : Int)) = false := decide_eq_false (by omega)
  have g4 : decide (32 < (q.length : Int)) = false := decide_eq_false (by omega)
  have g5 : (p == q) = false := by simpa using hpq
  have g6 := byte_at hp0
  have g7 := byte_at hq0
  have g8 : ((c.toNat : Int) == 0) = false := byte_ne (n := 0) (by decide) hc
  have g9 : ((d.toNat : Int) == 0) = false := byte_ne (n := 0) (by decide) hd
  have g10 : decide (60 < (len : Int)) = false := decide_eq_false (by omega)
  have HPQ := Lib.hid hpq
  have HC := Lib.hid hc
  have HD := Lib.hid hd
  have HP0 := Lib.hid hp0
  have HQ0 := Lib.hid hq0
  clear hT hm hl hpq hc hd hp0 hq0
  go_enter Tryd.func4, Tryd.ntmps4
  go_wp2_with fail
  (with_reducible refine HA.out.mono ?_)
  rintro _ w1 ⟨rfl, o1⟩
  have HO1 := Lib.hid o1
  clear o1 HA g1 g2 g3 g4 g5 g6 g7 g8 g9 g10
  go_wp2_with fail
  go_loopg [7] p.length (fun gh iv wr => ∃ i : Nat, gh + i = p.length ∧ iv = .int .i64 i ∧ wr = w1 ∧ ∀ k : Nat, k < i → p[k]? ≠ some (47 : UInt8))
  case atStart => exact ⟨0, by omega, rfl, rfl, fun k hk => by omega⟩
  case round =>
    obtain ⟨i, hgk, rfl, rfl, hfl⟩ := hrel
    have HF := Lib.hid hfl
    clear hfl
    by_cases hi : i < p.length
    · obtain ⟨x, hx⟩ : ∃ x, p[i]? = some x := ⟨_, List.getElem?_eq_getElem hi⟩
      have e1 := byte_at hx
      have hi1 : (i : Int) < (p.length : Int) := by omega
      have hwi : IntKind.i64.wrap ((i : Int) + 1) = (i : Int) + 1 := IntWalk.i64_in _ (by omega)
      have HX := Lib.hid hx
      clear hx
      by_cases h47 : x = 47
      · subst h47
        have e2 : ((((47 : UInt8).toNat : Nat) : Int) == 47) = true := rfl
        go_wp2_with fail
        go_ret
        exact ⟨rfl, HO1.out⟩
      · have e2 : ((x.toNat : Int) == 47) = false := byte_ne (n := 47) (by decide) h47
        go_wp2_with fail
        go_roundg (gk - 1)
        case measure => omega
        case rel =>
          refine ⟨i + 1, by omega, by go_num, rfl, fun k hk => ?_⟩
          by_cases hki : k = i
          · subst hki
            rw [HX.out]
            intro q9
            exact h47 (Option.some.inj q9)
          · exact HF.out k (by omega)
    · obtain rfl : i = p.length := by omega
      have hi1 : ¬ ((p.length : Int) < (p.length : Int)) := by omega
      generalize wr = wb at *
      go_wp2_with fail
      go_loopg [8] q.length (fun gh iv wr => ∃ i : Nat, gh + i = q.length ∧ iv = .int .i64 i ∧ wr = wb ∧ ∀ k : Nat, k < i → q[k]? ≠ some (47 : UInt8))
      case atStart => exact ⟨0, by omega, rfl, rfl, fun k hk => by omega⟩
      case round =>
        obtain ⟨i, hgk, rfl, rfl, hfl⟩ := hrel
        have HG := Lib.hid hfl
        clear hfl
        by_cases hi : i < q.length
        · obtain ⟨x, hx⟩ : ∃ x, q[i]? = some x := ⟨_, List.getElem?_eq_getElem hi⟩
          have e1 := byte_at hx
          have hi1 : (i : Int) < (q.length : Int) := by omega
          have hwi : IntKind.i64.wrap ((i : Int) + 1) = (i : Int) + 1 := IntWalk.i64_in _ (by omega)
          have HX := Lib.hid hx
          clear hx
          by_cases h47 : x = 47
          · subst h47
            have e2 : ((((47 : UInt8).toNat : Nat) : Int) == 47) = true := rfl
            go_wp2_with fail
            go_ret
            exact ⟨rfl, HO1.out⟩
          · have e2 : ((x.toNat : Int) == 47) = false := byte_ne (n := 47) (by decide) h47
            go_wp2_with fail
            go_roundg (gk - 1)
            case measure => omega
            case rel =>
              refine ⟨i + 1, by omega, by go_num, rfl, fun k hk => ?_⟩
              by_cases hki : k = i
              · subst hki
                rw [HX.out]
                intro q9
                exact h47 (Option.some.inj q9)
              · exact HG.out k (by omega)
        · obtain rfl : i = q.length := by omega
          have hi1 : ¬ ((q.length : Int) < (q.length : Int)) := by omega
          generalize wr = wc at *
          have HN := Lib.hid (New_is wc)
          go_wp2_with fail
          (with_reducible refine HN.out.mono ?_)
          rintro _ w2 ⟨st, r, ma, mb, rfl, hst, hB, ho, h1, h2, h3, h4, h5, h6, h7⟩
          have HP : Hid (Named p) := Lib.hid (named_of HP0.out HC.out hp HF.out)
          have HQ : Hid (Named q) := Lib.hid (named_of HQ0.out HD.out hq HG.out)
          have hs1 := HO1.out.size
          have h0w : 0 < w.heap.size := by
            obtain ⟨m0, hm0⟩ := HM.out
            have := lt_of_cell hm0
            omega
          have hlt1 : st < w2.heap.size := blk_lt hst
          have hlt2 : ma < w2.heap.size := hB.vals.lt
          have hlt3 : mb < w2.heap.size := hB.ins.lt
          have R0 : RootAt w w2 nt st r ma mb w2.heap.size (fun _ => none) 0 := ⟨hst, hB, (HT.out.still HO1.out).still ho, (HM.out.still HO1.out).still ho, HO1.out.trans ho (fun _ _ q => q), hnt, ⟨by omega, by omega, by omega, by omega⟩, ⟨hlt1, hB.lt, hlt2, hlt3⟩, ⟨h5, h6, h7⟩, h0w⟩
          have HM1 := Lib.hid (R0.make HP.out rfl (by decide))
          have HMQ := Lib.hid (fun W I ni (h : RootAt w W nt st r ma mb w2.heap.size I ni) (hI : I q = none) (hn : ni < maxLen) => h.make HQ.out hI hn)
          have hs2 := ho.size
          clear R0 hst hB ho HN HF HG HC HD HP0 HQ0 HT HM HO1
          go_wp2_with fail
          (with_reducible refine HM1.out.mono ?_)
          rintro _ w3 ⟨rfl, r1, R1, S1, ob1⟩
          have HM2 := Lib.hid (HMQ.out _ _ _ R1 (by show upM (fun _ => none) p (some r1) q = none; exact if_neg (fun e => HPQ.out e.symm)) (by decide))
          have HS1 := Lib.hid S1
          have hl1 := R1.l2
          clear HM1 HMQ R1 S1
          go_wp2_with fail
          (with_reducible refine HM2.out.mono ?_)
          rintro _ w4 ⟨rfl, r2, R2, S2, ob2⟩
          have HR2 := Lib.hid R2
          have HS2 := Lib.hid S2
          have hz1 := ob1.size
          have hz2 := ob2.size
          have HS1b : Hid (SubAt w4 w2.heap.size w3.heap.size r1 0) := Lib.hid (HS1.out.only ob2 (fun j a1 a2 e => by have e : j = mb := e; omega))
          clear HM2 R2 S2 HS1 ob1 ob2
          have oA := (Only.refl (fun _ => False) w4).alloc (.cells #[.int .i64 0] 3)
          have oB := oA.alloc (.cells #[.int .i64 0] 3)
          have sA : (w4.alloc (.cells #[.int .i64 0] 3)).heap.size = w4.heap.size + 1 := Array.size_push _
          have nB := blk_new (w4.alloc (.cells #[.int .i64 0] 3)) (.cells #[.int .i64 0] 3)
          rw [sA] at nB
          have nA := ((Only.refl (fun _ => False) (w4.alloc (.cells #[.int .i64 0] 3))).alloc (.cells #[.int .i64 0] 3)).block w4.heap.size (by omega) id
          have HN0 : Hid (NxAt w ((w4.alloc (.cells #[.int .i64 0] 3)).alloc (.cells #[.int .i64 0] 3)) nt st r ma mb w2.heap.size w2.heap.size w3.heap.size r1 r2 w4.heap.size p q ((0 : Nat) : Int) ((0 : Nat) : Int) ((0 : Nat) : Int) ((0 : Nat) : Int)) := Lib.hid ⟨HR2.out.still oB, HS1b.out.only oB (fun _ _ _ => id), HS2.out.only oB (fun _ _ _ => id), nA.trans (blk_new w4 _), nB, Nat.le_refl _, by omega, hz1, hz2⟩
          clear oA oB sA nA nB HR2 HS2 HS1b
          generalize w2.heap.size = t2 at *
          generalize w3.heap.size = t3 at *
          go_wp2_with fail
          generalize hw4 : w4.heap.size = c1 at *
          go_loopg [12] len (fun gh iv wr => ∃ i n m : Nat, gh + i = len ∧ iv = .int .i64 i ∧ n + m = i ∧ NxAt w wr nt st r ma mb t2 t2 t3 r1 r2 c1 p q n m n m)
          case atStart => exact ⟨0, 0, 0, by omega, rfl, rfl, HN0.out⟩
          case round =>
            obtain ⟨i, n, m, hgk, rfl, hnm, hnx⟩ := hrel
            have HX := Lib.hid hnx
            clear hnx HN0
            by_cases hi : i < len
            · obtain ⟨g, off, rfl, x, hx, hc0⟩ := HL.out.cells i hi
              have hcx := (HX.out.root.only.cell (p := ⟨g, off + i, none⟩) (lt_of_cell hc0) id).trans hc0
              have hi1 : (i : Int) < (len : Int) := by omega
              have hwi : IntKind.i64.wrap ((i : Int) + 1) = (i : Int) + 1 := IntWalk.i64_in _ (by omega)
              clear hx hc0
              cases x with
              | false =>
                have hwn : IntKind.i64.wrap ((n : Int) + 1) = (n : Int) + 1 := IntWalk.i64_in _ (by omega)
                have c0 := blk_cell HX.out.k1 0
                have f0 := blk_frozen HX.out.k1 0
                simp only [List.getElem?_toArray, List.getElem?_cons_zero] at c0
                have HX2 := Lib.hid (HX.out.set1 ((n : Int) + 1))
                have HD2 : Hid (∀ W, Calls Tryd.prog 8 #[.int .i64 ((n : Int) + 1)] W fun e w' => e = .returned (str (Lib.itoa ((n : Int) + 1))) ∧ Only (fun _ => False) W w') := Lib.hid (fun W => RDigits_is W _ (by omega))
                go_wp2_with fail
                generalize wr.setCell ⟨c1, 0, none⟩ (.int .i64 ((n : Int) + 1)) = wx at *
                have HSD := Lib.hid (fun W (hW : Only (fun _ => False) wx W) => (HX2.out.still hW).next1 HP.out HPQ.out (by omega))
                have hne : c1 ≠ r1 := by
                  obtain ⟨_, _, _, y1, y2, _⟩ := HX2.out.s1
                  obtain ⟨_, _, _, y3, y4, _⟩ := HX2.out.s2
                  have := HX2.out.b3
                  have := HX2.out.b4
                  omega
                have HSX : Hid (∀ W, Only (fun j => j = r1) wx W → W.cell? ⟨c1, 0, none⟩ = some (.int .i64 ((n : Int) + 1))) := Lib.hid (fun W hW => blk_cell (blk_still HX2.out.k1 hW hne) 0)
                have p0 := Only.refl (fun _ => False) wx
                have p1 := (Only.refl (fun _ => False) wx).drew
                have q0 := Only.refl (fun j => j = r1) wx
                have q1 := (Only.refl (fun j => j = r1) wx).drew
                clear c0 f0 hcx
                generalize hdg : Lib.itoa ((n : Int) + 1) = dg at *
                go_region_held3 (fun w' => w'.cell? ⟨c1, 0, none⟩ = some (.int .i64 ((n : Int) + 1))) (first | exact HSX.out _ (by assumption)) (first | ((with_reducible refine (HSD.out _ (by assumption)).mono ?_); rintro _ w5 ⟨rfl, n5, o5⟩; have q5 := Only.trans (S := fun j => j = r1) (by assumption) o5 (fun _ _ q => q)) | ((with_reducible refine (HD2.out _).mono ?_); rintro _ w6 ⟨rfl, o6⟩; have q6 := Only.trans (S := fun j => j = r1) (by assumption) o6 (fun _ _ (q : False) => q.elim)))
                all_goals (
                  have HN6 := Lib.hid (n5.still o6)
                  clear p0 p1 q0 q1 q5 q6 n5 o5 o6 HSX HSD
                  go_wp2_with fail
                  go_roundg (gk - 1)
                  case measure => omega
                  case rel => exact ⟨i + 1, n + 1, m, by omega, by go_num, by omega, HN6.out⟩)
              | true =>
                have hwn : IntKind.i64.wrap ((m : Int) + 1) = (m : Int) + 1 := IntWalk.i64_in _ (by omega)
                have c0 := blk_cell HX.out.k2 0
                have f0 := blk_frozen HX.out.k2 0
                simp only [List.getElem?_toArray, List.getElem?_cons_zero] at c0
                have HX2 := Lib.hid (HX.out.set2 ((m : Int) + 1))
                have HD2 : Hid (∀ W, Calls Tryd.prog 8 #[.int .i64 ((m : Int) + 1)] W fun e w' => e = .returned (str (Lib.itoa ((m : Int) + 1))) ∧ Only (fun _ => False) W w') := Lib.hid (fun W => RDigits_is W _ (by omega))
                go_wp2_with fail
                generalize wr.setCell ⟨c1 + 1, 0, none⟩ (.int .i64 ((m : Int) + 1)) = wx at *
                have HSD := Lib.hid (fun W (hW : Only (fun _ => False) wx W) => (HX2.out.still hW).next2 HQ.out (by omega))
                have hne : c1 + 1 ≠ r2 := by
                  obtain ⟨_, _, _, y1, y2, _⟩ := HX2.out.s1
                  obtain ⟨_, _, _, y3, y4, _⟩ := HX2.out.s2
                  have := HX2.out.b3
                  have := HX2.out.b4
                  omega
                have HSX : Hid (∀ W, Only (fun j => j = r2) wx W → W.cell? ⟨c1 + 1, 0, none⟩ = some (.int .i64 ((m : Int) + 1))) := Lib.hid (fun W hW => blk_cell (blk_still HX2.out.k2 hW hne) 0)
                have p0 := Only.refl (fun _ => False) wx
                have p1 := (Only.refl (fun _ => False) wx).drew
                have q0 := Only.refl (fun j => j = r2) wx
                have q1 := (Only.refl (fun j => j = r2) wx).drew
                clear c0 f0 hcx
                generalize hdg : Lib.itoa ((m : Int) + 1) = dg at *
                go_region_held3 (fun w' => w'.cell? ⟨c1 + 1, 0, none⟩ = some (.int .i64 ((m : Int) + 1))) (first | exact HSX.out _ (by assumption)) (first | ((with_reducible refine (HSD.out _ (by assumption)).mono ?_); rintro _ w5 ⟨rfl, n5, o5⟩; have q5 := Only.trans (S := fun j => j = r2) (by assumption) o5 (fun _ _ q => q)) | ((with_reducible refine (HD2.out _).mono ?_); rintro _ w6 ⟨rfl, o6⟩; have q6 := Only.trans (S := fun j => j = r2) (by assumption) o6 (fun _ _ (q : False) => q.elim)))
                all_goals (
                  have HN6 := Lib.hid (n5.still o6)
                  clear p0 p1 q0 q1 q5 q6 n5 o5 o6 HSX HSD
                  go_wp2_with fail
                  go_roundg (gk - 1)
                  case measure => omega
                  case rel => exact ⟨i + 1, n, m + 1, by omega, by go_num, by omega, HN6.out⟩)
            · obtain rfl : i = len := by omega
              have hi1 : ¬ ((i : Int) < (i : Int)) := by omega
              generalize wr = wq at *
              have HT3 : Hid (t2 ≤ wq.heap.size) := Lib.hid (by
                have e1 := HX.out.b3
                have e2 := HX.out.b4
                have e3 := blk_lt HX.out.k1
                omega)
              have HW0 : Hid (w.heap.size ≤ wq.heap.size) := Lib.hid HX.out.root.only.size
              have e1 : ∀ (I : Bytes → Option (Option Nat)) (x : Option Nat), upM I p x p = some x := fun I x => if_pos rfl
              have HU : Hid (upM (upM (fun _ => none) p (some r1)) q (some r2) p = some (some r1)) := Lib.hid (by rw [upM, if_neg HPQ.out, upM, if_pos rfl])
              obtain ⟨I2, hI2⟩ : ∃ I2, upM (upM (fun _ => none) p (some r1)) q (some r2) = I2 := ⟨_, rfl⟩
              rw [hI2] at HU
              have hoff : offM I2 p p = none := if_pos rfl
              have HOFF := Lib.hid hoff
              have HR0 : Hid (RootAt w wq nt st r ma mb t2 I2 2) := Lib.hid (by rw [← hI2]; exact HX.out.root)
              have H1 := Lib.hid (HR0.out.dup HP.out (by rw [HU.out]; rfl))
              have H2 := Lib.hid (fun W (h : RootAt w W nt st r ma mb t2 I2 2) => h.drop HP.out (by rw [HU.out]; rfl))
              have H3 := Lib.hid (fun W (h : RootAt w W nt st r ma mb t2 (offM I2 p) 2) => h.nextNone HP.out HOFF.out)
              have H4 := Lib.hid (fun W (h : RootAt w W nt st r ma mb t2 (offM I2 p) 2) => h.make HP.out HOFF.out (by decide))
              have H5 := Lib.hid (fun W r3 lo hi (h : RootAt w W nt st r ma mb t2 (upM (offM I2 p) p (some r3)) (2 + 1)) (hs : SubAt W lo hi r3 0) (g1 : t2 ≤ lo) (g2 : w.heap.size ≤ lo) => h.next HP.out (if_pos rfl) hs g1 g2 (by decide))
              have H6 := Lib.hid (fun W I ni (h : RootAt w W nt st r ma mb t2 I ni) => h.nextRoot)
              clear HX HL e1 hoff hI2 HR0
              have hfld : ∀ (x y : Value) (W : World), (Instr.field 28 (.agg #[x, y]) 0).run Tryd.prog W = .ok x W := fun x y W => reply_field x y W
              go_wp2_with fail
              (with_reducible refine H1.out.mono ?_)
              rintro _ x1 ⟨rfl, ra1, o1⟩
              have K2 := Lib.hid (H2.out _ ra1)
              have HZ1 := Lib.hid o1.size
              clear ra1 o1 H1 H2
              go_wp2_with fail
              (with_reducible refine K2.out.mono ?_)
              rintro _ x2 ⟨rfl, ra2, o2⟩
              have K3 := Lib.hid (H3.out _ ra2)
              have HZ2 := Lib.hid o2.size
              clear ra2 o2 K2 H3
              go_wp2_with fail
              (with_reducible refine K3.out.mono ?_)
              rintro _ x3 ⟨rfl, ra3, o3⟩
              have K4 := Lib.hid (H4.out _ ra3)
              have HZ3 := Lib.hid o3.size
              clear ra3 o3 K3 H4
              go_wp2_with fail
              (with_reducible refine K4.out.mono ?_)
              rintro _ x4 ⟨rfl, r3, ra4, s4, o4⟩
              have K5 := H5.out _ _ _ _ ra4 s4 (by have := HZ1.out; have := HZ2.out; have := HZ3.out; have := HT3.out; omega) (by have := HZ1.out; have := HZ2.out; have := HZ3.out; have := HW0.out; omega)
              rw [itoa1] at K5
              have K5 := Lib.hid K5
              clear ra4 s4 o4 K4 H5
              go_wp2_with fail
              (with_reducible refine K5.out.mono ?_)
              rintro _ x5 ⟨rfl, ra5, _, o5⟩
              have K6 := Lib.hid (H6.out _ _ _ ra5)
              clear ra5 o5 K5 H6
              go_wp2_with fail
              (with_reducible refine K6.out.mono ?_)
              rintro _ x6 ⟨rfl, ra6, o6⟩
              have HF := Lib.hid ra6.only
              clear ra6 o6 K6
              go_wp2_with fail
              go_ret
              exact ⟨rfl, HF.out⟩
end Go.Proofs.YtlkknekflgclgaaDoor
