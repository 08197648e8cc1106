/- Buckets within buckets, act by act: how many pages, how many items there may be. Conditions: at most sixty acts, values of 30000 bytes together. -/
import Derived.Test.YtbhiamcmiopnoaaGreatDoorZBu22
import Derived.Test.YtbhiamcmiopnoaaGreatDoorZOpL
import Derived.Test.YtbhiamcmiopnoaaGreatDoorZTelB
import Derived.Test.YtbhiamcmiopnoaaGreatDoorZPgS
import Derived.Deep.DeepCutAuto
import Derived.Test.YtbhiamcmiopnoaaGreatDoorZPathX
namespace Go.Proofs.YtbhiamcmiopnoaaGreatDoor
section
open Go.RowKit
def bitsB (n : Nat) : Nat := if n = 0 then 0 else n.log2 + 1
theorem bitsB_lt (n : Nat) : n < 2 ^ bitsB n := by
  unfold bitsB
  split
  · omega
  · exact Nat.lt_log2_self
def roomB : Nat → Nat
  | 0 => 0
  | i + 1 => roomB i + 5 * (2 + 2 * bitsB (i + 1))
theorem roomB_all : ∀ i, i < 60 → roomB i + 30 + 6 * (2 + 2 * bitsB (i + 1)) + 190 ≤ 3998 ∧ bitsB (i + 1) ≤ 11 := by decide +kernel
theorem roomB_end : ∀ i, i < 61 → roomB i + 190 ≤ 3998 := by decide +kernel
theorem madeCs_div (v : Bytes) : (madeCs v).length ≤ v.length / 232 + 1 := by
  unfold madeCs parts
  split
  · simp
  · simp only [List.length_map, List.length_range]
    unfold needN
    split <;> omega
structure Goes (i V : Nat) (S : PSt) (R : Path → Option Rec) (r0 : Rec) : Prop where
  held : Held S R [] []
  at_ : R [] = some r0
  full : Full S R
  len : S.L.length ≤ roomB i + i + V / 232
  given : S.given.length ≤ 4200 * i
  few : ∀ p r, R p = some r → r.l.length ≤ i ∧ r.seq ≤ (i : Int)
theorem roomB_le (i : Nat) : roomB i ≤ roomB (i + 1) := by
  rw [roomB]
  omega
theorem Goes.skip {i V : Nat} {S : PSt} {R : Path → Option Rec} {r0 : Rec} (h : Goes i V S R r0) (u : Nat) : Goes (i + 1) (V + u) S R r0 :=
  ⟨h.held, h.at_, h.full, by have := h.len; have := roomB_le i; have : V / 232 ≤ (V + u) / 232 := Nat.div_le_div_right (by omega); omega, by have := h.given; omega, fun p r hp => by have := h.few p r hp; omega⟩
def oneR : Path → Option Rec := fun q => if q = [] then some noRec else none
theorem Goes.start : Goes 0 0 noPages oneR noRec := by
  have h1 : ∀ p r, oneR p = some r → p = [] ∧ r = noRec := fun p r h => by
    unfold oneR at h
    split at h
    · cases h
      exact ⟨by assumption, rfl⟩
    · cases h
  refine ⟨⟨⟨fun p r h => ?_, ⟨noRec, rfl⟩, fun p r x h hx => ?_, fun p k r h => ?_, fun p r x h hx => ?_, fun p r h => ?_, fun p q r r' hne hp hq => ?_⟩, fun p r h _ j hj => ?_, (fun j hj => by cases hj), rfl, rfl, rfl⟩, rfl, fun j h2 h3 => ?_, Nat.zero_le _, Nat.zero_le _, fun p r h => ?_⟩
  · obtain ⟨rfl, rfl⟩ := h1 p r h
    exact ⟨.none, by decide, by decide, by decide⟩
  · obtain ⟨rfl, rfl⟩ := h1 p r h
    cases hx
  · have := (h1 _ r h).1
    simp at this
  · obtain ⟨rfl, rfl⟩ := h1 p r h
    cases hx
  · obtain ⟨rfl, rfl⟩ := h1 p r h
    simp
  · exact absurd ((h1 p r hp).1.trans (h1 q r' hq).1.symm) hne
  · obtain ⟨rfl, rfl⟩ := h1 p r h
    cases hj
  · simp [noPages] at h3
    omega
  · obtain ⟨rfl, rfl⟩ := h1 p r h
    exact ⟨Nat.le_refl _, by decide⟩
theorem OpTo.few2 {m i : Nat} {S : PSt} {R : Path → Option Rec} {p : Path} {r : Rec} {kind : Int} {key val : Bytes} {S1 : PSt} {R1 : Path → Option Rec} {r1 : Rec} (h : OpTo m S R p r kind key val S1 R1 r1) (hp : R p = some r) (hf : ∀ p r, R p = some r → r.l.length ≤ i ∧ r.seq ≤ (i : Int)) : ∀ q rq, R1 q = some rq → rq.l.length ≤ i + 1 ∧ rq.seq ≤ ((i + 1 : Nat) : Int) := by
  intro q rq hq
  have h0 := hf p r hp
  by_cases hqp : q = p
  · subst hqp
    rw [h.at_] at hq
    cases hq
    refine ⟨?_, by rw [h.seq]; split <;> omega⟩
    by_cases k1 : kind = 1
    · rw [(h.put k1).1]; have := putL_length r.l (madeI S key val); omega
    by_cases k2 : kind = 2
    · rw [h.del k2]; have := dropL_length r.l key; omega
    by_cases k3 : kind = 3
    · rw [(h.made k3).1]; have := putL_length r.l (bktI key noRec); omega
    by_cases k4 : kind = 4
    · rw [(h.gone k4).1]; have := dropL_length r.l key; omega
    rw [h.none k1 k2 k3 k4]; omega
  · have old : R q = some rq → rq.l.length ≤ i + 1 ∧ rq.seq ≤ ((i + 1 : Nat) : Int) := fun hq => by
      have := hf q rq hq
      omega
    by_cases hst : ¬ (p ++ [key] <+: q) ∨ kind ≠ 3 ∧ kind ≠ 4
    · rw [h.stay q hqp hst] at hq
      exact old hq
    · have hpre : p ++ [key] <+: q := Classical.byContradiction fun z => hst (.inl z)
      by_cases k3 : kind = 3
      · by_cases hqk : q = p ++ [key]
        · subst hqk
          rw [(h.made k3).2.1] at hq
          cases hq
          exact ⟨Nat.zero_le _, by show (0 : Int) ≤ _; omega⟩
        · rw [(h.made k3).2.2 q hqp hqk] at hq
          exact old hq
      · have k4 : kind = 4 := Classical.byContradiction fun z => hst (.inr ⟨k3, z⟩)
        rw [(h.gone k4).2 q hpre] at hq
        cases hq
theorem view_few {L L' : List Node} {R R' : Path → Option Rec} {q : Path} {r' : Rec} (h : View L' R' q = View L R q) (hq : R' q = some r') : ∃ r, R q = some r ∧ r'.l.length = r.l.length ∧ r'.seq = r.seq := by
  unfold View at h
  rw [hq] at h
  cases hr : R q with
  | none => rw [hr] at h; cases h
  | some r =>
    rw [hr] at h
    simp only [Option.map_some, Option.some.injEq, Prod.mk.injEq] at h
    have := congrArg List.length h.2
    simp only [List.length_map] at this
    exact ⟨r, rfl, this, h.1⟩
theorem Goes.act {i V : Nat} {S S' : PSt} {R R' : Path → Option Rec} {r0 r' : Rec} {kind : Int} {path key val : Bytes} (h : Goes i V S R r0) (A : ActTo (bitsB (i + 1)) S R kind path key val S' R' r') (hl : S.L.length ≤ 3998) : Goes (i + 1) (V + val.length) S' R' r' := by
  obtain ⟨r, S1, R1, r1, hr, hfe, hact, OP, ST⟩ := A.ex
  have hn := bk.pathP_few path
  have hmul : (bk.pathP path).length * (2 + 2 * bitsB (i + 1)) ≤ 4 * (2 + 2 * bitsB (i + 1)) := Nat.mul_le_mul_right _ hn
  have hcs : (if kind = 1 then (madeCs val).length else 0) ≤ val.length / 232 + 1 := by
    split
    · exact madeCs_div val
    · omega
  have hdiv : V / 232 + val.length / 232 ≤ (V + val.length) / 232 := by
    rw [Nat.le_div_iff_mul_le (by omega), Nat.add_mul]
    have := Nat.div_mul_le_self V 232
    have := Nat.div_mul_le_self val.length 232
    omega
  refine ⟨ST.held, ST.at_, ST.full (OP.full h.full), ?_, ?_, fun p rq hq => ?_⟩
  · have := ST.len
    have := OP.len
    have := h.len
    rw [roomB]
    omega
  · have := ST.given
    have := OP.given
    have := h.given
    have : (bk.pathP path).length * 33 ≤ 4 * 33 := Nat.mul_le_mul_right _ hn
    omega
  · obtain ⟨rq1, h1, h2, h3⟩ := view_few (ST.same p) hq
    have := OP.few2 hr h.few p rq1 h1
    rw [h2, h3]
    exact this
theorem Goes.wants {i V : Nat} {S : PSt} {R : Path → Option Rec} {r0 : Rec} (h : Goes i V S R r0) (hi : i < 60) (hV : V ≤ 30000) :
    bitsB (i + 1) ≤ 11 ∧ (∀ p r, R p = some r → r.l.length + 1 < 2 ^ bitsB (i + 1)) ∧ (∀ p r, R p = some r → r.seq + 1 ≤ 1000000) ∧ S.L.length + 30 + 6 * (2 + 2 * bitsB (i + 1)) ≤ 3998 ∧ S.given.length ≤ 900000 := by
  have h1 := roomB_all i hi
  have h2 := bitsB_lt (i + 1)
  refine ⟨h1.2, fun p r hp => ?_, fun p r hp => ?_, ?_, ?_⟩
  · have := h.few p r hp
    omega
  · have := h.few p r hp
    omega
  · have := h.len
    have : V / 232 ≤ 129 := by omega
    omega
  · have := h.given
    omega
end
section
open Go.RowKit Go.MuLone
set_option maxRecDepth 100000 in
set_option maxHeartbeats 16000000 in
theorem bpages_is (w : World) (hm : MaxAt w) (v : Value) (l : List Opx) (h : RowAt opC 4 w v l) (hn : l.length ≤ 9223372036854775807) (hlen : ∀ x ∈ l, x.path.length ≤ 9223372036854775807 ∧ x.key.length ≤ 9223372036854775807 ∧ x.val.length ≤ 9223372036854775807) :
    Calls Tryz.prog 4 #[v] w fun e w' => e = .returned (.bool true) ∧ Only (fun _ => False) w w' := by
  obtain ⟨a, c, rfl⟩ := bk.row_form h
  have HV := Lib.hid h
  have HM := Lib.hid hm
  have HLT := Lib.hid (Light14_is w _ l h hn hlen)
  unfold Light14Ends at HLT
  have HAl : Hid (∀ W, Only (fun _ => False) w W → Calls Tryz.prog 8 #[] W fun e w' => e = .returned (.bool true) ∧ Only (fun _ => False) W w') := Lib.hid (fun W hW => alive14_is W (HM.out.still hW))
  clear h hm hlen
  go_enter Tryz.func4, Tryz.ntmps4
  go_wp2_with fail
  (with_reducible refine HLT.out.mono ?_)
  rintro e w1 ⟨bl, rfl, hbl, o1⟩
  cases bl with
  | false =>
    have HO1 := Lib.hid o1
    clear o1 hbl HLT
    go_wp2_with fail
    (with_reducible refine (HAl.out _ HO1.out).mono ?_)
    rintro e w2 ⟨rfl, o2⟩
    have HF := Lib.hid (HO1.out.trans o2 (fun _ _ q => q))
    clear o2
    go_wp2_with fail
    go_ret
    exact ⟨rfl, HF.out⟩
  | true =>
    obtain ⟨hl60, hsum⟩ := hbl rfl
    have HO1 := Lib.hid o1
    clear o1 hbl HLT
    go_wp2_with fail
    (with_reducible refine (HAl.out _ HO1.out).mono ?_)
    rintro e w2 ⟨rfl, o2⟩
    have HO2 := Lib.hid (HO1.out.trans o2 (fun _ _ q => q))
    have HFR := Lib.hid (Fresh_is w2)
    clear o2 HO1 HAl
    go_wp2_with fail
    (with_reducible refine HFR.out.mono ?_)
    rintro e w3 ⟨rfl, hp3, o3, hpw3⟩
    generalize hb : w2.heap.size = b at *
    have n4 := Away.new hp3 (.cells #[.int .i64 0, .int .i64 0] 23)
    have o4 := (Only.refl (fun _ => False) w3).alloc (.cells #[.int .i64 0, .int .i64 0] 23)
    have H4 := Lib.hid (And.intro (hp3.still o4) (And.intro (PStep.still hp3.lt o4) n4))
    have HN3 : Hid (∀ W, PStep b w3 W → Only (fun _ => False) w W) := Lib.hid (fun W st => HO2.out.trans (PStep.new o3 (fun k q => by have := hpw3 k q; omega) st).1 (fun _ _ q => q))
    have hlt3 := hp3.lt
    clear hp3 o3 hpw3 n4 o4 HFR
    go_wp2_with fail
    go_loopg [5] l.length (fun gh iv wr => ∃ (i : Nat) (S : PSt) (R : Path → Option Rec) (r0 : Rec), gh + i = l.length ∧ iv = .int .i64 (i : Int) ∧ Goes i (valSum (l.take i)) S R r0 ∧ PagesAt wr b S ∧ PStep b w3 wr ∧ Away wr b w3.heap.size (.cells #[.int .i64 r0.root, .int .i64 r0.seq] 23 (0, 0)))
    case atStart => exact ⟨0, noPages, oneR, noRec, by omega, rfl, by simpa [valSum] using Goes.start, H4.out.1, H4.out.2.1, H4.out.2.2⟩
    case round =>
      obtain ⟨i, S, R, r0, hgk, rfl, hgo, hp, st, hA⟩ := hrel
      have HG := Lib.hid hgo
      have HW := Lib.hid (And.intro hp (And.intro st hA))
      have c0 := blk_cell hA.at_ 0
      have c1 := blk_cell hA.at_ 1
      have y0 := blk_frozen hA.at_ 0
      have y1 := blk_frozen hA.at_ 1
      simp only [List.getElem?_toArray, List.getElem?_cons_zero, List.getElem?_cons_succ] at c0 c1
      clear hgo hp st hA H4
      by_cases hi : i < l.length
      · obtain ⟨x, hx⟩ : ∃ x, l[i]? = some x := ⟨_, List.getElem?_eq_getElem hi⟩
        have hrow := row_only HV.out (HN3.out wr HW.out.2.1) (fun _ _ q => q)
        obtain ⟨g, off, rfl, k0, k1, k2, k3⟩ := row_op hrow hx
        have hone := one_le l x (List.mem_of_getElem? hx)
        have HVS : Hid (valSum (l.take (i + 1)) = valSum (l.take i) + x.val.length) := Lib.hid (by rw [List.take_add_one, hx]; simp [valSum])
        have HVB : Hid (valSum (l.take i) ≤ 30000) := Lib.hid (by
          have h1 := valSum_le l
          have h2 : valSum l = valSum (l.take i) + valSum (l.drop i) := by
            unfold valSum
            rw [← List.sum_append, ← List.map_append, List.take_append_drop]
          omega)
        have hi1 : (i : Int) < (l.length : Int) := by omega
        have hi0 : (0 : Int) ≤ (i : Int) := by omega
        have hwi : IntKind.i64.wrap ((i : Int) + 1) = (i : Int) + 1 := by exact IntWalk.i64_in _ (by omega)
        have HRP := Lib.hid (bk.RPathB_is wr x.path (by omega))
        have HGK := Lib.hid hgk
        have hpl : x.path.length < 1000000 := by omega
        have hkl : x.key.length ≤ 1000000 := by omega
        clear hrow hx hgk
        go_wp2_with fail
        (with_reducible refine HRP.out.mono ?_)
        rintro e w5 ⟨v6, rfl, hr6, o5, _⟩
        obtain ⟨a6, c6, rfl⟩ := bk.row_form hr6
        have hp5 := HW.out.1.still o5
        have st5 := HW.out.2.1.trans (PStep.still HW.out.1.lt o5)
        have A5 := HW.out.2.2.still HW.out.1 o5
        have HW5 := Lib.hid (And.intro hp5 (And.intro st5 A5))
        have c0 := blk_cell A5.at_ 0
        have c1 := blk_cell A5.at_ 1
        have y0 := blk_frozen A5.at_ 0
        have y1 := blk_frozen A5.at_ 1
        simp only [List.getElem?_toArray, List.getElem?_cons_zero, List.getElem?_cons_succ] at c0 c1
        have k0 := (o5.cell (p := ⟨g, off + i * 4, none⟩) (lt_of_cell k0) id).trans k0
        have k1 := (o5.cell (p := ⟨g, off + i * 4 + 1, none⟩) (lt_of_cell k1) id).trans k1
        have k2 := (o5.cell (p := ⟨g, off + i * 4 + 2, none⟩) (lt_of_cell k2) id).trans k2
        have k3 := (o5.cell (p := ⟨g, off + i * 4 + 3, none⟩) (lt_of_cell k3) id).trans k3
        have hwants := HG.out.wants (by omega) HVB.out
        have hS98 : S.L.length ≤ 3998 := by omega
        have HACT : Hid ((x.kind = 3 ∨ x.kind = 4 → (bk.pathP x.path).length < 4) → ∀ W, PagesAt W b S → PStep b w3 W → Calls Tryz.prog 20 #[pagesV b, bktV r0.root r0.seq, .agg #[.int .i64 x.kind, str x.path, str x.key, str x.val]] W fun e w' => ∃ (er root seq : Int) (S' : PSt) (R' : Path → Option Rec) (r' : Rec), e = .returned (.tuple #[bktV root seq, .int .i64 er]) ∧ ((er ≠ 0 ∧ S' = S ∧ R' = R ∧ r' = r0) ∨ (er = 0 ∧ Goes (i + 1) (valSum (l.take i) + x.val.length) S' R' r' ∧ root = r'.root ∧ seq = r'.seq)) ∧ PagesAt w' b S' ∧ PStep b W w') := Lib.hid (fun h34 W hW hst => (Act_is W b (bitsB (i + 1)) S R r0 x.kind x.path x.key x.val (HM.out.still (HN3.out W hst)) hW HG.out.held HG.out.at_ hwants.1 hwants.2.1 hwants.2.2.1 hpl hkl hwants.2.2.2.1 hwants.2.2.2.2 h34).mono fun e w' q => by
          rcases q with ⟨er, q1, q2, q3, q4, q5⟩ | ⟨S', R', r', q1, q2, q3, q4, q5⟩
          · exact ⟨er, _, _, S, R, r0, q3, .inl ⟨q1, rfl, rfl, rfl⟩, q4, q5⟩
          · exact ⟨0, _, _, S', R', r', q2, .inr ⟨rfl, HG.out.act q3 hS98, rfl, rfl⟩, q4, q5⟩)
        unfold pagesV bktV at HACT
        have HSK : Hid (Goes (i + 1) (valSum (l.take (i + 1))) S R r0) := Lib.hid (by rw [HVS.out]; exact HG.out.skip _)
        clear hr6 o5 hp5 st5 A5 HRP HW hwants hS98 hone
        have hkinds : (x.kind = 6 ∨ ((x.kind = 3 ∨ x.kind = 4) ∧ 4 ≤ (bk.pathP x.path).length)) ∨ (x.kind ≠ 6 ∧ (x.kind = 3 ∨ x.kind = 4 → (bk.pathP x.path).length < 4)) := by omega
        generalize hnn : (bk.pathP x.path).length = nn at *
        clear hnn
        rcases hkinds with hskip | ⟨hk6, h34⟩
        · have e6 : x.kind = 6 ∧ (x.kind == 6) = true ∨ x.kind ≠ 6 ∧ (x.kind == 6) = false ∧ (x.kind = 3 ∧ (x.kind == 3) = true ∨ x.kind ≠ 3 ∧ (x.kind == 3) = false ∧ (x.kind == 4) = true) ∧ (nn : Int) ≥ 4 := by
            by_cases h6 : x.kind = 6
            · exact .inl ⟨h6, by simp [h6]⟩
            · have h4 := hskip.resolve_left h6
              refine .inr ⟨h6, by simpa using h6, ?_, by omega⟩
              by_cases h3 : x.kind = 3
              · exact .inl ⟨h3, by simp [h3]⟩
              · exact .inr ⟨h3, by simpa using h3, by simpa using h4.1.resolve_left h3⟩
          clear hskip HACT
          rcases e6 with ⟨_, f6⟩ | ⟨_, f6, ⟨_, f3⟩ | ⟨_, f3, f4⟩, f5⟩
          all_goals
            try have f5' : decide ((nn : Int) ≥ 4) = true := decide_eq_true f5
            try have f5'' : decide (4 ≤ (nn : Int)) = true := decide_eq_true f5
            generalize x.kind = xk at *
            go_wp2_with fail
            go_roundg (gk - 1)
            case measure => have := HGK.out; omega
            case rel => exact ⟨i + 1, S, R, r0, by have := HGK.out; omega, by go_num, HSK.out, HW5.out.1, HW5.out.2.1, HW5.out.2.2⟩
        · have HAC := Lib.hid (HACT.out h34)
          have e6 : (x.kind == 6) = false := by simpa using hk6
          have e34 : (x.kind = 3 ∧ (x.kind == 3) = true ∧ nn < 4) ∨ (x.kind ≠ 3 ∧ (x.kind == 3) = false ∧ (x.kind == 4) = true ∧ nn < 4) ∨ (x.kind ≠ 3 ∧ (x.kind == 3) = false ∧ (x.kind == 4) = false) := by
            by_cases h3 : x.kind = 3
            · exact .inl ⟨h3, by simp [h3], h34 (.inl h3)⟩
            · by_cases h4 : x.kind = 4
              · exact .inr (.inl ⟨h3, by simpa using h3, by simp [h4], h34 (.inr h4)⟩)
              · exact .inr (.inr ⟨h3, by simpa using h3, by simpa using h4⟩)
          have HA := Lib.hid (And.intro (HW5.out.1.still ((Only.refl (fun _ => False) w5).alloc (.cells #[.int .i64 0, .int .i64 0] 23))) (And.intro (HW5.out.2.1.trans (PStep.still HW5.out.1.lt ((Only.refl (fun _ => False) w5).alloc (.cells #[.int .i64 0, .int .i64 0] 23)))) (And.intro (HW5.out.2.2.still HW5.out.1 ((Only.refl (fun _ => False) w5).alloc (.cells #[.int .i64 0, .int .i64 0] 23))) (Away.new HW5.out.1 (.cells #[.int .i64 0, .int .i64 0] 23)))))
          have oa := (Only.refl (fun _ => False) w5).alloc (.cells #[.int .i64 0, .int .i64 0] 23)
          have m0 := (oa.cell (p := ⟨g, off + i * 4, none⟩) (lt_of_cell k0) id).trans k0
          have m1 := (oa.cell (p := ⟨g, off + i * 4 + 1, none⟩) (lt_of_cell k1) id).trans k1
          have m2 := (oa.cell (p := ⟨g, off + i * 4 + 2, none⟩) (lt_of_cell k2) id).trans k2
          have m3 := (oa.cell (p := ⟨g, off + i * 4 + 3, none⟩) (lt_of_cell k3) id).trans k3
          have m4 := (oa.cell (p := ⟨w3.heap.size, 0, none⟩) (lt_of_cell c0) id).trans c0
          have m5 := (oa.cell (p := ⟨w3.heap.size, 1, none⟩) (lt_of_cell c1) id).trans c1
          have h35 : w3.heap.size < w5.heap.size := lt_of_cell c0
          have hbt : b < w3.heap.size := hlt3
          rw [← HVS.out] at HAC
          have HSKx := HSK
          generalize hV1 : valSum (l.take (i + 1)) = V1 at *
          have HV1 := Lib.hid hV1
          clear hV1
          generalize x.kind = xk at *
          clear hk6 h34 oa HACT HSK HVS HVB
          rcases e34 with ⟨rfl, f3, h4⟩ | ⟨_, f3, f4, h4⟩ | ⟨_, f3, f4⟩
          all_goals
            try have f5' : decide ((nn : Int) ≥ 4) = false := decide_eq_false (by omega)
            try have f5'' : decide (4 ≤ (nn : Int)) = false := decide_eq_false (by omega)
            go_upto_region 10 with fail
            go_cut [8, 9] (fun s8 s9 wx => ∃ (g8 : Nat) (er root seq : Int) (S' : PSt) (R' : Path → Option Rec) (r' : Rec), s8 = .pointer (some ⟨g8, 0, none⟩) ∧ s9 = .int .i64 er ∧ ((er ≠ 0 ∧ S' = S ∧ R' = R ∧ r' = r0) ∨ (er = 0 ∧ Goes (i + 1) V1 S' R' r' ∧ root = r'.root ∧ seq = r'.seq)) ∧ PagesAt wx b S' ∧ PStep b w3 wx ∧ Away wx b w3.heap.size (.cells #[.int .i64 r0.root, .int .i64 r0.seq] 23 (0, 0)) ∧ Away wx b g8 (.cells #[.int .i64 root, .int .i64 seq] 23 (0, 0)) ∧ w3.heap.size < g8)
            case first =>
              go_region_law (first
                | (rw [if_pos (by simp [Region.wanted])]; go_simp; (with_reducible refine (HAC.out _ (by first | exact HA.out.1.still (Only.refl _ _).drew) (by first | exact HA.out.2.1.trans (PStep.still HA.out.1.lt (Only.refl _ _).drew))).mono ?_); rintro _ w6 ⟨er, root, seq, S', R', r', rfl, hq, hp6, st6⟩; have D8 := (HA.out.2.2.2.still HA.out.1 (Only.refl _ _).drew).step st6; have D4 := (HA.out.2.2.1.still HA.out.1 (Only.refl _ _).drew).step st6; have d0 := blk_cell D8.at_ 0; have d1 := blk_cell D8.at_ 1; have z0 := blk_frozen D8.at_ 0; have z1 := blk_frozen D8.at_ 1; simp only [List.getElem?_toArray, List.getElem?_cons_zero, List.getElem?_cons_succ] at d0 d1; have hts := two_set hp6 ((HA.out.2.1.trans (PStep.still HA.out.1.lt (Only.refl _ _).drew)).trans st6) D8 (by omega) hbt (.int .i64 root) (.int .i64 seq); have HQ := Lib.hid (And.intro hq (And.intro hts (D4.set hts.2.2.2.1 hts.2.2.2.2 (by omega)))); clear hq hp6 st6 D8 D4 hts)
                | (rw [if_pos (by simp [Region.wanted])]; go_simp; (with_reducible refine (HAC.out _ (by first | exact HW5.out.1.still (Only.refl _ _).drew) (by first | exact HW5.out.2.1.trans (PStep.still HW5.out.1.lt (Only.refl _ _).drew))).mono ?_); rintro _ w6 ⟨er, root, seq, S', R', r', rfl, hq, hp6, st6⟩; have D4 := (HW5.out.2.2.still HW5.out.1 (Only.refl _ _).drew).step st6; have o7 := (Only.refl (fun _ => False) w6).alloc (.cells #[.int .i64 root, .int .i64 seq] 23); have HQ2 := Lib.hid (And.intro hq (And.intro (hp6.still o7) (And.intro (((HW5.out.2.1.trans (PStep.still HW5.out.1.lt (Only.refl _ _).drew)).trans st6).trans (PStep.still hp6.lt o7)) (And.intro (D4.still hp6 o7) (And.intro (Away.new hp6 (.cells #[.int .i64 root, .int .i64 seq] 23)) (show w3.heap.size < w6.heap.size from blk_lt D4.at_)))))); clear hq hp6 st6 D4 o7))
              all_goals
                go_wp2_with fail
                go_meet
                case rel => first | exact ⟨_, _, _, _, _, _, _, rfl, rfl, HQ.out.1, HQ.out.2.1.1, HQ.out.2.1.2.1, HQ.out.2.2, HQ.out.2.1.2.2.1, h35⟩ | exact ⟨_, _, _, _, _, _, _, rfl, rfl, HQ2.out.1, HQ2.out.2.1, HQ2.out.2.2.1, HQ2.out.2.2.2.1, HQ2.out.2.2.2.2.1, HQ2.out.2.2.2.2.2⟩
            case rest =>
              obtain ⟨g8, er, root, seq, S', R', r', rfl, rfl, hq, hpx, stx, D4, D8, hg8⟩ := hcut
              have c0 := blk_cell D4.at_ 0
              have c1 := blk_cell D4.at_ 1
              have y0 := blk_frozen D4.at_ 0
              have y1 := blk_frozen D4.at_ 1
              have e0 := blk_cell D8.at_ 0
              have e1 := blk_cell D8.at_ 1
              simp only [List.getElem?_toArray, List.getElem?_cons_zero, List.getElem?_cons_succ] at c0 c1 e0 e1
              have hts := two_set hpx stx D4 (Nat.le_refl _) hbt (.int .i64 root) (.int .i64 seq)
              have HX := Lib.hid (And.intro hpx (And.intro stx (And.intro D4 hts)))
              clear hpx stx D4 D8 hts HAC HA HW5 m0 m1 m2 m3 m4 m5 k0 k1 k2 k3
              rcases hq with ⟨hne, rfl, rfl, rfl⟩ | ⟨rfl, hgo, hr1, hr2⟩
              · have hz1 : (er == 0) = false := by simpa using hne
                have HSK2 := Lib.hid HSKx.out
                go_wp2_with fail
                go_roundg (gk - 1)
                case measure => have := HGK.out; omega
                case rel => exact ⟨i + 1, _, _, _, by have := HGK.out; omega, by go_num, by rw [HV1.out]; exact HSK2.out, HX.out.1, HX.out.2.1, HX.out.2.2.1⟩
              · have HGO := Lib.hid (And.intro hgo (And.intro hr1 hr2))
                clear hgo hr1 hr2
                go_wp2_with fail
                go_roundg (gk - 1)
                case measure => have := HGK.out; omega
                case rel => exact ⟨i + 1, _, _, _, by have := HGK.out; omega, by go_num, by rw [HV1.out]; exact HGO.out.1, HX.out.2.2.2.1, HX.out.2.2.2.2.1, by rw [← HGO.out.2.1, ← HGO.out.2.2]; exact HX.out.2.2.2.2.2.1⟩
      · obtain rfl : i = l.length := by omega
        have hi1 : ¬ (l.length : Int) < (l.length : Int) := by omega
        have hgo := HG.out
        have hS : S.L.length ≤ 3998 := by
          have h1 := hgo.len
          have h2 := roomB_end l.length (by omega)
          have h3 := valSum_le l
          rw [List.take_length] at h1
          omega
        have hH := hgo.held
        have HID := Lib.hid (BIds_is wr b S R [] r0 HW.out.1 hH hS (fun p r hp => by have := hgo.few p r hp; omega) hgo.at_)
        unfold BIdsEnds at HID
        unfold pagesV bktV at HID
        have hFU := hgo.full
        have HFU := Lib.hid (And.intro hH (And.intro hFU hS))
        have hgl := hgo.given
        have HGL : Hid (S.given.length ≤ 1000000) := Lib.hid (by omega)
        clear hgo hH hFU hS hgl y0 y1
        go_wp2_with fail
        (with_reducible refine HID.out.mono ?_)
        rintro e w5 ⟨v, os, rfl, hoi, hos, hp5, st5⟩
        obtain ⟨vL, vG, hI⟩ := hp5
        have hrv : RowAt intE 1 w5 v (sortI os) := bk.row_own (enc := intE) (k := 1) (fun _ => rfl) (by rw [← intsI_flat]; exact hoi.own)
        have hrG : RowAt intE 1 w5 vG S.given := bk.row_own (enc := intE) (k := 1) (fun _ => rfl) (by rw [← intsI_flat]; exact hI.rowG)
        have hmem : ∀ j : Int, 2 ≤ j → j < (S.L.length : Int) + 2 → (j ∈ sortI os ↔ j ∉ S.given) := fun j h1 h2 => by
          have e1 : j ∈ sortI os ↔ j ∈ os := by unfold sortI; exact (List.mergeSort_perm os _).mem_iff
          rw [e1, hos.2]
          constructor
          · rintro ⟨q, rq, hq, _, hj⟩ hg
            exact HFU.out.1.back q rq hq (fun z => z.1 rfl) j hj hg
          · intro hg
            rcases HFU.out.2.1 j h1 h2 with ⟨q, rq, hq, hj⟩ | hj
            · exact ⟨q, rq, hq, List.nil_prefix, hj⟩
            · exact absurd hj hg
        have hnd := sortI_nodup hos.1
        have hle : (sortI os).length ≤ S.L.length := nodup_lt _ _ hnd fun j hj => by
          have e1 : j ∈ sortI os ↔ j ∈ os := by unfold sortI; exact (List.mergeSort_perm os _).mem_iff
          exact HFU.out.1.under_there ((hos.2 j).1 (e1.1 hj))
        have hris : ∀ k x y, (sortI os)[k]? = some x → (sortI os)[k + 1]? = some y → x < y := fun k x y hx hy => by
          have hs : (sortI os).Pairwise (fun a b => decide (a ≤ b) = true) := by
            unfold sortI
            exact List.pairwise_mergeSort (by intro a b c; simp; omega) (by intro a b; simp; omega) os
          obtain ⟨h1, h2⟩ := List.getElem?_eq_some_iff.1 hx
          obtain ⟨h3, h4⟩ := List.getElem?_eq_some_iff.1 hy
          have h5 := List.pairwise_iff_getElem.1 hs k (k + 1) h1 h3 (by omega)
          have h6 := List.pairwise_iff_getElem.1 hnd k (k + 1) h1 h3 (by omega)
          rw [h2, h4] at h5 h6
          simp at h5
          omega
        have b0 := blk_cell hI.heap 0
        have b2 := blk_cell hI.heap 2
        have b3 := blk_cell hI.heap 3
        have b4 := blk_cell hI.heap 4
        simp only [List.getElem?_toArray, List.getElem?_cons_zero, List.getElem?_cons_succ] at b0 b2 b3 b4
        rw [HFU.out.1.bad] at b3
        rw [HFU.out.1.twice] at b4
        obtain ⟨aL, cL, rfl⟩ := ownsRow_form hI.rowL
        generalize hts : sortI os = ts at *
        obtain ⟨aV, cV, rfl⟩ := bk.row_form hrv
        obtain ⟨aG, cG, rfl⟩ := bk.row_form hrG
        have HR := Lib.hid (And.intro hrv (And.intro hrG (And.intro hmem (And.intro hris hle))))
        have HFIN := Lib.hid (HN3.out w5 (HW.out.2.1.trans st5))
        have hS := HFU.out.2.2
        generalize hLL : S.L.length = N at *
        clear hoi hos st5 hI hrv hrG hmem hnd hle hris hts HID HW HG HFU
        go_wp2_with fail
        go_loopg [12] N (fun gh iv wx => ∃ i : Nat, gh + i = N ∧ iv = .int .i64 ((i : Int) + 2) ∧ Only (fun _ => False) w5 wx)
        case atStart => exact ⟨0, by omega, rfl, Only.refl _ _⟩
        case round =>
          obtain ⟨j, hgj, rfl, oj⟩ := hrel
          have HOJ := Lib.hid oj
          have b0' := (oj.cell (p := ⟨b, 0, none⟩) (lt_of_cell b0) id).trans b0
          have q2 : ∀ p : Grew wr, p.u.cell? ⟨b, 2, none⟩ = some (.slice aG S.given.length cG) := fun p => p.cell ((oj.cell (p := ⟨b, 2, none⟩) (lt_of_cell b2) id).trans b2)
          have hwN : IntKind.i64.wrap ((N : Int) + 2) = (N : Int) + 2 := by exact IntWalk.i64_in _ (by omega)
          have hwj : IntKind.i64.wrap ((j : Int) + 2 + 1) = (j : Int) + 2 + 1 := by exact IntWalk.i64_in _ (by omega)
          have b2' := (oj.cell (p := ⟨b, 2, none⟩) (lt_of_cell b2) id).trans b2
          have HKP : Hid (∀ W W' : World, (W.cell? ⟨b, 2, none⟩ = some (.slice aG S.given.length cG) ∧ Hid (Only (fun _ => False) wr W)) → Only (fun _ => False) W W' → (W'.cell? ⟨b, 2, none⟩ = some (.slice aG S.given.length cG) ∧ Hid (Only (fun _ => False) wr W'))) := Lib.hid (fun W W' hS ho => ⟨(ho.cell (p := ⟨b, 2, none⟩) (lt_of_cell hS.1) id).trans hS.1, Lib.hid (hS.2.out.trans ho (fun _ _ q => q))⟩)
          clear oj
          by_cases hj : j < N
          · have hj1 : (j : Int) + 2 < (N : Int) + 2 := by omega
            have hx := HR.out.2.2.1 ((j : Int) + 2) (by omega) (by omega)
            have hbool : ∃ b1 b2 : Bool, decide (((j : Int) + 2) ∈ ts) = b1 ∧ decide (((j : Int) + 2) ∈ S.given) = b2 ∧ (b1 == b2) = false := by
              by_cases hin : ((j : Int) + 2) ∈ ts
              · exact ⟨true, false, decide_eq_true hin, decide_eq_false (hx.1 hin), rfl⟩
              · exact ⟨false, true, decide_eq_false hin, decide_eq_true (Classical.byContradiction fun z => hin (hx.2 z)), rfl⟩
            obtain ⟨t1, t2, ht1, ht2, ht⟩ := hbool
            have HI1 : Hid (∀ W, (W.cell? ⟨b, 2, none⟩ = some (.slice aG S.given.length cG) ∧ Hid (Only (fun _ => False) wr W)) → Calls Tryz.prog 22 #[.slice aV ts.length cV, .int .i64 ((j : Int) + 2)] W fun e w' => e = .returned (.bool t1) ∧ Only (fun _ => False) W w') := Lib.hid (fun W hW => by
              have := In_is W _ ts ((j : Int) + 2) (row_only HR.out.1 (HOJ.out.trans hW.2.out (fun _ _ q => q)) (fun _ _ q => q)) (by have := HR.out.2.2.2.2; omega)
              rwa [ht1] at this)
            have HI2 : Hid (∀ W, (W.cell? ⟨b, 2, none⟩ = some (.slice aG S.given.length cG) ∧ Hid (Only (fun _ => False) wr W)) → Calls Tryz.prog 22 #[.slice aG S.given.length cG, .int .i64 ((j : Int) + 2)] W fun e w' => e = .returned (.bool t2) ∧ Only (fun _ => False) W w') := Lib.hid (fun W hW => by
              have := In_is W _ S.given ((j : Int) + 2) (row_only HR.out.2.1 (HOJ.out.trans hW.2.out (fun _ _ q => q)) (fun _ _ q => q)) HGL.out
              rwa [ht2] at this)
            have htc : (t1 = true ∧ t2 = false) ∨ (t1 = false ∧ t2 = true) := by
              clear hx ht1 ht2
              cases t1 <;> cases t2 <;> first | exact .inl ⟨rfl, rfl⟩ | exact .inr ⟨rfl, rfl⟩ | exact absurd ht (by decide)
            clear hx ht1 ht2 ht
            rcases htc with ⟨rfl, rfl⟩ | ⟨rfl, rfl⟩
            all_goals
              go_wp2_with fail
              clear q2
              go_region_held3 (fun w' => w'.cell? ⟨b, 2, none⟩ = some (.slice aG S.given.length cG) ∧ Hid (Only (fun _ => False) wr w')) (first | exact ⟨b2', Lib.hid (Only.refl _ _)⟩ | exact ⟨b2', Lib.hid (Only.refl _ _).drew⟩ | exact HKP.out _ _ (by assumption) o6) (first | ((with_reducible refine (HI1.out _ ?hh).mono ?_); (case hh => assumption); rintro _ w6 ⟨rfl, o6⟩) | ((with_reducible refine (HI2.out _ ?hh).mono ?_); (case hh => assumption); rintro _ w6 ⟨rfl, o6⟩))
              rename_i hHE
              have HOP := Lib.hid (HOJ.out.trans hHE.2.out (fun _ _ q => q))
              clear hHE HI1 HI2
              go_wp2_with fail
              go_roundg (gk - 1)
              case measure => omega
              case rel => exact ⟨j + 1, by omega, by go_num, HOP.out⟩
          · obtain rfl : j = N := by omega
            have hj1 : ¬ ((j : Int) + 2 < (j : Int) + 2) := by omega
            clear q2 b2' HKP
            go_wp2_with fail
            generalize wr = wo at *
            go_loopg [13] ts.length (fun gh iv wy => ∃ k : Nat, gh + k = ts.length ∧ iv = .int .i64 ((k : Int) + 1) ∧ Only (fun _ => False) wo wy)
            case atStart => exact ⟨0, by omega, rfl, Only.refl _ _⟩
            case round =>
              obtain ⟨k, hgk2, rfl, hwo⟩ := hrel
              have HOK := Lib.hid (HOJ.out.trans hwo (fun _ _ q => q))
              have HWO := Lib.hid hwo
              clear hwo
              have hwk : IntKind.i64.wrap ((k : Int) + 1 + 1) = (k : Int) + 1 + 1 := by exact IntWalk.i64_in _ (by have := HR.out.2.2.2.2; omega)
              have hwk1 : IntKind.i64.wrap ((k : Int) + 1 - 1) = (k : Int) := by rw [IntWalk.i64_in _ (by have := HR.out.2.2.2.2; omega)]; omega
              have hwk2 : IntKind.i64.wrap (k : Int) = (k : Int) := by exact IntWalk.i64_in _ (by have := HR.out.2.2.2.2; omega)
              by_cases hk : k + 1 < ts.length
              · have hk1 : (k : Int) + 1 < (ts.length : Int) := by omega
                have hk0 : (0 : Int) ≤ (k : Int) + 1 := by omega
                have hk2 : (0 : Int) ≤ (k : Int) := by omega
                have hk3 : (k : Int) < (ts.length : Int) := by omega
                obtain ⟨x, hx⟩ : ∃ x, ts[k]? = some x := ⟨_, List.getElem?_eq_getElem (by omega)⟩
                obtain ⟨y, hy⟩ : ∃ y, ts[k + 1]? = some y := ⟨_, List.getElem?_eq_getElem hk⟩
                have hlt := HR.out.2.2.2.1 k x y hx hy
                have hrow := row_only HR.out.1 HOK.out (fun _ _ q => q)
                obtain ⟨g1, off1, he1, i1⟩ := row_int hrow hx
                cases he1
                obtain ⟨g2, off2, he2, i2⟩ := row_int hrow hy
                cases he2
                have u1 : ∀ p : Grew wr, p.u.cell? ⟨g1, off1 + k, none⟩ = some (.int .i64 x) := fun p => p.cell i1
                have u2 : ∀ p : Grew wr, p.u.cell? ⟨g1, off1 + (k + 1), none⟩ = some (.int .i64 y) := fun p => p.cell i2
                have hyx : decide (y ≤ x) = false := decide_eq_false (by omega)
                have htn : ((k : Int) + 1).toNat = k + 1 := by omega
                clear hx hy hrow hlt
                go_wp2_with fail
                refine wp_region_grew (by kernel_rfl) (by kernel_rfl) (fun _W h0 h1 => ?_)
                repeat (refine h1 _ _ _ (fun K hK => ?_); rw [if_pos (by kernel_rfl)]; go_simp; (refine hK _ ?_; clear hK K))
                refine h0 _ (fun p => ?_)
                clear h0 h1 u1 u2
                have HOP := Lib.hid (HWO.out.trans p.h (fun _ _ q => q))
                generalize p.u = wz at *
                go_wp2_with fail
                go_roundg (gk - 1)
                case measure => omega
                case rel => exact ⟨k + 1, by omega, by go_num, HOP.out⟩
              · have hk1 : ¬ ((k : Int) + 1 < (ts.length : Int)) := by omega
                have HF := Lib.hid (HFIN.out.trans HOK.out (fun _ _ q => q))
                go_wp2_with fail
                go_ret
                exact ⟨rfl, HF.out⟩
end
section
open Go.RowKit Go.ChangeShapes Go.WideShapes Go.Deep
def IsOpl (w : World) (v : Value) (l : List Opx) : Prop := RowAt opC 4 w v l ∧ l.length ≤ 9223372036854775807 ∧ ∀ x ∈ l, x.path.length ≤ 9223372036854775807 ∧ x.key.length ≤ 9223372036854775807 ∧ x.val.length ≤ 9223372036854775807
set_option maxRecDepth 100000 in
theorem opl_of {H : Type} {enc : TypeId × Value → H} {W : World} {r : Reach} {base : Nat} {v : Value} {fuel : Nat} {x : DataW H × List MemPlace} (hval : Cell.okWide Tryz.prog W r base 50 v)
    (hf : DataW.trod enc Tryz.prog W 0 (fun _ => true) true fuel 50 [v] = some x) : ∃ l, IsOpl W v l := by
  rcases open_slice_fields Tryz.underlying50 Tryz.underlying55 (by kernel_rfl) (by kernel_rfl) hf with ⟨hcs, _⟩ | ⟨a, len, cap, m, D, Pl, hcs, _, hl, hc, hm, _, hi⟩
  · simp only [List.cons.injEq, and_true] at hcs
    subst hcs
    exact ⟨[], .none, by simp, fun x hx => by cases hx⟩
  · simp only [List.cons.injEq, and_true] at hcs
    subst hcs
    rw [if_pos rfl] at hm
    obtain ⟨hsp, hlt⟩ := okWide_place Tryz.underlying50 hval
    obtain ⟨g, off, sp⟩ := a
    simp only at hsp hlt
    subst hsp
    have key : ∀ i, i < len → ∃ q : Opx, W.cell? ⟨g, off + i * 4, none⟩ = some (.int .i64 q.kind) ∧ W.cell? ⟨g, off + (i * 4 + 1), none⟩ = some (str q.path) ∧ W.cell? ⟨g, off + (i * 4 + 2), none⟩ = some (str q.key) ∧
        W.cell? ⟨g, off + (i * 4 + 3), none⟩ = some (str q.val) ∧ (q.path.length ≤ 9223372036854775807 ∧ q.key.length ≤ 9223372036854775807 ∧ q.val.length ≤ 9223372036854775807) := by
      intro i hlt
      obtain ⟨ys, n, _, _, _, hf⟩ := hi i (by omega)
      obtain ⟨v0, y0, c0, _, t0⟩ := hf 0 _ rfl
      obtain ⟨v1, y1, c1, _, t1⟩ := hf 1 _ rfl
      obtain ⟨v2, y2, c2, _, t2⟩ := hf 2 _ rfl
      obtain ⟨v3, y3, c3, _, t3⟩ := hf 3 _ rfl
      obtain ⟨q0, e0, _, _⟩ := DataW.trod_int Tryz.underlying3 t0
      obtain ⟨s1, e1, _, w1⟩ := DataW.trod_string Tryz.underlying9 t1
      obtain ⟨s2, e2, _, w2⟩ := DataW.trod_string Tryz.underlying9 t2
      obtain ⟨s3, e3, _, w3⟩ := DataW.trod_string Tryz.underlying9 t3
      simp only [List.cons.injEq, and_true] at e0 e1 e2 e3
      subst e0 e1 e2 e3
      rw [Go.WideShapes.add_plain] at c0 c1 c2 c3
      refine ⟨⟨q0, s1.data.toList, s2.data.toList, s3.data.toList⟩, ?_, ?_, ?_, ?_, ?_⟩
      · rw [Nat.add_zero] at c0
        exact c0
      · exact c1.trans (by simp [str])
      · exact c2.trans (by simp [str])
      · exact c3.trans (by simp [str])
      · have hmx : maxLen = 9223372036854775807 := by decide
        rw [hmx] at w1 w2 w3
        exact ⟨by simpa using w1, by simpa using w2, by simpa using w3⟩
    have hall : ∃ f : Nat → Opx, ∀ i, i < len → W.cell? ⟨g, off + i * 4, none⟩ = some (.int .i64 (f i).kind) ∧ W.cell? ⟨g, off + (i * 4 + 1), none⟩ = some (str (f i).path) ∧ W.cell? ⟨g, off + (i * 4 + 2), none⟩ = some (str (f i).key) ∧
        W.cell? ⟨g, off + (i * 4 + 3), none⟩ = some (str (f i).val) ∧ ((f i).path.length ≤ 9223372036854775807 ∧ (f i).key.length ≤ 9223372036854775807 ∧ (f i).val.length ≤ 9223372036854775807) :=
      ⟨fun i => if h : i < len then (key i h).choose else ⟨0, [], [], []⟩, fun i h => by simp only [dif_pos h]; exact (key i h).choose_spec⟩
    obtain ⟨f, hf⟩ := hall
    have hlen : ((List.range len).map f).length = len := by simp
    have hget : ∀ i x, ((List.range len).map f)[i]? = some x → i < len ∧ x = f i := fun i x hx => by
      have hlt := (List.getElem?_eq_some_iff.1 hx).1
      rw [hlen] at hlt
      rw [List.getElem?_map, List.getElem?_range hlt] at hx
      exact ⟨hlt, (Option.some.inj hx).symm⟩
    refine ⟨(List.range len).map f, ?_, ?_, fun x hx => ?_⟩
    · have := RowAt.some (enc := opC) (k := 4) (w := W) g off cap ((List.range len).map f) fun i x j u hx hu => by
        obtain ⟨hlt, rfl⟩ := hget i x hx
        obtain ⟨c0, c1, c2, c3, _⟩ := hf i hlt
        match j, hu with
        | 0, hu => cases hu; exact c0
        | 1, hu => cases hu; exact c1
        | 2, hu => cases hu; exact c2
        | 3, hu => cases hu; exact c3
        | j + 4, hu => cases hu
      rwa [hlen] at this
    · have : maxLen = 9223372036854775807 := by decide
      omega
    · obtain ⟨k, hk, rfl⟩ := List.mem_map.1 hx
      exact (hf k (List.mem_range.1 hk)).2.2.2.2
end
end Go.Proofs.YtbhiamcmiopnoaaGreatDoor
namespace Go.Proofs.YtbhiamcmiopnoaaGreatDoor.bucketPages
open Go.RowKit
theorem walk (a : Option Addr) (len cap : Nat) (z : List Opx) (w : World) (hm : MaxAt w) (hz : IsOpl w (.slice a len cap) z) :
    Calls Tryz.prog 4 #[.slice a len cap] w fun e w' => e = .returned (.bool true) ∧ Below w.heap.size w w' :=
  (bpages_is w hm _ z hz.1 hz.2.1 hz.2.2).mono fun _ _ hq => ⟨hq.1, hq.2.below (Nat.le_refl _) fun _ _ q => q⟩
end Go.Proofs.YtbhiamcmiopnoaaGreatDoor.bucketPages
