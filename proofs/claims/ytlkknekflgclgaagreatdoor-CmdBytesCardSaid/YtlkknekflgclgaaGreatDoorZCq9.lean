/- CmdBack: entries read as they were laid, in plain words. Conditions: none. -/
import Derived.Test.YtlkknekflgclgaaGreatDoorZCq8
import Derived.Test.YtlkknekflgclgaaGreatDoorZCmdAl
namespace Go.Proofs.YtlkknekflgclgaaGreatDoor
open Go.RowKit Go.MuLone

theorem entryQ_ok {i t : Int} {r : ReqQ} (h : (entryQ i t r).2 = 0) : (0 ≤ i ∧ i ≤ 2147483647) ∧ (0 ≤ t ∧ t ≤ 2147483647) ∧ checkQ r = 0 ∧ entryQ i t r = (lowB i.toNat 4 ++ (lowB t.toNat 4 ++ reqB r), 0) := by
  unfold entryQ at h ⊢
  split at h
  · cases h
  · rename_i h1
    split at h
    · rename_i h2; exact absurd h h2
    · rename_i h2
      have h3 : checkQ r = 0 := Classical.byContradiction h2
      rw [if_neg h1, if_neg h2]
      exact ⟨by omega, by omega, h3, rfl⟩
theorem entryQ_bad {i t : Int} {r : ReqQ} (h : (entryQ i t r).2 ≠ 0) : (entryQ i t r).1 = [] ∧ (checkQ r = (entryQ i t r).2 ∨ (entryQ i t r).2 = 1) := by
  unfold entryQ at h ⊢
  split at h
  · rename_i h1
    rw [if_pos h1]
    exact ⟨rfl, .inr rfl⟩
  · rename_i h1
    split at h
    · rename_i h2
      rw [if_neg h1, if_pos h2]
      exact ⟨rfl, .inl rfl⟩
    · exact absurd rfl h
theorem readE_at {i t : Int} (hi : 0 ≤ i ∧ i ≤ 2147483647) (ht : 0 ≤ t ∧ t ≤ 2147483647) (x b : Bytes) (hb : b = lowB i.toNat 4 ++ (lowB t.toNat 4 ++ x)) :
    readEntryQ b = if (readQ x).2 ≠ 0 then (noEnt, (readQ x).2) else if entryQ i t (readQ x).1 ≠ (b, 0) then (noEnt, 6) else (⟨i, t, (readQ x).1⟩, 0) := by
  have h1 : lowG ⟨b, 0⟩ 4 = (i.toNat, ⟨lowB t.toNat 4 ++ x, 0⟩) := by rw [hb]; exact lowG_lay (by omega) _
  have h2 : lowG ⟨lowB t.toNat 4 ++ x, 0⟩ 4 = (t.toNat, ⟨x, 0⟩) := lowG_lay (by omega) _
  have e1 : ((i.toNat : Nat) : Int) = i := by omega
  have e2 : ((t.toNat : Nat) : Int) = t := by omega
  unfold readEntryQ
  rw [h1]
  unfold readE
  dsimp only
  rw [h2]
  dsimp only
  rw [if_neg (fun q => q rfl), e1, e2]
theorem back_same {i t : Int} {r : ReqQ} (h : (entryQ i t r).2 = 0) : readEntryQ (entryQ i t r).1 = (⟨i, t, r⟩, 0) := by
  obtain ⟨hi, ht, hc, he⟩ := entryQ_ok h
  rw [readE_at hi ht (reqB r) (entryQ i t r).1 (by rw [he]), readQ_lay hc, if_neg (fun q => q rfl), if_neg]
  intro q
  exact q (by rw [he])
set_option maxHeartbeats 2000000 in
theorem back_more {i t : Int} {r : ReqQ} (h : (entryQ i t r).2 = 0) {more : Bytes} (hm : more ≠ []) : (readEntryQ ((entryQ i t r).1 ++ more)).2 ≠ 0 := by
  obtain ⟨hi, ht, hc, he⟩ := entryQ_ok h
  have h2 := readQ_more hc hm
  have h3 : (entryQ i t r).1 ++ more = lowB i.toNat 4 ++ (lowB t.toNat 4 ++ (reqB r ++ more)) := by
    have he1 : (entryQ i t r).1 = lowB i.toNat 4 ++ (lowB t.toNat 4 ++ reqB r) := by rw [he]
    generalize (entryQ i t r).1 = s at he1
    generalize reqB r = rb at *
    rw [he1, List.append_assoc, List.append_assoc]
  have h4 := readE_at hi ht (reqB r ++ more) _ h3
  rw [if_pos h2] at h4
  intro q
  rw [h4] at q
  dsimp only at q
  exact h2 q
theorem reqB_long (r : ReqQ) : 17 ≤ (reqB r).length := by
  unfold reqB
  simp only [List.length_append, lowB_length]
  omega
theorem back_len {i t : Int} {r : ReqQ} (h : (entryQ i t r).2 = 0) : (entryQ i t r).1.length = 8 + (reqB r).length ∧ (entryQ i t r).1.drop 8 = reqB r ∧ (reqB r).length ≤ 8000 := by
  obtain ⟨hi, ht, hc, he⟩ := entryQ_ok h
  rw [he]
  refine ⟨by simp only [List.length_append, lowB_length]; omega, ?_, (good_of hc).short⟩
  rw [← List.append_assoc]
  exact List.drop_left' (by simp only [List.length_append, lowB_length])
theorem back_less {i t : Int} {r : ReqQ} (h : (entryQ i t r).2 = 0) : (readEntryQ ((entryQ i t r).1.take ((entryQ i t r).1.length - 1))).2 ≠ 0 := by
  obtain ⟨hi, ht, hc, he⟩ := entryQ_ok h
  have hl := reqB_long r
  rcases List.eq_nil_or_concat (reqB r) with hnil | ⟨y, z, hyz⟩
  · rw [hnil] at hl
    simp at hl
  have h2 := readQ_less hc (by rw [hyz]; exact List.concat_eq_append) (show [z] ≠ [] by simp)
  have hb : (entryQ i t r).1.take ((entryQ i t r).1.length - 1) = lowB i.toNat 4 ++ (lowB t.toNat 4 ++ y) := by
    have h3 : (entryQ i t r).1 = (lowB i.toNat 4 ++ (lowB t.toNat 4 ++ y)) ++ [z] := by
      rw [congrArg Prod.fst he, hyz, List.concat_eq_append, List.append_assoc, List.append_assoc]
    rw [h3]
    exact List.take_left' (by simp only [List.length_append, List.length_cons, List.length_nil]; omega)
  rw [hb, readE_at hi ht y _ rfl, if_pos h2]
  exact h2
theorem build_ent (i t c s : Int) (a : Option Addr) (n cap : Nat) (w : World) : (Instr.build 57 #[(0, .int .i64 i), (1, .int .i64 t), (2, .agg #[.int .i64 c, .int .i64 s, .slice a n cap])]).run Tryz.prog w = .ok (.agg #[.int .i64 i, .int .i64 t, .int .i64 c, .int .i64 s, .slice a n cap]) w := by kernel_rfl
theorem wpList_build_ent (w : World) {ops : Array Oper} {rest : List Oper} {o : Oper} {ac : Act} {Q : Exit → Act → World → Prop} (hgd : o.guard = none) (x y z : Operand) (ho : o.op = .build 57 #[(0, x), (1, y), (2, z)]) (i t c s : Int) (a : Option Addr) (n cap : Nat) (hx : ac.eval x = .int .i64 i) (hy : ac.eval y = .int .i64 t) (hz : ac.eval z = .agg #[.int .i64 c, .int .i64 s, .slice a n cap])
    (h : wpList Tryz.prog ops Q rest (ac.put o.dst (.agg #[.int .i64 i, .int .i64 t, .int .i64 c, .int .i64 s, .slice a n cap])) w) : wpList Tryz.prog ops Q (o :: rest) ac w := by
  refine wpList_plain hgd fun K hK => ?_
  have hb := build_ent i t c s a n cap w
  unfold Oper.wp execOp
  simp only [ho, List.map_toArray, List.map_cons, List.map_nil, hx, hy, hz, Sem.run_bind, hb, Result.andThen_ok]
  exact hK _ _ h
end Go.Proofs.YtlkknekflgclgaaGreatDoor
