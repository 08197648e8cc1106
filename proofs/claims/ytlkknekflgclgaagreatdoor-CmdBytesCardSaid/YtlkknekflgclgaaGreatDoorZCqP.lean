/- Package cmd: requests and entries as bytes, and read: in plain words, and the laws of it. Conditions: none. -/
import Derived.Test.YtlkknekflgclgaaGreatDoorZPackW
import Derived.Test.YtlkknekflgclgaaGreatDoorZCmd9
namespace Go.Proofs.YtlkknekflgclgaaGreatDoor
open Go.RowKit

structure Cq where
  kind : Int
  path : Bytes
  key : Bytes
  val : Bytes
  old : Bytes
deriving DecidableEq
structure ReqQ where
  client : Int
  seq : Int
  cmds : List Cq
deriving DecidableEq
def cmdC (c : Cq) : List Value := [.int .i64 c.kind, str c.path, str c.key, str c.val, str c.old]
/-- A command, a request as bytes. -/
def cmdB (c : Cq) : Bytes := lowB c.kind.toNat 1 ++ (textL c.path ++ (textL c.key ++ (textL c.val ++ textL c.old)))
def reqB (r : ReqQ) : Bytes := lowB (u64N r.client) 8 ++ (lowB (u64N r.seq) 8 ++ (lowB r.cmds.length 1 ++ r.cmds.flatMap cmdB))
/-- May a command be? -/
def okC (c : Cq) : Bool := decide (1 ≤ c.kind ∧ c.kind ≤ 9 ∧ c.path.length ≤ 140 ∧ c.key.length ≤ 3000 ∧ c.val.length ≤ 3000 ∧ c.old.length ≤ 3000)
theorem okC_parts {c : Cq} (h : okC c = true) : 1 ≤ c.kind ∧ c.kind ≤ 9 ∧ c.path.length ≤ 140 ∧ c.key.length ≤ 3000 ∧ c.val.length ≤ 3000 ∧ c.old.length ≤ 3000 := of_decide_eq_true h
/-- Why a request can't be. -/
def checkQ (r : ReqQ) : Int :=
  if r.client < 0 ∨ 1099511627776 < r.client ∨ r.seq < 0 ∨ 1099511627776 < r.seq ∨ r.cmds = [] then 1
  else if 6 < r.cmds.length then 2 else if r.cmds.any (fun c => !okC c) then 1 else if 8000 < (reqB r).length then 2 else 0
def layQ (r : ReqQ) : Bytes × Int := if checkQ r ≠ 0 then ([], checkQ r) else (reqB r, 0)
def entryQ (i t : Int) (r : ReqQ) : Bytes × Int :=
  if i < 0 ∨ 2147483647 < i ∨ t < 0 ∨ 2147483647 < t then ([], 1) else if checkQ r ≠ 0 then ([], checkQ r) else (lowB i.toNat 4 ++ (lowB t.toNat 4 ++ reqB r), 0)
/-- A command, a request is read. -/
def cmdG (g : GetS) : Cq × GetS :=
  (⟨((lowG g 1).1 : Nat), (textG (lowG g 1).2).1, (textG (textG (lowG g 1).2).2).1, (textG (textG (textG (lowG g 1).2).2).2).1, (textG (textG (textG (textG (lowG g 1).2).2).2).2).1⟩, (textG (textG (textG (textG (lowG g 1).2).2).2).2).2)
def cmdsG : Nat → GetS → List Cq × GetS
  | 0, g => ([], g)
  | n + 1, g => ((cmdsG n g).1 ++ [(cmdG (cmdsG n g).2).1], (cmdG (cmdsG n g).2).2)
def reqG (g : GetS) : ReqQ × GetS :=
  (⟨(intG g).1, (intG (intG g).2).1, (cmdsG (lowG (intG (intG g).2).2 1).1 (lowG (intG (intG g).2).2 1).2).1⟩, (cmdsG (lowG (intG (intG g).2).2 1).1 (lowG (intG (intG g).2).2 1).2).2)
def noReq : ReqQ := ⟨0, 0, []⟩
def readQ (b : Bytes) : ReqQ × Int :=
  if (endG (reqG ⟨b, 0⟩).2).e ≠ 0 then (noReq, (endG (reqG ⟨b, 0⟩).2).e) else if layQ (reqG ⟨b, 0⟩).1 ≠ (b, 0) then (noReq, 6) else ((reqG ⟨b, 0⟩).1, 0)
structure EntQ where
  index : Int
  term : Int
  req : ReqQ
def noEnt : EntQ := ⟨0, 0, noReq⟩
def readE (i : Nat) (g : GetS) (b : Bytes) : EntQ × Int :=
  if (lowG g 4).2.e ≠ 0 then (noEnt, (lowG g 4).2.e) else if (readQ (lowG g 4).2.rest).2 ≠ 0 then (noEnt, (readQ (lowG g 4).2.rest).2)
  else if entryQ i (lowG g 4).1 (readQ (lowG g 4).2.rest).1 ≠ (b, 0) then (noEnt, 6) else (⟨i, (lowG g 4).1, (readQ (lowG g 4).2.rest).1⟩, 0)
def readEntryQ (b : Bytes) : EntQ × Int := readE (lowG ⟨b, 0⟩ 4).1 (lowG ⟨b, 0⟩ 4).2 b

theorem numB_lowBq (v n : Nat) : numB (lowB v n) = v % 256 ^ n := by
  induction n with
  | zero => simp [lowB, numB, Nat.mod_one]
  | succ n ih => rw [lowB, numB_app, ih, lowB_length, Nat.mod_pow_succ, UInt8.toNat_ofNat', Nat.mul_comm]
theorem rawG_lay (t x : Bytes) : rawG ⟨t ++ x, 0⟩ (t.length : Int) = (t, ⟨x, 0⟩) := by
  unfold rawG
  rw [if_neg (fun q => q rfl), if_neg (by omega), if_neg (by simp only [List.length_append]; omega)]
  simp
theorem lowG_lay {v n : Nat} (h : v < 256 ^ n) (x : Bytes) : lowG ⟨lowB v n ++ x, 0⟩ n = (v, ⟨x, 0⟩) := by
  have h2 := rawG_lay (lowB v n) x
  rw [lowB_length] at h2
  unfold lowG
  rw [h2]
  simp only [numB_lowBq, Nat.mod_eq_of_lt h]
theorem textG_lay {t : Bytes} (h : t.length < 65536) (x : Bytes) : textG ⟨textL t ++ x, 0⟩ = (t, ⟨x, 0⟩) := by
  unfold textG textL
  rw [List.append_assoc, lowG_lay (by omega)]
  exact rawG_lay t x
theorem intG_lay {v : Int} (h : 0 ≤ v ∧ v ≤ 9223372036854775807) (x : Bytes) : intG ⟨lowB (u64N v) 8 ++ x, 0⟩ = (v, ⟨x, 0⟩) := by
  unfold intG
  rw [lowG_lay (by unfold u64N; omega)]
  have : wrap64 ((u64N v : Nat) : Int) = v := by
    unfold wrap64 u64N
    omega
  simp only [this]
theorem cmdG_lay {c : Cq} (h : okC c = true) (x : Bytes) : cmdG ⟨cmdB c ++ x, 0⟩ = (c, ⟨x, 0⟩) := by
  obtain ⟨h1, h2, h3, h4, h5, h6⟩ := okC_parts h
  unfold cmdG cmdB
  simp only [List.append_assoc]
  rw [lowG_lay (by omega), textG_lay (by omega), textG_lay (by omega), textG_lay (by omega), textG_lay (by omega)]
  have : ((c.kind.toNat : Nat) : Int) = c.kind := by omega
  simp only [this]
theorem cmdsG_lay (l : List Cq) (h : ∀ c ∈ l, okC c = true) (x : Bytes) : cmdsG l.length ⟨l.flatMap cmdB ++ x, 0⟩ = (l, ⟨x, 0⟩) := by
  have key : ∀ k, k ≤ l.length → cmdsG k ⟨l.flatMap cmdB ++ x, 0⟩ = (l.take k, ⟨(l.drop k).flatMap cmdB ++ x, 0⟩) := by
    intro k
    induction k with
    | zero => intro _; simp [cmdsG]
    | succ k ih =>
      intro hk
      have hlt : k < l.length := by omega
      unfold cmdsG
      rw [ih (by omega)]
      have hd : (l.drop k).flatMap cmdB ++ x = cmdB l[k] ++ ((l.drop (k + 1)).flatMap cmdB ++ x) := by
        rw [List.drop_eq_getElem_cons hlt, List.flatMap_cons, List.append_assoc]
      simp only [hd, cmdG_lay (h _ (List.getElem_mem hlt))]
      rw [List.take_succ_eq_append_getElem hlt]
  have := key l.length (Nat.le_refl _)
  simpa using this
/-- What a request that can be is. -/
structure Good (r : ReqQ) : Prop where
  c : 0 ≤ r.client ∧ r.client ≤ 1099511627776
  s : 0 ≤ r.seq ∧ r.seq ≤ 1099511627776
  ne : r.cmds ≠ []
  few : r.cmds.length ≤ 6
  ok : ∀ c ∈ r.cmds, okC c = true
  short : (reqB r).length ≤ 8000
theorem good_of {r : ReqQ} (h : checkQ r = 0) : Good r := by
  unfold checkQ at h
  split at h
  · cases h
  · split at h
    · cases h
    · split at h
      · cases h
      · split at h
        · cases h
        · rename_i h1 h2 h3 h4
          have h1' : ¬ r.client < 0 ∧ ¬ 1099511627776 < r.client ∧ ¬ r.seq < 0 ∧ ¬ 1099511627776 < r.seq ∧ ¬ r.cmds = [] := by
            refine ⟨fun q => h1 (.inl q), fun q => h1 (.inr (.inl q)), fun q => h1 (.inr (.inr (.inl q))), fun q => h1 (.inr (.inr (.inr (.inl q)))), fun q => h1 (.inr (.inr (.inr (.inr q))))⟩
          refine ⟨by omega, by omega, h1'.2.2.2.2, by omega, fun c hc => ?_, by omega⟩
          cases hok : okC c with
          | true => rfl
          | false => exact absurd (List.any_eq_true.2 ⟨c, hc, by rw [hok]; rfl⟩) h3
theorem reqG_lay {r : ReqQ} (h : Good r) (x : Bytes) : reqG ⟨reqB r ++ x, 0⟩ = (r, ⟨x, 0⟩) := by
  obtain ⟨h1, h2, h3, h4, h5, h6⟩ := h
  unfold reqG reqB
  simp only [List.append_assoc]
  rw [intG_lay (by omega), intG_lay (by omega), lowG_lay (by omega)]
  simp only [cmdsG_lay r.cmds h5 x]
theorem readQ_lay {r : ReqQ} (h : checkQ r = 0) : readQ (reqB r) = (r, 0) := by
  have hg := reqG_lay (good_of h) []
  rw [List.append_nil] at hg
  have hl : layQ r = (reqB r, 0) := by unfold layQ; rw [if_neg (by rw [h]; exact fun q => q rfl)]
  unfold readQ
  rw [hg, if_neg (by show ¬ (0 : Int) ≠ 0; decide), if_neg (by rw [hl]; exact fun q => q rfl)]
theorem readQ_more {r : ReqQ} (h : checkQ r = 0) {x : Bytes} (hx : x ≠ []) : (readQ (reqB r ++ x)).2 ≠ 0 := by
  have hg := reqG_lay (good_of h) x
  have he : (endG ⟨x, 0⟩).e = 6 := by
    unfold endG leftG
    have : 0 < x.length := List.length_pos_iff.2 hx
    simp [this]
  unfold readQ
  rw [hg, if_pos (by rw [he]; decide)]
  rw [he]
  decide
theorem readQ_ok {b : Bytes} (h : (readQ b).2 = 0) : ∃ r, checkQ r = 0 ∧ b = reqB r := by
  unfold readQ at h
  split at h
  · rename_i h1; exact absurd h h1
  · split at h
    · cases h
    · rename_i h1 h2
      have h3 : layQ (reqG ⟨b, 0⟩).1 = (b, 0) := Classical.byContradiction h2
      unfold layQ at h3
      split at h3
      · rename_i h4
        exact absurd (congrArg Prod.snd h3) h4
      · rename_i h4
        exact ⟨_, Classical.byContradiction h4, (congrArg Prod.fst h3).symm⟩
theorem readQ_less {r : ReqQ} (h : checkQ r = 0) {b x : Bytes} (hb : reqB r = b ++ x) (hx : x ≠ []) : (readQ b).2 ≠ 0 := by
  intro h2
  obtain ⟨r', h3, rfl⟩ := readQ_ok h2
  have h4 := readQ_more h3 hx
  rw [← hb, readQ_lay h] at h4
  exact h4 rfl
end Go.Proofs.YtlkknekflgclgaaGreatDoor
