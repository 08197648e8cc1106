/- Two trees' pages beside each other in memory, and rows of items beside them. Conditions: one goroutine. -/
import Derived.Test.YtcjaokmodicikaaZAlive12
import Derived.Test.YtcjaokmodicikaaZAct12
import Derived.Test.YtcjaokmodicikaaZSame
import Derived.Test.YtcjaokmodicikaaZPlain14
import Derived.Laws.OwnMore
import Derived.Deep.MidRow
namespace Go.Proofs.Ytcjaokmodicikaa
open Go.RowKit

/-- Two pages' memory, neither the other's; both made since w. -/
structure Two14 (w wr : World) (p q : Nat) (Sp Sq : PSt) : Prop where
  hp : PagesAt wr p Sp
  hq : PagesAt wr q Sq
  only : Only (fun _ => False) w wr
  fp : ∀ j, pown wr p j → w.heap.size ≤ j
  fq : ∀ j, pown wr q j → w.heap.size ≤ j
  dis : ∀ j, pown wr p j → ¬ pown wr q j
theorem PagesAt.beside {w w' : World} {b : Nat} {S : PSt} {T : Nat → Prop} (h : PagesAt w b S) (ho : Only T w w') (hT : ∀ k, pown w b k → ¬ T k) : PagesAt w' b S := by
  obtain ⟨vL, vG, h⟩ := h
  exact ⟨vL, vG, h.beside ho hT⟩
theorem Two14.swap {w wr : World} {p q : Nat} {Sp Sq : PSt} (h : Two14 w wr p q Sp Sq) : Two14 w wr q p Sq Sp := ⟨h.hq, h.hp, h.only, h.fq, h.fp, fun j a b => h.dis j b a⟩
theorem Two14.left {w wr w' : World} {p q : Nat} {Sp Sq Sp' : PSt} (h : Two14 w wr p q Sp Sq) (s : PStep p wr w') (hp : PagesAt w' p Sp') : Two14 w w' p q Sp' Sq := by
  have hq : w'.heap[q]? = wr.heap[q]? := s.only.block q h.hq.lt fun e => h.dis q e (.inl rfl)
  have hn := PStep.new h.only h.fp s
  refine ⟨hp, h.hq.beside s.only fun k a b => h.dis k b a, hn.1, hn.2, fun j a => h.fq j ((pown_of_heap hq j).1 a), fun j a b => ?_⟩
  have b' := (pown_of_heap hq j).1 b
  rcases s.own j a with c | c
  · exact h.dis j c b'
  · have := pown_lt h.hq b'
    omega
theorem Two14.right {w wr w' : World} {p q : Nat} {Sp Sq Sq' : PSt} (h : Two14 w wr p q Sp Sq) (s : PStep q wr w') (hq : PagesAt w' q Sq') : Two14 w w' p q Sp Sq' := (h.swap.left s hq).swap
theorem Two14.still {w wr w' : World} {p q : Nat} {Sp Sq : PSt} (h : Two14 w wr p q Sp Sq) (ho : Only (fun _ => False) wr w') : Two14 w w' p q Sp Sq :=
  h.left (PStep.still h.hp.lt ho) (h.hp.still ho)

/-- A row of items of the call's own, neither pages'. -/
structure Mine14 (w wr : World) (p q : Nat) (v : Value) (l : List Item) : Prop where
  own : wr.ownsRow 0 35 3 v l.length (l.flatMap itemC)
  new : ∀ j, v.ownBlock = some j → w.heap.size ≤ j
  np : ∀ j, v.ownBlock = some j → ¬ pown wr p j
  nq : ∀ j, v.ownBlock = some j → ¬ pown wr q j
section
variable {w wr w' : World} {p q : Nat} {v : Value} {l : List Item} {Sp Sq : PSt}
theorem Mine14.nil (w wr : World) (p q : Nat) : Mine14 w wr p q (.slice none 0 0) [] := ⟨⟨rfl, .inl ⟨rfl, rfl⟩⟩, (fun j hj => by cases hj), (fun j hj => by cases hj), fun j hj => by cases hj⟩
theorem Mine14.row (h : Mine14 w wr p q v l) : RowAt itemC 3 wr v l := row_own (fun _ => rfl) h.own
theorem Mine14.rowC (h : Mine14 w wr p q v l) : RowC itemC 3 wr v l := ⟨h.row, cap_own h.own⟩
theorem Mine14.left {Sp' : PSt} (h : Mine14 w wr p q v l) (H : Two14 w wr p q Sp Sq) (s : PStep p wr w') (_hp : PagesAt w' p Sp') : Mine14 w w' p q v l := by
  have hq : w'.heap[q]? = wr.heap[q]? := s.only.block q H.hq.lt fun e => H.dis q e (.inl rfl)
  refine ⟨own_only h.own s.only h.np, h.new, fun j hj a => ?_, fun j hj a => h.nq j hj ((pown_of_heap hq j).1 a)⟩
  rcases s.own j a with c | c
  · exact h.np j hj c
  · have := (h.own.lt j hj).2
    omega
theorem Mine14.swap (h : Mine14 w wr p q v l) : Mine14 w wr q p v l := ⟨h.own, h.new, h.nq, h.np⟩
theorem Mine14.right {Sq' : PSt} (h : Mine14 w wr p q v l) (H : Two14 w wr p q Sp Sq) (s : PStep q wr w') (hq : PagesAt w' q Sq') : Mine14 w w' p q v l := (h.swap.left H.swap s hq).swap
theorem Mine14.still (h : Mine14 w wr p q v l) (H : Two14 w wr p q Sp Sq) (ho : Only (fun _ => False) wr w') : Mine14 w w' p q v l := h.left H (PStep.still H.hp.lt ho) (H.hp.still ho)
/-- Another row is changed. -/
theorem Mine14.other {T : Nat → Prop} (h : Mine14 w wr p q v l) (H : Two14 w wr p q Sp Sq) (ho : Only T wr w') (hT : ∀ j, v.ownBlock = some j → ¬ T j) (hp : ∀ j, T j → ¬ pown wr p j ∧ ¬ pown wr q j) : Mine14 w w' p q v l := by
  have h1 : w'.heap[p]? = wr.heap[p]? := ho.block p H.hp.lt fun e => (hp p e).1 (.inl rfl)
  have h2 : w'.heap[q]? = wr.heap[q]? := ho.block q H.hq.lt fun e => (hp q e).2 (.inl rfl)
  exact ⟨own_only h.own ho hT, h.new, fun j hj a => h.np j hj ((pown_of_heap h1 j).1 a), fun j hj a => h.nq j hj ((pown_of_heap h2 j).1 a)⟩
theorem Two14.other {T : Nat → Prop} (H : Two14 w wr p q Sp Sq) (ho : Only T wr w') (hn : ∀ j, T j → w.heap.size ≤ j) (hp : ∀ j, T j → ¬ pown wr p j ∧ ¬ pown wr q j) : Two14 w w' p q Sp Sq := by
  have h1 : w'.heap[p]? = wr.heap[p]? := ho.block p H.hp.lt fun e => (hp p e).1 (.inl rfl)
  have h2 : w'.heap[q]? = wr.heap[q]? := ho.block q H.hq.lt fun e => (hp q e).2 (.inl rfl)
  exact ⟨H.hp.beside ho fun k a b => (hp k b).1 a, H.hq.beside ho fun k a b => (hp k b).2 a, H.only.trans ho fun i hi c => by have := hn i c; omega,
    fun j a => H.fp j ((pown_of_heap h1 j).1 a), fun j a => H.fq j ((pown_of_heap h2 j).1 a), fun j a b => H.dis j ((pown_of_heap h1 j).1 a) ((pown_of_heap h2 j).1 b)⟩
theorem Mine14.mine_blocks (h : Mine14 w wr p q v l) : ∀ j, v.ownBlock = some j → ¬ pown wr p j ∧ ¬ pown wr q j := fun j hj => ⟨h.np j hj, h.nq j hj⟩
end

theorem set_cells3 (l : List Item) (k : Nat) (z : Item) (hk : k < l.length) : ((((l.flatMap itemC).set (k * 3) (str z.key)).set (k * 3 + 1) (str z.val)).set (k * 3 + 2) (.int .i64 z.kind)) = (l.set k z).flatMap itemC := by
  induction l generalizing k with
  | nil => simp at hk
  | cons a l ih =>
    cases k with
    | zero => rfl
    | succ k =>
      have := ih k (by simpa using hk)
      rw [List.flatMap_cons, List.set_cons_succ, List.flatMap_cons, ← this]
      have e0 : (k + 1) * 3 = k * 3 + 3 := by omega
      have hl : (itemC a).length = 3 := rfl
      rw [e0, List.set_append_right _ _ (by rw [hl]; omega), List.set_append_right _ _ (by rw [hl]; omega), List.set_append_right _ _ (by rw [hl]; omega), hl]
      rw [show k * 3 + 3 - 3 = k * 3 by omega, show k * 3 + 3 + 1 - 3 = k * 3 + 1 by omega, show k * 3 + 3 + 2 - 3 = k * 3 + 2 by omega]

section
variable {w wr W wx : World} {p q : Nat} {v v' : Value} {l : List Item} {Sp Sq : PSt}
/-- One more item behind a row of the call's own. -/
theorem Mine14.grow (h : Mine14 w wr p q v l) (H : Two14 w wr p q Sp Sq) (ho : Only (fun _ => False) wr W) (x : Item) (own : wx.ownsRow 0 35 3 v' (l.length + 1) (l.flatMap itemC ++ itemC x)) (gr : W.grownBy wx v.ownBlock) (mv : Moved W v v') :
    Two14 w wx p q Sp Sq ∧ Mine14 w wx p q v' (l ++ [x]) := by
  have HW := H.still ho
  have hW := h.still H ho
  have hx : Only (fun j => v.ownBlock = some j) W wx := (Only.refl _ W).grown gr fun k _ e => e
  have h1 : wx.heap[p]? = W.heap[p]? := hx.block p HW.hp.lt fun e => hW.np p e (.inl rfl)
  have h2 : wx.heap[q]? = W.heap[q]? := hx.block q HW.hq.lt fun e => hW.nq q e (.inl rfl)
  refine ⟨HW.other hx (fun j e => hW.new j e) (fun j e => hW.mine_blocks j e), ⟨?_, fun j hj => ?_, fun j hj a => ?_, fun j hj a => ?_⟩⟩
  · rw [List.length_append, List.flatMap_append]
    simpa using own
  · rcases mv j hj with e | e
    · exact hW.new j e
    · have := HW.only.size; omega
  · have a' := (pown_of_heap h1 j).1 a
    rcases mv j hj with e | e
    · exact hW.np j e a'
    · have := pown_lt HW.hp a'; omega
  · have a' := (pown_of_heap h2 j).1 a
    rcases mv j hj with e | e
    · exact hW.nq j e a'
    · have := pown_lt HW.hq a'; omega
/-- Cells of a row of the call's own are others. -/
theorem Mine14.written {g c n : Nat} {l' : List Item} (h : Mine14 w wr p q (.slice (some ⟨g, 0, none⟩) n c) l) (H : Two14 w wr p q Sp Sq) (hn : l'.length = l.length) (own : wx.ownsRow 0 35 3 (.slice (some ⟨g, 0, none⟩) n c) l.length (l'.flatMap itemC)) (ho : Only (fun j => j = g) wr wx) :
    Two14 w wx p q Sp Sq ∧ Mine14 w wx p q (.slice (some ⟨g, 0, none⟩) n c) l' := by
  have h1 : wx.heap[p]? = wr.heap[p]? := ho.block p H.hp.lt fun e => h.np g rfl (.inl e.symm)
  have h2 : wx.heap[q]? = wr.heap[q]? := ho.block q H.hq.lt fun e => h.nq g rfl (.inl e.symm)
  refine ⟨H.other ho (fun j e => by rw [e]; exact h.new g rfl) (fun j e => by rw [e]; exact h.mine_blocks g rfl), ⟨by rw [hn]; exact own, h.new, fun j hj a => h.np j hj ((pown_of_heap h1 j).1 a), fun j hj a => h.nq j hj ((pown_of_heap h2 j).1 a)⟩⟩
end

/-- A new row of the call's own. -/
theorem Mine14.fresh {w wr wx : World} {p q : Nat} {v' : Value} {l : List Item} {Sp Sq : PSt} (H : Two14 w wr p q Sp Sq) (own : wx.ownsRow 0 35 3 v' l.length (l.flatMap itemC)) (ho : Only (fun _ => False) wr wx) (hn : ∀ j, v'.ownBlock = some j → wr.heap.size ≤ j) : Mine14 w wx p q v' l := by
  have HX := H.still ho
  have h1 := ho.block p H.hp.lt id
  have h2 := ho.block q H.hq.lt id
  refine ⟨own, fun j hj => ?_, fun j hj a => ?_, fun j hj a => ?_⟩
  · have := hn j hj; have := H.only.size; omega
  · have := pown_lt H.hp ((pown_of_heap h1 j).1 a); have := hn j hj; omega
  · have := pown_lt H.hq ((pown_of_heap h2 j).1 a); have := hn j hj; omega
theorem wpList_append_any {P : Program} (w : World) {ops : Array Oper} {rest : List Oper} {o : Oper} {a : Act} {Q : Exit → Act → World → Prop} (hgd : o.guard = none) (s x : Operand) (t : TypeId)
    (ho : o.op = .call { callee := .builtin .append, args := #[s, x], argTypes := #[t, t] })
    (e : TypeId) (i : TypeInfo) (z : Value) (size bytes : Nat) (ht : P.underlying t = some (.slice e)) (hi : P.info? e = some i) (hz : i.zero = some z)
    (hsize : i.size = size) (hby : i.bytes = bytes) (hzs : z.cells.size = size) (hsz : 0 < size)
    (v : Value) (n : Nat) (xs : List Value) (hs : a.eval s = v) (hown : w.ownsRow 0 e size v n xs)
    (ao : Option Addr) (m c : Nat) (news : List Value) (hx : a.eval x = .slice ao m c) (hl : news.length = m * size) (hnone : ao = none → m = 0 ∧ c = 0)
    (hnews : ∀ ad, ao = some ad → ∀ j u, news[j]? = some u → w.cell? (ad.add j) = some u) (h1 : ∀ u ∈ news, u.oneCell' = true)
    (h63 : n + m ≤ maxLen) (hbytes : (n + m) * bytes ≤ 140737488355328)
    (h : ∀ a' c' w', w'.ownsRow 0 e size (.slice a' (n + m) c') (n + m) (xs ++ news) → w.grownBy w' v.ownBlock → Moved w v (.slice a' (n + m) c') → wpList P ops Q rest (a.put o.dst (.slice a' (n + m) c')) w') : wpList P ops Q (o :: rest) a w := by
  cases ao with
  | some ad => exact wpList_append_moved w hgd s x t ho e i z size bytes ht hi hz hsize hby hzs hsz v n xs hs hown ad m c news hx hl (hnews ad rfl) h1 h63 hbytes h
  | none =>
    obtain ⟨rfl, rfl⟩ := hnone rfl
    have hnn : news = [] := List.eq_nil_of_length_eq_zero (by simpa using hl)
    subst hnn
    refine wpList_plain hgd fun K hK => ?_
    have hrun := run_append_owned_none (P := P) w 0 t o.type e i size ht hi v n xs hown
    obtain ⟨a', c', rfl⟩ := ownsRow_form hown
    unfold Oper.wp execOp
    simp only [ho, resolve, invoke, builtin, Sem.run_bind, Sem.run_pure, Result.andThen_ok, List.map_toArray, List.map_cons, List.map_nil, hs, hx, hrun]
    have h2 := h a' c' w
    simp only [Nat.add_zero, List.append_nil] at h2
    exact hK _ _ (h2 hown ⟨rfl, rfl, rfl, Nat.le_refl _, fun _ _ _ => rfl⟩ (fun k hk => .inl hk))
/-- A put as an act. -/
theorem act_put {S : PSt} {root : Int} {h : List Item} {k : Nat} (H : PlaysTo S root h k) (hk : k < 250) {y : Item} (hy : okItem y = true) : ∃ r S', actP S root ⟨1, y⟩ = (r, S') ∧ PlaysTo S' r (putL h y) (k + 1) := by
  have h1 := act_plays H hk ⟨1, y⟩
  have h2 : actL h ⟨1, y⟩ = putL h y := by unfold actL; rw [if_neg (by simp), if_pos hy]
  rw [h2] at h1
  exact ⟨_, _, rfl, h1⟩
theorem place_pos {o r : Int} {n : Nat} (h : o.tmod (n : Int) = r) (hn : 0 < n) : 0 ≤ r + (n : Int) := by
  have h3 := Int.tmod_lt_of_pos (-o) (show (0 : Int) < n by omega)
  rw [Int.neg_tmod] at h3
  omega
/-- A place out of a number, whichever it is. -/
theorem place14 (o : Int) (n : Nat) (hn : 0 < n) (hs : n ≤ 80) : ∃ (r : Int) (x : Nat), o.tmod (n : Int) = r ∧ IntKind.i64.wrap r = r ∧ IntKind.i64.wrap (r + (n : Int)) = r + (n : Int) ∧ (r + (n : Int)).tmod (n : Int) = (x : Int) ∧ IntKind.i64.wrap (x : Int) = (x : Int) ∧ x < n ∧ -80 ≤ r ∧ r ≤ 80 := by
  have h1 : -(n : Int) < o.tmod (n : Int) ∧ o.tmod (n : Int) < n := by
    have h2 := Int.tmod_lt_of_pos o (show (0 : Int) < n by omega)
    refine ⟨?_, h2⟩
    have h3 := Int.tmod_lt_of_pos (-o) (show (0 : Int) < n by omega)
    rw [Int.neg_tmod] at h3
    omega
  refine ⟨o.tmod n, ((o.tmod n + n).tmod n).toNat, rfl, IntWalk.i64_in _ (by omega), IntWalk.i64_in _ (by omega), ?_, ?_, ?_, by omega, by omega⟩
  all_goals
    have h4 := Int.tmod_lt_of_pos (o.tmod n + n) (show (0 : Int) < n by omega)
    have h5 : 0 ≤ (o.tmod (n : Int) + n).tmod n := Int.tmod_nonneg _ (by omega)
    first | omega | exact IntWalk.i64_in _ (by omega)

/-- An item is stored in a row of the call's own, in a region that draws its order. -/
theorem step_store_item (w : World) {ops : Array Oper} {o : Oper} {a : Act} {K : Act → World → Prop} {Q : Exit → Act → World → Prop} {E : Prop} (hgd : o.guard = none) (x y : Operand) (ho : o.op = .store 35 x y) (g n c i : Nat) (l : List Item) (z : Item) (hl : l.length = n) (hi : i < n)
    (own : w.ownsRow 0 35 3 (.slice (some ⟨g, 0, none⟩) n c) n (l.flatMap itemC)) (hx : a.eval x = .pointer (some ⟨g, i * 3, none⟩)) (hy : a.eval y = itemV z)
    (h : ∀ w', w'.ownsRow 0 35 3 (.slice (some ⟨g, 0, none⟩) n c) n ((l.set i z).flatMap itemC) → Only (fun j => j = g) w w' → K (a.put o.dst undef) w') :
    if Region.wanted o (yielded ops a.tmps) = true then o.wp Try.prog a w K Q else E := by
  obtain ⟨i0, hi0, hz0, hz1, hz2⟩ := info_parts itemInfo
  have hw : Region.wanted o (yielded ops a.tmps) = true := by simp [Region.wanted, hgd]
  rw [if_pos hw]
  subst hl
  have hfl := flatI_length l
  refine wp_store_mid 35 x y ho g (i * 3) (itemC z).toArray hx hy (fun j hj => ?_) (by rw [hi0]; simp [hz1, itemC]) (by simp [itemC, Value.oneCell', str]) ?_
  · have hj3 : j < 3 := hj
    have hc := own_cell own (i * 3 + j) _ (List.getElem?_eq_getElem (by omega))
    exact ⟨by rw [hc]; rfl, own_frozen own _⟩
  · have h1 := own_set (own_set (own_set own (i * 3) (str z.key)) (i * 3 + 1) (str z.val)) (i * 3 + 2) (.int .i64 z.kind)
    rw [set_cells3 l i z hi] at h1
    exact h _ h1 ((((Only.refl (fun j => j = g) w).put g (i * 3) rfl (str z.key)).put g (i * 3 + 1) rfl (str z.val)).put g (i * 3 + 2) rfl (.int .i64 z.kind))

theorem build_do (a b : ByteArray) (n : Int) (w : World) : (Instr.build 50 #[(0, .int .i64 1), (1, .agg #[.string a, .string b, .int .i64 n])]).run Try.prog w = .ok (.agg #[.int .i64 1, .string a, .string b, .int .i64 n]) w := by kernel_rfl

/-- A put is built out of an item. -/
theorem wpList_build_do (w : World) {ops : Array Oper} {rest : List Oper} {o : Oper} {a : Act} {Q : Exit → Act → World → Prop} (hgd : o.guard = none) (x : Operand) (ho : o.op = .build 50 #[(0, .const (.int .i64 1)), (1, x)]) (y : Item) (hx : a.eval x = itemV y)
    (h : wpList Try.prog ops Q rest (a.put o.dst (.agg #[.int .i64 1, str y.key, str y.val, .int .i64 y.kind])) w) : wpList Try.prog ops Q (o :: rest) a w := by
  refine wpList_plain hgd fun K hK => ?_
  have hb := build_do ⟨y.key.toArray⟩ ⟨y.val.toArray⟩ y.kind w
  have h1 : a.eval (.const (.int .i64 1)) = .int .i64 1 := rfl
  have h2 : a.eval x = .agg #[.string ⟨y.key.toArray⟩, .string ⟨y.val.toArray⟩, .int .i64 y.kind] := hx
  unfold Oper.wp execOp
  simp only [ho, List.map_toArray, List.map_cons, List.map_nil, h1, h2, Sem.run_bind, hb, Result.andThen_ok]
  exact hK _ _ h
end Go.Proofs.Ytcjaokmodicikaa
