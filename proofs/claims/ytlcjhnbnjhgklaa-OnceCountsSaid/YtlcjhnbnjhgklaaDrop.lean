/- 'Drop' of pins: the library's DeleteFunc at pins, and the method. Conditions: one goroutine; the lock is free. -/
import Derived.Test.YtlcjhnbnjhgklaaFind
import Derived.Lib.SliceRun
import Derived.Deep.LoopGhost
namespace Go.Proofs.Ytlcjhnbnjhgklaa
open Go.RowKit Go.MuLone

theorem only_setCells {S : Nat → Prop} (b : Nat) (hb : S b) : ∀ (vs : List Value) (o : Nat) (a w : World), Only S a w → Only S a (w.setCells b o vs)
  | [], _, _, _, h => h
  | _ :: r, o, _, _, h => only_setCells b hb r (o + 1) _ _ (h.put b o hb _)
theorem own_setCells {base : Nat} {e : TypeId} {size n cap g : Nat} {xs : List Value} : ∀ (vs : List Value) (o : Nat) (w : World), w.ownsRow base e size (.slice (some ⟨g, 0, none⟩) n cap) n xs → xs.length ≤ o → (w.setCells g o vs).ownsRow base e size (.slice (some ⟨g, 0, none⟩) n cap) n xs
  | [], _, _, h, _ => h
  | v :: r, o, w, h, ho => own_setCells r (o + 1) _ (by have q := own_set h o v; rwa [List.set_eq_of_length_le ho] at q) (by omega)

/-- 'clear' of the rest of a row of pins. -/
theorem run_clear_pins (w : World) (ty : TypeId) (g cap i : Nat) (l : List (Int × Int)) (h : PinRow w g cap l) (hi : i < l.length) :
    ∃ vs, (Builtin.clear_ #[61] ty #[.slice (some ⟨g, i * 2, none⟩) (l.length - i) (cap - i)]).run Try.prog w = .ok (.tuple #[]) (w.setCells g (i * 2) vs) := by
  refine ⟨(Builtin.zeroCells #[.int .i64 0, .int .i64 0] (l.length - i)).toList, ?_⟩
  have hz : (Builtin.zeroCells #[.int .i64 0, .int .i64 0] (l.length - i)).toList.length = (l.length - i) * 2 := by
    rw [Array.length_toList, size_zeroCells]; rfl
  have h1 : ∀ v ∈ (Builtin.zeroCells #[.int .i64 0, .int .i64 0] (l.length - i)).toList, v.oneCell' = true := by
    intro v hv
    simp only [Builtin.zeroCells, Array.toList_map, List.mem_map] at hv
    obtain ⟨a, _, rfl⟩ := hv
    rcases Nat.mod_two_eq_zero_or_one a with q | q
    · show Value.oneCell' ((#[Value.int .i64 0, Value.int .i64 0] : Array Value)[a % 2]!) = true
      rw [q]; rfl
    · show Value.oneCell' ((#[Value.int .i64 0, Value.int .i64 0] : Array Value)[a % 2]!) = true
      rw [q]; rfl
  have hst := run_storeCells_cells (P := Try.prog) g (i * 2) (Builtin.zeroCells #[.int .i64 0, .int .i64 0] (l.length - i)).toList 0 w (fun j hj => by
    rw [hz] at hj
    have hj2 : i * 2 + 0 + j < (flat l).length := by rw [flat_length]; omega
    rw [own_cell h _ _ (List.getElem?_eq_getElem hj2)]; rfl) (fun j _ => own_frozen h _) h1
  simp only [Nat.add_zero] at hst
  obtain ⟨m, hm⟩ : ∃ m, l.length - i = m + 1 := ⟨l.length - i - 1, by omega⟩
  rw [hm] at hst ⊢
  simp [Builtin.clear_, run_underlying Try.underlying61]
  rw [show (Value.agg #[Value.int IntKind.i64 0, Value.int IntKind.i64 0]).cells = #[Value.int IntKind.i64 0, Value.int IntKind.i64 0] from rfl, hst]
  rfl

/-- What is left of pins when all of an id are dropped. -/
def without (d : Int) (l : List (Int × Int)) : List (Int × Int) := l.filter fun p => !(p.1 == d)

theorem without_eq (d : Int) (A : List (Int × Int)) (x : Int × Int) (h : x.1 = d) : without d (A ++ [x]) = without d A := by simp [without, List.filter_append, h]
theorem without_ne (d : Int) (A : List (Int × Int)) (x : Int × Int) (h : x.1 ≠ d) : without d (A ++ [x]) = without d A ++ [x] := by simp [without, List.filter_append, h]

/-- The row in the middle of DeleteFunc: i pins kept, all up to j looked at. -/
structure Mid (d : Int) (l R : List (Int × Int)) (i j : Nat) : Prop where
  len : R.length = l.length
  kept : R.take i = without d (l.take j)
  rest : R.drop j = l.drop j
  ij : i < j
  jn : j ≤ l.length
theorem Mid.next_drop {d : Int} {l R : List (Int × Int)} {i j : Nat} (h : Mid d l R i j) (hj : j < l.length) (hd : (l.getD j (0, 0)).1 = d) : Mid d l R i (j + 1) := by
  refine ⟨h.len, ?_, ?_, by have := h.ij; omega, by omega⟩
  · rw [h.kept, List.take_succ_eq_append_getElem hj]
    have e : l.getD j (0, 0) = l[j] := by simp [List.getD, hj]
    rw [e] at hd
    rw [without_eq _ _ _ hd]
  · have q := congrArg (List.drop 1) h.rest
    simpa [List.drop_drop, Nat.add_comm] using q
theorem Mid.get {d : Int} {l R : List (Int × Int)} {i j : Nat} (h : Mid d l R i j) : R.getD j (0, 0) = l.getD j (0, 0) := by
  have q := congrArg (fun x : List (Int × Int) => x.getD 0 (0, 0)) h.rest
  simpa [List.getD] using q
theorem Mid.next_keep {d : Int} {l R : List (Int × Int)} {i j : Nat} (h : Mid d l R i j) (hj : j < l.length) (hd : (l.getD j (0, 0)).1 ≠ d) : Mid d l (R.set i (l.getD j (0, 0))) (i + 1) (j + 1) := by
  have hi := h.ij
  have hl := h.len
  refine ⟨by rw [List.length_set]; exact hl, ?_, ?_, by omega, by omega⟩
  · have e : l.getD j (0, 0) = l[j] := by simp [List.getD, hj]
    rw [List.take_succ_eq_append_getElem hj]
    rw [e] at hd ⊢
    rw [without_ne _ _ _ hd, ← h.kept, List.take_succ_eq_append_getElem (by rw [List.length_set]; omega)]
    simp [List.take_set_of_le]
  · have q := congrArg (List.drop 1) h.rest
    rw [List.drop_set_of_lt (by omega)]
    simpa [List.drop_drop, Nat.add_comm] using q
theorem Mid.first {d : Int} {l : List (Int × Int)} {k : Nat} (hk : k < l.length) (hd : (l.getD k (0, 0)).1 = d) (hne : ∀ j, j < k → (l.getD j (0, 0)).1 ≠ d) : Mid d l l k (k + 1) := by
  refine ⟨rfl, ?_, rfl, by omega, by omega⟩
  have e : l.getD k (0, 0) = l[k] := by simp [List.getD, hk]
  rw [List.take_succ_eq_append_getElem hk]
  rw [e] at hd
  have q : without d (l.take k) = l.take k := by
    unfold without
    rw [List.filter_eq_self]
    intro p hp
    obtain ⟨j, hj, rfl⟩ := List.getElem_of_mem hp
    have hj' : j < k := by simp at hj; omega
    have := hne j hj'
    simp only [List.getElem_take]
    simpa [List.getD, show j < l.length from by omega] using this
  rw [without_eq _ _ _ hd, q]

theorem del_no (g cap D : Nat) (d : Int) (l : List (Int × Int)) (w : World) (h : PinRow w g cap l) (hD : w.cell? ⟨D, 0, none⟩ = some (.int .i64 d)) (hne : ∀ j, j < l.length → (l.getD j (0, 0)).1 ≠ d) :
    Calls Try.prog 43 #[.slice (some ⟨g, 0, none⟩) l.length cap, .func (.func 44) #[] #[.pointer (some ⟨D, 0, none⟩)]] w fun e w' => e = .returned (.slice (some ⟨g, 0, none⟩) l.length cap) ∧ Only (fun _ => False) w w' := by
  have HN := Lib.hid hne
  clear hne
  go_enter Try.func43, Try.ntmps43
  go_wp2_with fail
  (with_reducible refine (index_no g cap D d l _ h hD HN.out).mono ?_)
  rintro e w' ⟨rfl, o⟩
  go_wp2_with fail
  go_ret
  exact ⟨rfl, o⟩

theorem PinRow.set {w : World} {g cap i : Nat} {l : List (Int × Int)} (h : PinRow w g cap l) (hi : i < l.length) (x y : Int) : PinRow ((w.setCell ⟨g, i * 2, none⟩ (.int .i64 x)).setCell ⟨g, i * 2 + 1, none⟩ (.int .i64 y)) g cap (l.set i (x, y)) := by
  unfold PinRow at *
  have q := own_set (own_set h (i * 2) (.int .i64 x)) (i * 2 + 1) (.int .i64 y)
  rw [flat_set l i x y hi] at q
  rw [List.length_set]
  exact q

def DelPost (g cap : Nat) (d : Int) (l : List (Int × Int)) (w : World) (e : Ending) (w' : World) : Prop :=
  e = .returned (.slice (some ⟨g, 0, none⟩) (without d l).length cap) ∧ PinRow w' g cap (without d l) ∧ Only (fun k => k = g) w w'

set_option maxRecDepth 100000 in
set_option maxHeartbeats 1000000 in
theorem del_yes (g cap D k0 : Nat) (d : Int) (l : List (Int × Int)) (w : World) (h : PinRow w g cap l) (hD : w.cell? ⟨D, 0, none⟩ = some (.int .i64 d)) (nD : ¬ D = g) (hk : k0 < l.length) (he : (l.getD k0 (0, 0)).1 = d) (hne : ∀ j, j < k0 → (l.getD j (0, 0)).1 ≠ d) :
    Calls Try.prog 43 #[.slice (some ⟨g, 0, none⟩) l.length cap, .func (.func 44) #[] #[.pointer (some ⟨D, 0, none⟩)]] w (DelPost g cap d l w) := by
  have hnot : ∀ (x : Bool) (w : World), (Op.unary .not (.bool x)).run Try.prog w = .ok (.bool (!x)) w := fun _ _ => rfl
  have hlen := h.len
  have lD := lt_of_cell hD
  have lg := own_lt h
  have hcap : l.length ≤ cap ∧ cap ≤ 9223372036854775807 := by
    rcases h.2 with ⟨q, _⟩ | ⟨g', cap', cur, hv, _, _, h1, h2, _⟩
    · cases q
    · cases hv; unfold maxLen at h2; omega
  have HM := Lib.hid (Mid.first hk he hne)
  have HI := Lib.hid (index_yes g cap D k0 d l w h hD hk he hne)
  clear he hne
  go_enter Try.func43, Try.ntmps43
  go_wp2_with fail
  (with_reducible refine HI.out.mono ?_)
  rintro e w1 ⟨rfl, o1⟩
  have h1 := h.only o1 id
  have o2 : Only (fun k => k = g) w w1 := o1.mono fun _ _ q => q.elim
  clear HI h o1
  go_wp2_with fail
  go_loopg [5, 6] l.length (fun gh i j wr => ∃ (R : List (Int × Int)) (x y : Nat), y + gh ≤ k0 + 1 + l.length ∧ l.length < y + gh + 1 ∧ i = .int .i64 x ∧ j = .int .i64 y ∧ Hid (Mid d l R x y) ∧ PinRow wr g cap R ∧ Only (fun k => k = g) w wr) 
  case atStart => exact ⟨l, k0, k0 + 1, by omega, by omega, rfl, by go_num, HM, h1, o2⟩
  case round =>
    obtain ⟨R, x, y, hgh1, hgh, rfl, rfl, HR, hr, ho⟩ := hrel
    have hxy := HR.out.ij
    have hjn := HR.out.jn
    by_cases hlt : y < l.length
    · have HL := Lib.hid HR.out.len
      have HG := Lib.hid HR.out.get
      obtain ⟨c0, c1⟩ := hr.cell y (by rw [HL.out]; exact hlt)
      rw [HG.out] at c0 c1
      have w4 : (y : Int) < (l.length : Int) := by omega
      have w5 : (x : Int) < (l.length : Int) := by omega
      have oA : Only (fun _ => False) wr (wr.alloc (.cells #[.int .i64 (l.getD y (0, 0)).1, .int .i64 (l.getD y (0, 0)).2] 79)) := (Only.refl _ wr).alloc _
      have hd := (ho.cell (p := ⟨D, 0, none⟩) lD nD).trans hD
      have hd2 := (oA.cell (p := ⟨D, 0, none⟩) (lt_of_cell hd) id).trans hd
      by_cases hx : (l.getD y (0, 0)).1 = d
      · have HR2 := Lib.hid (HR.out.next_drop hlt hx)
        have hb : ((l.getD y (0, 0)).1 == d) = true := beq_iff_eq.2 hx
        clear hx HG
        generalize l.getD y (0, 0) = p at *
        go_wp2_with fail
        (with_reducible refine (fn44 p.1 p.2 d D _ hd2).mono ?_)
        rintro e w3 ⟨rfl, o3⟩
        have o4 := (oA.trans o3 fun _ _ => id)
        have hr3 := hr.only o4 id
        have ho3 := ho.trans o4 fun _ _ q => q.elim
        clear o3 o4 oA hr ho hd hd2 c0 c1 HR
        go_wp2_with fail
        go_roundg (gk - 1)
        case measure => omega
        case rel => exact ⟨R, x, y + 1, by omega, by omega, rfl, by go_num, HR2, hr3, ho3⟩
      · have HR2 := Lib.hid (HR.out.next_keep hlt hx)
        have hb : ((l.getD y (0, 0)).1 == d) = false := beq_eq_false_iff_ne.2 hx
        clear hx HG
        generalize l.getD y (0, 0) = p at *
        have hV : (wr.alloc (.cells #[.int .i64 p.1, .int .i64 p.2] 79)).cell? ⟨wr.heap.size, 0, none⟩ = some (.int .i64 p.1) := by simp
        have hV1 : (wr.alloc (.cells #[.int .i64 p.1, .int .i64 p.2] 79)).cell? ⟨wr.heap.size, 1, none⟩ = some (.int .i64 p.2) := by simp
        go_wp2_with fail
        (with_reducible refine (fn44 p.1 p.2 d D _ hd2).mono ?_)
        rintro e w3 ⟨rfl, o3⟩
        have v0 := (o3.cell (p := ⟨wr.heap.size, 0, none⟩) (lt_of_cell hV) id).trans hV
        have v1 := (o3.cell (p := ⟨wr.heap.size, 1, none⟩) (lt_of_cell hV) id).trans hV1
        have o4 := (oA.trans o3 fun _ _ => id)
        have hr3 := hr.only o4 id
        have ho3 := ho.trans o4 fun _ _ q => q.elim
        clear o3 o4 oA hr ho hd hd2 c0 c1 HR hV hV1
        obtain ⟨e0, e1⟩ := hr3.cell x (by rw [HL.out]; omega)
        have z0 := own_frozen hr3 (x * 2)
        have z1 := own_frozen hr3 (x * 2 + 1)
        have hr4 := hr3.set (i := x) (by rw [HL.out]; omega) p.1 p.2
        have ho4 : Only (fun k => k = g) w ((w3.setCell ⟨g, x * 2, none⟩ (.int .i64 p.1)).setCell ⟨g, x * 2 + 1, none⟩ (.int .i64 p.2)) := (ho3.put g (x * 2) rfl _).put g (x * 2 + 1) rfl _
        clear hr3 ho3
        generalize R.getD x (0, 0) = p0 at *
        go_wp2_with fail
        go_roundg (gk - 1)
        case measure => omega
        case rel => exact ⟨R.set x p, x + 1, y + 1, by omega, by omega, by go_num, by go_num, HR2, hr4, ho4⟩
    · obtain rfl : y = l.length := by omega
      have hlr := HR.out.len
      have hkt : R.take x = without d l := by rw [HR.out.kept, List.take_length]
      have hxl : (without d l).length = x := by rw [← hkt, List.length_take]; omega
      obtain ⟨vs, hcl⟩ := run_clear_pins wr 0 g cap x R hr (by omega)
      rw [hlr] at hcl
      have hfin : PinRow (wr.setCells g (x * 2) vs) g cap (without d l) := by
        have q := own_cut hr x (by omega)
        rw [flat_take, hkt] at q
        have q2 := own_setCells vs (x * 2) wr q (by rw [flat_length, hxl]; omega)
        unfold PinRow
        rw [hxl]
        exact q2
      have HF := Lib.hid hfin
      have HX := Lib.hid hxl
      have w4 : (x : Int) < (l.length : Int) := by omega
      have w5 : (x : Int) < (cap : Int) := by omega
      clear hfin hxl hlr hkt hr
      go_wp2_with fail
      go_ret
      refine ⟨by rw [HX.out]; rfl, HF.out, only_setCells (S := fun k => k = g) g rfl vs _ _ _ ho⟩

theorem del_nil (fv : Value) (w : World) :
    Calls Try.prog 43 #[.slice none 0 0, fv] w fun e w' => e = .returned (.slice none 0 0) ∧ w = w' := by
  have hi : Calls Try.prog 56 #[.slice none 0 0, fv] w fun e w' => e = .returned (.int .i64 (-1)) ∧ w = w' := by
    go_enter Try.func56, Try.ntmps56
    go_wp2_with fail
    refine wp_loop_rounds 1 ?_
    rw [rounds_succ]
    go_wp2_with fail
    go_ret
    exact ⟨rfl, rfl⟩
  have HI := Lib.hid hi
  clear hi
  go_enter Try.func43, Try.ntmps43
  go_wp2_with fail
  (with_reducible refine HI.out.mono ?_)
  rintro e w' ⟨rfl, rfl⟩
  go_wp2_with fail
  go_ret
  exact ⟨rfl, rfl⟩

def DropPost (w : World) (b : Nat) (sv : Value) (last : Int) (l : List (Int × Int)) (w' : World) : Prop :=
  ∃ sv', PinsIs w' b sv' last l ∧ (sv'.ownBlock = sv.ownBlock) ∧ Only (fun k => k = b ∨ sv.ownBlock = some k) w w'

/-- Is there a pin of this id, and if so, where is the first? -/
theorem first_or (d : Int) : ∀ l : List (Int × Int), (∃ k, k < l.length ∧ (l.getD k (0, 0)).1 = d ∧ ∀ j, j < k → (l.getD j (0, 0)).1 ≠ d) ∨ (∀ j, j < l.length → (l.getD j (0, 0)).1 ≠ d)
  | [] => .inr fun j h => by simp at h
  | p :: l => by
    by_cases hp : p.1 = d
    · exact .inl ⟨0, by simp, by simpa using hp, fun j h => by omega⟩
    · rcases first_or d l with ⟨k, h1, h2, h3⟩ | h
      · refine .inl ⟨k + 1, by simpa using h1, by simpa using h2, fun j hj => ?_⟩
        cases j with
        | zero => simpa using hp
        | succ j => simpa using h3 j (by omega)
      · refine .inr fun j hj => ?_
        cases j with
        | zero => simpa using hp
        | succ j => simpa using h j (by simpa using hj)
theorem without_none (d : Int) (l : List (Int × Int)) (h : ∀ j, j < l.length → (l.getD j (0, 0)).1 ≠ d) : without d l = l := by
  unfold without
  rw [List.filter_eq_self]
  intro p hp
  obtain ⟨j, hj, rfl⟩ := List.getElem_of_mem hp
  have := h j hj
  simpa [List.getD, hj] using this
theorem without_some (d : Int) (l : List (Int × Int)) (k : Nat) (hk : k < l.length) (h : (l.getD k (0, 0)).1 = d) : (without d l).length < l.length := by
  unfold without
  rw [← Nat.not_le]
  intro q
  have e : l.filter (fun p => !(p.1 == d)) = l := List.Sublist.eq_of_length_le List.filter_sublist q
  have m : l[k] ∈ l.filter (fun p => !(p.1 == d)) := by rw [e]; exact List.getElem_mem hk
  have := (List.mem_filter.1 m).2
  simp only [List.getD, List.getElem?_eq_getElem hk, Option.getD_some] at h
  simp [h] at this

/-- The pins while their lock is held, with another row. -/
theorem held_row {w : World} {b : Nat} {sv sv' : Value} {last : Int} {l l' : List (Int × Int)} (h : PinsHeld w b sv last l) (ho : w.ownsRow 0 79 2 sv' l'.length (flat l')) (hb : sv'.ownBlock ≠ some b) : PinsHeld (w.setCell ⟨b, 3, none⟩ sv') b sv' last l' :=
  ⟨(World.cell?_setCell_other _ _ _ _ (ne_off _ _ _ (by omega))).trans h.p0, (World.cell?_setCell_other _ _ _ _ (ne_off _ _ _ (by omega))).trans h.p2, same_cell h.p3 _, own_store ho hb _ _, hb, by simp [h.z0], by simp [h.z2], by simp [h.z3]⟩

set_option maxRecDepth 100000 in
set_option maxHeartbeats 1000000 in
theorem drop_any (b : Nat) (sv : Value) (last d : Int) (l : List (Int × Int)) (w : World) (h : PinsIs w b sv last l) :
    Calls Try.prog 25 #[.pointer (some ⟨b, 0, none⟩), .int .i64 d] w fun e w' => e = .returned (.bool (decide ((without d l).length < l.length))) ∧ DropPost w b sv last (without d l) w' := by
  have hmf : ∀ (fn : Fn) (first cap : Array Value) (w : World), (Instr.makeFunc fn first cap).run Try.prog w = .ok (.func fn first cap) w := fun _ _ _ _ => rfl
  have hb0 := lt_of_cell h.p0
  have oA : Only (fun _ => False) w (w.alloc (.cells #[.int .i64 d] 3)) := (Only.refl _ w).alloc _
  have h1 := h.only oA id (fun _ _ => id)
  have hD : (w.alloc (.cells #[.int .i64 d] 3)).cell? ⟨w.heap.size, 0, none⟩ = some (.int .i64 d) := by simp
  have hH := h1.lock
  have o1 : Only (fun k => k = b) (w.alloc (.cells #[.int .i64 d] 3)) ((w.alloc (.cells #[.int .i64 d] 3)).setCell ⟨b, 0, none⟩ (.int .i32 1)) := (Only.refl (fun k => k = b) _).put b 0 rfl _
  have hD1 := (o1.cell (p := ⟨w.heap.size, 0, none⟩) (lt_of_cell hD) (by show ¬ w.heap.size = b; omega)).trans hD
  have p0 := h1.p0
  have z0 := h1.z0
  -- DeleteFunc, whatever the row is
  have hdel : Calls Try.prog 43 #[sv, .func (.func 44) #[] #[.pointer (some ⟨w.heap.size, 0, none⟩)]] ((w.alloc (.cells #[.int .i64 d] 3)).setCell ⟨b, 0, none⟩ (.int .i32 1)) fun e w' =>
      ∃ a c, e = .returned (.slice a (without d l).length c) ∧ w'.ownsRow 0 79 2 (.slice a (without d l).length c) (without d l).length (flat (without d l)) ∧ Value.ownBlock (.slice a (without d l).length c) = sv.ownBlock ∧ Only (fun k => sv.ownBlock = some k) ((w.alloc (.cells #[.int .i64 d] 3)).setCell ⟨b, 0, none⟩ (.int .i32 1)) w' := by
    have own := hH.own
    rcases own.2 with ⟨rfl, hl0⟩ | ⟨g, cap, cur, rfl, _⟩
    · obtain rfl : l = [] := List.eq_nil_of_length_eq_zero hl0
      refine (del_nil _ _).mono ?_
      rintro e w' ⟨rfl, rfl⟩
      exact ⟨none, 0, rfl, own, rfl, Only.refl _ _⟩
    · have nb : ¬ g = b := fun q => h.ne (by rw [q]; rfl)
      have lg : g < w.heap.size := own_lt h.own
      rcases first_or d l with ⟨k, hk1, hk2, hk3⟩ | hno
      · refine (del_yes g cap _ k d l _ own hD1 (by omega) hk1 hk2 hk3).mono ?_
        rintro e w' ⟨rfl, r1, r2⟩
        exact ⟨_, _, rfl, r1, rfl, r2.mono fun k _ q => by rw [q]; rfl⟩
      · refine (del_no g cap _ d l _ own hD1 hno).mono ?_
        rintro e w' ⟨rfl, r2⟩
        rw [without_none d l hno]
        exact ⟨_, _, rfl, own_only own r2 (fun _ _ => id), rfl, r2.mono fun k _ q => q.elim⟩
  have HD := Lib.hid hdel
  clear hdel
  obtain ⟨a0, c0, rfl⟩ := ownsRow_form h.own
  go_enter_defers Try.func25, Try.ntmps25
  go_wp2_with fail
  (with_reducible refine (lock_free Try.muLib ⟨b, 0, none⟩ _ p0 z0).mono ?_)
  rintro e w' ⟨rfl, rfl⟩
  have o5 : Only (fun k => k = b) w ((w.alloc (.cells #[.int .i64 d] 3)).setCell ⟨b, 0, none⟩ (.int .i32 1)) := (oA.mono fun _ _ q => q.elim).trans o1 fun _ _ q => q
  have lW : b < ((w.alloc (.cells #[.int .i64 d] 3)).setCell ⟨b, 0, none⟩ (.int .i32 1)).heap.size := lt_of_cell hH.p0
  have nsv := h.ne
  clear p0 z0 h h1 oA o1 hD hD1
  generalize hW : (w.alloc (.cells #[.int .i64 d] 3)).setCell ⟨b, 0, none⟩ (.int .i32 1) = W at *
  clear hW
  have p3 := hH.p3
  go_wp2_with fail
  (with_reducible refine HD.out.mono ?_)
  rintro e w2 ⟨a, c, rfl, q1, q2, q3⟩
  have g3 := (q3.cell (p := ⟨b, 3, none⟩) lW nsv).trans hH.p3
  have y3 := (q3.frozen (p := ⟨b, 3, none⟩) lW nsv).trans hH.z3
  have hne : Value.ownBlock (.slice a (without d l).length c) ≠ some b := by rw [q2]; exact nsv
  have hH2 : PinsHeld (w2.setCell ⟨b, 3, none⟩ (.slice a (without d l).length c)) b (.slice a (without d l).length c) last (without d l) := by
    refine ⟨?_, ?_, same_cell g3 _, own_store q1 hne _ _, hne, ?_, ?_, by simp [y3]⟩
    · exact (World.cell?_setCell_other _ _ _ _ (ne_off _ _ _ (by omega))).trans ((q3.cell (p := ⟨b, 0, none⟩) lW nsv).trans hH.p0)
    · exact (World.cell?_setCell_other _ _ _ _ (ne_off _ _ _ (by omega))).trans ((q3.cell (p := ⟨b, 2, none⟩) lW nsv).trans hH.p2)
    · simpa using (q3.frozen (p := ⟨b, 0, none⟩) lW nsv).trans hH.z0
    · simpa using (q3.frozen (p := ⟨b, 2, none⟩) lW nsv).trans hH.z2
  have o6 : Only (fun k => k = b ∨ Value.ownBlock (.slice a0 l.length c0) = some k) w (w2.setCell ⟨b, 3, none⟩ (.slice a (without d l).length c)) := ((o5.mono fun _ _ q => Or.inl q).trans q3 fun _ _ q => .inr q).put b 3 (.inl rfl) _
  clear q1 q3 hH p3 HD
  go_wp2_with fail
  generalize hW : w2.setCell ⟨b, 3, none⟩ (.slice a (without d l).length c) = W2 at *
  clear hW
  have p3 := hH2.p3
  go_wp2_with fail
  refine leaves_cons (f := 42) (args := #[.pointer (some ⟨b, 0, none⟩)]) (by simp) (by simp [go_sem]) ?_
  refine (unlock_deferred Try.muLib ⟨b, 0, none⟩ .returning _ hH2.p0 hH2.z0).mono ?_
  rintro e u' w'' ⟨rfl, rfl, rfl⟩
  exact ⟨_, results_tmp rfl _ _ _, by simp, _, hH2.unlock, q2, o6.put b 0 (.inl rfl) _⟩
end Go.Proofs.Ytlcjhnbnjhgklaa
