/- Package cmd: State.Do at the root, command by command; State.All with one value; the law's first call. Conditions: one goroutine. -/
import Derived.Test.YtlkknekflgclgaaGreatDoorZCmd10
import Derived.Deep.RegionWith
namespace Go.Proofs.YtlkknekflgclgaaGreatDoor
open Go.RowKit

/-- State.Do at the root, over what do does. -/
theorem SDo_of (w : World) (st r : Nat) (B B' : Box) (kd : Int) (p k v o : Bytes) (E : Int) (V : Bytes) (hst : StAt w st r) (hB : BoxAt w r B) (hmv : B'.mv = B.mv) (hmi : B'.mi = B.mi) (hne : st ≠ B.mv)
    (hD : ∀ W, Only (fun _ => False) w W → Calls Tryz.prog 150 #[groundV r, .agg #[.int .i64 kd, str p, str k, str v, str o]] W fun e w' => e = .returned (replyV E V) ∧ ∃ w2, BoxAt w2 r B' ∧ Only (fun j => j = B.mv) W w2 ∧ Only (fun j => j = W.heap.size + 1) w2 w') :
    Calls Tryz.prog 92 #[.pointer (some ⟨st, 0, none⟩), .agg #[.int .i64 kd, str p, str k, str v, str o]] w fun e w' => e = .returned (replyV E V) ∧ BoxAt w' r B' ∧ Only (fun j => j = B.mv) w w' := by
  refine SDo_is w st r B B' kd p k v o E V hst hB hmv hmi hne (fun W hW => (hD W hW).mono ?_)
  rintro e w' ⟨he, w2, hb, o2, o3⟩
  exact ⟨he, box_replied (hB.still hW) hmv hmi hb o2 o3⟩
theorem SAdd_is (w : World) (st r nt : Nat) (k v : Bytes) (B : Box) (a b : Int) (hst : StAt w st r) (hne : st ≠ B.mv) (hkey : keyErr k = 0) (hB : BoxAt w r B) (hT : Tab nt w) (hnt : nt ≤ B.mv) (hk : k.length ≤ maxLen) (hv : v.length ≤ maxLen) (hI : B.I k = none) (hn : B.nv < maxLen)
    (ho1 : ((B.V k).getD [48]).length ≤ maxLen) (ha : numS ((B.V k).getD [48]) = some a) (hb : numS v = some b) (hab : -(10 ^ 18 : Int) < a + b ∧ a + b < (10 ^ 18 : Int)) (hlen : (Lib.itoa (a + b)).length ≤ 2000) :
    Calls Tryz.prog 92 #[.pointer (some ⟨st, 0, none⟩), .agg #[.int .i64 3, str [], str k, str v, str []]] w fun e w' => e = .returned (replyV 0 (Lib.itoa (a + b))) ∧ BoxAt w' r { B with V := upM B.V k (Lib.itoa (a + b)), nv := B.nv + 1 } ∧ Only (fun j => j = B.mv) w w' := by
  refine SDo_of w st r B _ 3 [] k v [] 0 _ hst hB rfl rfl hne (fun W hW => ?_)
  refine do_add W r k v B 0 _ (fun u => BoxAt u r { B with V := upM B.V k (Lib.itoa (a + b)), nv := B.nv + 1 }) (hB.still hW) hk hkey (fun U hU => ?_)
  exact add_good U r nt k v B a b ((hB.still hW).still hU) ((hT.still hW).still hU) hnt hk hv hI hn ho1 ha hb hab hlen
theorem SAddBad_is (w : World) (st r : Nat) (k v x : Bytes) (B : Box) (hst : StAt w st r) (hne : st ≠ B.mv) (hkey : keyErr k = 0) (hB : BoxAt w r B) (hk : k.length ≤ maxLen) (hv : v.length ≤ maxLen) (hI : B.I k = none) (hV : B.V k = some x) (hx : x.length ≤ maxLen) (ha : numS x = none) :
    Calls Tryz.prog 92 #[.pointer (some ⟨st, 0, none⟩), .agg #[.int .i64 3, str [], str k, str v, str []]] w fun e w' => e = .returned (replyV 24 []) ∧ BoxAt w' r B ∧ Only (fun j => j = B.mv) w w' := by
  refine SDo_of w st r B B 3 [] k v [] 24 [] hst hB rfl rfl hne (fun W hW => ?_)
  refine do_add W r k v B 24 [] (fun u => BoxAt u r B) (hB.still hW) hk hkey (fun U hU => ?_)
  refine (add_bad U r k v x B ((hB.still hW).still hU) hk hv hI hV hx ha).mono ?_
  rintro e w' ⟨he, o2⟩
  exact ⟨he, ((hB.still hW).still hU).still o2, o2.mono (fun _ _ (q : False) => q.elim)⟩
theorem SSwapNone_is (w : World) (st r : Nat) (k v o : Bytes) (B : Box) (hst : StAt w st r) (hne : st ≠ B.mv) (hkey : keyErr k = 0) (hB : BoxAt w r B) (hk : k.length ≤ maxLen) (hI : B.I k = none) (hV : B.V k = none) :
    Calls Tryz.prog 92 #[.pointer (some ⟨st, 0, none⟩), .agg #[.int .i64 4, str [], str k, str v, str o]] w fun e w' => e = .returned (replyV 8 []) ∧ BoxAt w' r B ∧ Only (fun j => j = B.mv) w w' := by
  refine SDo_of w st r B B 4 [] k v o 8 [] hst hB rfl rfl hne (fun W hW => ?_)
  refine do_swap W r k v o B 8 [] (fun u => BoxAt u r B) (hB.still hW) hk hkey (fun U hU => ?_)
  refine (swap_none U r k v o B ((hB.still hW).still hU) hk hI hV).mono ?_
  rintro e w' ⟨he, o2⟩
  exact ⟨he, ((hB.still hW).still hU).still o2, o2.mono (fun _ _ (q : False) => q.elim)⟩
theorem SSwapOther_is (w : World) (st r : Nat) (k v o x : Bytes) (B : Box) (hst : StAt w st r) (hne : st ≠ B.mv) (hkey : keyErr k = 0) (hB : BoxAt w r B) (hk : k.length ≤ maxLen) (hI : B.I k = none) (hV : B.V k = some x) (hx : x.length ≤ 200) (ho : x ≠ o) :
    Calls Tryz.prog 92 #[.pointer (some ⟨st, 0, none⟩), .agg #[.int .i64 4, str [], str k, str v, str o]] w fun e w' => e = .returned (replyV 24 x) ∧ BoxAt w' r B ∧ Only (fun j => j = B.mv) w w' := by
  refine SDo_of w st r B B 4 [] k v o 24 x hst hB rfl rfl hne (fun W hW => ?_)
  refine do_swap W r k v o B 24 x (fun u => BoxAt u r B) (hB.still hW) hk hkey (fun U hU => ?_)
  refine (swap_other U r k v o x B ((hB.still hW).still hU) hk hI hV hx ho).mono ?_
  rintro e w' ⟨he, o2⟩
  exact ⟨he, ((hB.still hW).still hU).still o2, o2.mono (fun _ _ (q : False) => q.elim)⟩
theorem SSwapSame_is (w : World) (st r : Nat) (k v o : Bytes) (B : Box) (hst : StAt w st r) (hne : st ≠ B.mv) (hkey : keyErr k = 0) (hB : BoxAt w r B) (hk : k.length ≤ maxLen) (hI : B.I k = none) (hV : B.V k = some o) (ho : o.length ≤ maxLen) (hv : v.length ≤ 2000) (hn : B.nv < maxLen) :
    Calls Tryz.prog 92 #[.pointer (some ⟨st, 0, none⟩), .agg #[.int .i64 4, str [], str k, str v, str o]] w fun e w' => e = .returned (replyV 0 []) ∧ BoxAt w' r { B with V := upM B.V k v, nv := B.nv + 1 } ∧ Only (fun j => j = B.mv) w w' := by
  refine SDo_of w st r B _ 4 [] k v o 0 [] hst hB rfl rfl hne (fun W hW => ?_)
  refine do_swap W r k v o B 0 [] (fun u => BoxAt u r { B with V := upM B.V k v, nv := B.nv + 1 }) (hB.still hW) hk hkey (fun U hU => ?_)
  exact swap_same U r k v o B ((hB.still hW).still hU) hk hI hV ho hv hn
theorem SPut_is (w : World) (st r : Nat) (k v : Bytes) (B : Box) (hst : StAt w st r) (hne : st ≠ B.mv) (hkey : keyErr k = 0) (hB : BoxAt w r B) (hk : k.length ≤ maxLen) (hI : B.I k = none) (hv : v.length ≤ 2000) (hn : B.nv < maxLen) :
    Calls Tryz.prog 92 #[.pointer (some ⟨st, 0, none⟩), .agg #[.int .i64 1, str [], str k, str v, str []]] w fun e w' => e = .returned (replyV 0 []) ∧ BoxAt w' r { B with V := upM B.V k v, nv := B.nv + 1 } ∧ Only (fun j => j = B.mv) w w' := by
  refine SDo_of w st r B _ 1 [] k v [] 0 [] hst hB rfl rfl hne (fun W hW => ?_)
  refine do_put W r k v B 0 (fun u => BoxAt u r { B with V := upM B.V k v, nv := B.nv + 1 }) (hB.still hW) hk hkey (fun U hU => ?_)
  exact Put_is U r r [] k v B (finds_root _ r) ((hB.still hW).still hU) hk hI hv hn
theorem SDelete_is (w : World) (st r : Nat) (k : Bytes) (B : Box) (hst : StAt w st r) (hne : st ≠ B.mv) (hkey : keyErr k = 0) (hB : BoxAt w r B) (hk : k.length ≤ maxLen) (hI : B.I k = none) :
    Calls Tryz.prog 92 #[.pointer (some ⟨st, 0, none⟩), .agg #[.int .i64 2, str [], str k, str [], str []]] w fun e w' => e = .returned (replyV (delErr (B.V k)) []) ∧ BoxAt w' r { B with V := offM B.V k } ∧ Only (fun j => j = B.mv) w w' := by
  refine SDo_of w st r B _ 2 [] k [] [] _ [] hst hB rfl rfl hne (fun W hW => ?_)
  refine do_delete W r k B _ (fun u => BoxAt u r { B with V := offM B.V k }) (hB.still hW) hk hkey (fun U hU => ?_)
  exact Delete_is U r r [] k B (finds_root _ r) ((hB.still hW).still hU) hk hI
set_option maxRecDepth 100000 in
theorem All_is (w : World) (st r nt : Nat) (B : Box) (n v : Bytes) (hst : StAt w st r) (hB : BoxAt w r B) (hn : n.length ≤ 65535) (hsq : -9223372036854775808 ≤ B.seq ∧ B.seq ≤ 9223372036854775807) (hV : ∀ x, B.V x = if x = n then some v else none) (hI : ∀ x, B.I x = none) (hT : Tab nt w) (hnt : nt ≤ w.heap.size) (hne : nameL [] [] ≠ nameL [] n) :
    Calls Tryz.prog 93 #[.pointer (some ⟨st, 0, none⟩)] w fun e w' => ∃ o, e = .returned (.map (some o)) ∧ MapSz CS 9 w' o 2 (upM (upM (fun _ => none) (nameL [] []) (Lib.itoa B.seq)) (nameL [] n) v) 2 ∧ Only (fun _ => False) w w' := by
  have hr1 := fun (W : World) => run_makeMap (P := Tryz.prog) 123 W
  have o1 := (Only.refl (fun _ => False) w).alloc (.map #[] 0)
  have l1 := hB.lt
  have l2 := hB.vals.lt
  have l3 := hB.ins.lt
  have HB := Lib.hid (ball_is (w.alloc (.map #[] 0)) r w.heap.size 0 nt B n v (hB.still o1) hn hsq hV hI (hT.still o1) (MapSz.made CS 9 w) (by decide) (by omega) (by omega) (by omega) hnt hne)
  have c0 : (w.alloc (.map #[] 0)).cell? ⟨st, 0, none⟩ = some (.pointer (some ⟨r, 0, none⟩)) := blk_cell ((o1.block st (blk_lt hst) id).trans hst) 0
  have HO := Lib.hid o1
  clear hV hB hT hst o1 hI
  go_enter Tryz.func93, Tryz.ntmps93
  go_wp2_with fail
  (with_reducible refine HB.out.mono ?_)
  rintro _ w2 ⟨rfl, hm, o2⟩
  have HM := Lib.hid hm
  have H2 := Lib.hid o2
  clear hm o2
  go_wp2_with fail
  go_ret
  exact ⟨_, rfl, HM.out, (Only.trans (HO.out.mono (T := fun j => j = w.heap.size) (fun _ _ (q : False) => q.elim)) H2.out (fun _ _ q => q)).mono (fun i hi q => by omega)⟩
end Go.Proofs.YtlkknekflgclgaaGreatDoor
