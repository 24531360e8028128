/- The walks of layer 8: a run over a tree of one node. The walks of layer 8: all pairs of a tree of one node. A run's pairs as a list: seq.List. -/
import Derived.Test.YtbggeccaoibleaaW08q
import Derived.Maps.AppendAt
set_option linter.unusedVariables false
set_option linter.unusedSimpArgs false
namespace Go.Proofs.Ytbggeccaoibleaa.W08
open Go.RowKit Go.Shelf Go.Proofs.Ytbggeccaoibleaa.Lib Go.Proofs.Ytbggeccaoibleaa.Sha Go.Proofs.Ytbggeccaoibleaa.T08 Go.Proofs.Ytbggeccaoibleaa.QTail Go.Proofs.Ytbggeccaoibleaa.Itms Go.Proofs.Ytbggeccaoibleaa.WSeq Go.Proofs.Ytbggeccaoibleaa.Bld Go.Proofs.Ytbggeccaoibleaa.Mp Go.Proofs.Ytbggeccaoibleaa.Ord
attribute [local go_sem] Oper.semAt_some
attribute [local go_sem] Str_size Str_toList Str_extract Str_append Str_get bt_nn bt_lt List.length_append take_rest
def ownOf (BX : Nat) (W : World) : Option Nat := (W.cell? ⟨BX, 0, none⟩).bind Value.ownBlock
/-- what a round keeps: all cells but one variable's, and the row that the variable owns -/
structure KeepBut (BX : Nat) (W W' : World) : Prop where
  size : W.heap.size ≤ W'.heap.size
  cells : ∀ k cs t fr, W.heap[k]? = some (.cells cs t fr) → k ≠ BX → ownOf BX W ≠ some k → W'.heap[k]? = some (.cells cs t fr)
  own : ∀ k, ownOf BX W' = some k → ownOf BX W = some k ∨ W.heap.size ≤ k
theorem keep_t {BX : Nat} {A B C : World} (h : KeepBut BX A B) (k : KeepBut BX B C) : KeepBut BX A C := by
  refine ⟨Nat.le_trans h.size k.size, fun j cs t fr h1 h2 h3 => ?_, fun j hj => ?_⟩
  · refine k.cells j cs t fr (h.cells j cs t fr h1 h2 h3) h2 (fun e => ?_)
    rcases h.own j e with e2 | e2
    · exact h3 e2
    · have := (Array.getElem?_eq_some_iff.1 h1).1; omega
  · rcases k.own j hj with e | e
    · exact h.own j e
    · exact .inr (Nat.le_trans h.size e)
theorem cell_putObj {W : World} {l : Nat} {o o' : Obj} (h : W.heap[l]? = some o) (hc : o.isCells = false) (hc' : o'.isCells = false) (p : Addr) : True := trivial
/-- a block is safe: it is not the variable's, nor the row's that the variable owns; it holds what it held -/
structure Safe (BX : Nat) (W0 W : World) (k : Nat) : Prop where
  ne : k ≠ BX
  own : ownOf BX W ≠ some k
  lt : k < W0.heap.size
  size : W0.heap.size ≤ W.heap.size
  same : ∀ cs t fr, W0.heap[k]? = some (.cells cs t fr) → W.heap[k]? = some (.cells cs t fr)
theorem Safe.keep {BX : Nat} {W0 W W1 : World} {k : Nat} (h : Safe BX W0 W k) (hk : KeepBut BX W W1) : Safe BX W0 W1 k := by
  refine ⟨h.ne, fun e => ?_, h.lt, Nat.le_trans h.size hk.size, fun cs t fr hc => hk.cells k cs t fr (h.same cs t fr hc) h.ne h.own⟩
  rcases hk.own k e with e2 | e2
  · exact h.own e2
  · have := h.lt; have := h.size; omega
theorem keep_below {BX : Nat} {W W1 : World} (hB : Below W.heap.size W W1) (hlt : BX < W.heap.size) : KeepBut BX W W1 := by
  have e : ownOf BX W1 = ownOf BX W := by unfold ownOf; rw [hB.cell (p := ⟨BX, 0, none⟩) hlt]
  exact ⟨hB.size, fun k cs t fr h1 _ _ => (hB.block k (Array.getElem?_eq_some_iff.1 h1).1).trans h1, fun k hk => .inl (e ▸ hk)⟩
theorem grown_below {W W1 : World} (hB : Below W.heap.size W W1) : W.grownBy W1 none := ⟨hB.os, hB.tape, hB.output, hB.size, fun k hk _ => hB.block k hk⟩
theorem abides_below {J : List Itm → World → Prop} {B : Nat} (hJ : AbidesFrom B J) {s : List Itm} {W W1 : World} (h : J s W) (hB : Below W.heap.size W W1) : J s W1 :=
  hJ s W W1 none h (grown_below hB) (fun r e => by cases e)
theorem Safe.rd {BX : Nat} {W0 W : World} {A : Option Addr} {xs : List Value} (hrd : Rd W0 A xs) (hs : ∀ a, A = some a → Safe BX W0 W a.block ∧ ∃ cs t fr, W0.heap[a.block]? = some (.cells cs t fr)) : Rd W A xs := by
  rcases hrd with h | ⟨b, o, rfl, h⟩
  · exact .inl h
  · obtain ⟨h1, cs, t, fr, h2⟩ := hs _ rfl
    refine .inr ⟨b, o, rfl, fun j x hj => ?_⟩
    rw [← h j x hj]
    exact cell?_of_heap (by show W.heap[b]? = W0.heap[b]?; rw [h2]; exact h1.same cs t fr h2)
theorem safe_of {BX : Nat} {W : World} {k : Nat} (h1 : k ≠ BX) (h2 : ownOf BX W ≠ some k) (h3 : k < W.heap.size) : Safe BX W W k := ⟨h1, h2, h3, Nat.le_refl _, fun _ _ _ h => h⟩
theorem Safe.move {BX : Nat} {W0 W1 W : World} {k : Nat} (h : Safe BX W0 W1 k) (h2 : Safe BX W1 W k) : Safe BX W0 W k :=
  ⟨h.ne, h2.own, h.lt, Nat.le_trans h.size h2.size, fun cs t fr hc => h2.same cs t fr (h.same cs t fr hc)⟩
set_option maxRecDepth 100000 in
set_option maxHeartbeats 3200000 in
theorem walk_leaf_in (n : Nat) (hn : 1 ≤ n) (lp BX hb : Nat) (A : Option Addr) (c : Nat) (l : List Itm) (key : List UInt8) (hll : l.length ≤ 1000000) (hcc : l.length ≤ c) (hok : okS l = true) (i : Nat) (hil : i < l.length) (hp : PlaceAt l key i) (J Jx : List Itm → World → Prop)
    (W : World) (hJ : ∀ s W1 W2, W.heap.size ≤ W1.heap.size → J s W1 → Below W1.heap.size W1 W2 → J s W2) (hBX : BX < W.heap.size)
    (hY : ∀ pre x W1, J pre W1 → pre.length < (l.drop i).length → YieldAt Fence.wide (n - 1) Try.prog lp #[.string (Str x.1), .string (Str x.2)] W1 fun e W' =>
      (e = .returned (.bool true) ∧ J (pre ++ [x]) W' ∧ KeepBut BX W1 W') ∨ (e = .returned (.bool false) ∧ Jx (pre ++ [x]) W'))
    (hrd : Rd W A (its l)) (hsafe : ∀ a, A = some a → Safe BX W W a.block ∧ ∃ cs t fr, W.heap[a.block]? = some (.cells cs t fr)) (hown : ∀ k, ownOf BX W = some k → k < W.heap.size) (h0 : J [] W) :
    CallsIn Fence.wide n Try.prog 82 #[.agg #[.int .i64 0, .slice A l.length c], .iface 32 (.pointer (some ⟨hb, 0, none⟩)), .string (Str key), .func (.yield lp) #[] #[]] W fun e W' => (e = .returned (.bool true) ∧ J (l.drop i) W') ∨ (e = .returned (.bool false) ∧ ∃ pre, pre <+: l.drop i ∧ Jx pre W') := by
  obtain ⟨b, o, rfl, _, _⟩ := rd_itm hrd hil
  have HP := hid hp
  have HOK := hid hok
  have HRD := hid hrd
  have HSF := hid hsafe
  have hci : ¬ c = i := by omega
  obtain ⟨W1, hW1⟩ : ∃ W1, W1 = W.alloc (Obj.cells #[.int .i64 0, .slice (some ⟨b, o, none⟩) l.length c] 79) := ⟨_, rfl⟩
  have hal : Below W.heap.size W W1 := by rw [hW1]; exact below_al (below_rf W) _
  have hz1 : W1.heap.size = W.heap.size + 1 := by rw [hW1]; simp
  have hnod : W1.heap[W.heap.size]? = some (Obj.cells #[.int .i64 0, .slice (some ⟨b, o, none⟩) l.length c] 79 (0, 0)) := by rw [hW1]; exact heap_new W _
  have hcn0 : ∀ W', Below W1.heap.size W1 W' → W'.cell? ⟨W.heap.size, 0, none⟩ = some (.int .i64 0) := fun W' h => by
    rw [h.cell (p := ⟨W.heap.size, 0, none⟩) (by rw [hz1]; exact Nat.lt_succ_self _), Go.Lib.cell_of_heap hnod]; rfl
  have hcn1 : ∀ W', Below W1.heap.size W1 W' → W'.cell? ⟨W.heap.size, 1, none⟩ = some (.slice (some ⟨b, o, none⟩) l.length c) := fun W' h => by
    rw [h.cell (p := ⟨W.heap.size, 1, none⟩) (by rw [hz1]; exact Nat.lt_succ_self _), Go.Lib.cell_of_heap hnod]; rfl
  have hpl : ∀ W', Below W1.heap.size W1 W' → Calls Try.prog 70 #[.agg #[.int .i64 0, .slice (some ⟨b, o, none⟩) l.length c], .string (Str key)] W' fun e w' => e = .returned (.int .i64 (i : Int)) ∧ Below W1.heap.size W1 w' := fun W' hW' => by
    refine (place_any 0 (some ⟨b, o, none⟩) c l key (by omega) hok W' ((hrd.below hal).below hW')).mono ?_
    rintro e w2 ⟨⟨j, rfl, hj⟩, hb2⟩
    rw [place_one l key j i hj hp]
    exact ⟨rfl, hW'.trans (hb2.mono hW'.size)⟩
  have HAL := hid hal
  have HZ1 := hid hz1
  have HNOD := hid hnod
  have HOWN := hid hown
  clear hp hok hrd hsafe hnod hz1 hal hown
  refine callsIn_of_wp Try.func82 rfl trivial ?_ rfl
  simp only [Try.ntmps82, List.size_toArray, List.length_cons, List.length_nil, Nat.reduceAdd, Nat.reduceSub, Array.replicate_succ, Array.replicate_zero, List.push_toArray, List.append_toArray, List.nil_append, List.cons_append]
  gi_wp2
  rw [← hW1]
  clear hW1
  refine wpIn_wide.2 ?_
  refine wp_region_mild W1.heap.size (by kernel_rfl) (by kernel_rfl) ?_
  repeat (
    refine wpQuiet_step (fun K hK => ?_)
    first
      | (refine mild_skip (by rfl) (hK _ ?_)
         clear hK K)
      | (refine mild_read (by rfl) ?_
         apply Exists.intro
         refine ⟨fun W hW => ?_, hK _ ?_⟩
         (go_simp; first | rfl | (rw [if_neg (by omega)]) | (rw [if_pos (by omega)]))
         clear hK K)
      | (refine mild_call (by rfl) ?_
         apply Exists.intro
         apply Exists.intro
         refine ⟨fun W hW => ?_, ?_⟩
         (go_simp; exact ⟨rfl, rfl⟩)
         apply Exists.intro
         refine ⟨fun W hW => ?_, hK _ ?_⟩
         (with_reducible exact (hpl W hW))
         clear hK K)
    go_simp)
  refine wpQuiet_nil ?_
  intro W2 hW2
  have hB02 : Below W.heap.size W W2 := below_tr HAL.out hW2
  have hJ2 := hJ _ W W2 (Nat.le_refl _) h0 hB02
  have hk2 := keep_below hB02 hBX
  have HSN := hid (show Safe BX W1 W2 W.heap.size from
    Safe.keep (safe_of (by omega) (fun e => by
      have h1 : ownOf BX W1 = ownOf BX W := by unfold ownOf; rw [HAL.out.cell (p := ⟨BX, 0, none⟩) hBX]
      rw [h1] at e
      have := HOWN.out _ e
      omega) (by have := HZ1.out; omega)) (keep_below hW2 (by have := HZ1.out; omega)))
  have HSA := hid (show Safe BX W W2 b from ((HSF.out _ rfl).1).keep hk2)
  have hW2s : W.heap.size ≤ W2.heap.size := hB02.size
  clear hcn0 hcn1 hpl hk2 hB02
  gi_wp2
  gi_loopw [20] (fun ix wr => ∃ k : Nat, k ≤ l.length - i ∧ ix = .int .i64 (k : Int) ∧ J ((l.drop i).take k) wr ∧ Hid (Safe BX W1 wr W.heap.size) ∧ Hid (Safe BX W wr b) ∧ W.heap.size ≤ wr.heap.size) (fun ix _ => l.length - i - (intOf ix).toNat)
  case atStart => exact ⟨0, by omega, rfl, hJ2, HSN, HSA, hW2s⟩
  case round =>
    clear hJ2 HSN HSA hW2s hW2
    obtain ⟨k, hk, rfl, hJs, HSN, HSA, hws⟩ := hrel
    by_cases hlt : k < l.length - i
    · have hnd := HSN.out.same _ _ _ HNOD.out
      have n0 : wr.cell? ⟨W.heap.size, 0, none⟩ = some (.int .i64 0) := by rw [Go.Lib.cell_of_heap hnd]; rfl
      have hrd3 : Rd wr (some ⟨b, o, none⟩) (its l) := Safe.rd HRD.out (fun a e => by
        injection e with e; subst e
        obtain ⟨_, cs, t, fr, h2⟩ := HSF.out _ rfl
        exact ⟨HSA.out, cs, t, fr, h2⟩)
      obtain ⟨b', o', e, hc1, hc2⟩ := rd_itm hrd3 (j := i + k) (by omega)
      injection e with e; injection e with e1 e2; subst e1; subst e2
      rw [show o + (i + k) * 2 = o + i * 2 + k * 2 by omega] at hc1 hc2
      have hitm : itm (l.drop i) k = itm l (i + k) := by simp [itm, List.getD_eq_getElem?_getD]
      have htk := take_itm (l.drop i) k (by simp; omega)
      rw [hitm] at htk
      obtain ⟨xk, hxk⟩ : ∃ xk, xk = (itm l (i + k)).1 := ⟨_, rfl⟩
      obtain ⟨xv, hxv⟩ : ∃ xv, xv = (itm l (i + k)).2 := ⟨_, rfl⟩
      have hxx : itm l (i + k) = (xk, xv) := by rw [hxk, hxv]
      rw [← hxk] at hc1
      rw [← hxv] at hc2
      rw [hxx] at htk
      have HTK := hid htk
      have hal3 : Below wr.heap.size wr (wr.alloc (Obj.cells #[.string (Str xk), .string (Str xv)] 75)) := below_al (below_rf wr) _
      have n0' := (hal3.cell (p := ⟨W.heap.size, 0, none⟩) (Nat.lt_of_lt_of_le HSN.out.lt HSN.out.size)).trans n0
      have hJ1 := hJ _ _ _ hws hJs hal3
      have hkp := keep_below hal3 (by omega : BX < wr.heap.size)
      obtain ⟨fn, tmps, assign, body, hy, hR⟩ := hY ((l.drop i).take k) (xk, xv) _ hJ1 (by simp; omega)
      dsimp only at hy
      have HKP := hid hkp
      clear hxk hxv hxx htk hitm hal3 hkp hnd hrd3 hJ1
      gi_wp2
      refine hR.mono ?_
      rintro e W3 (⟨rfl, hJ3, hk3⟩ | ⟨rfl, hJx3⟩)
      · have HJ3 := hid hJ3
        have HK3 := hid (keep_t HKP.out hk3)
        clear hJ3 hk3
        gi_wp2
        go_roundw
        case rel => exact ⟨k + 1, by omega, by simp, by rw [HTK.out]; exact HJ3.out, hid (HSN.out.keep HK3.out), hid (HSA.out.keep HK3.out), Nat.le_trans hws HK3.out.size⟩
        case measure => simp [intOf]; omega
      · have HJx3 := hid hJx3
        clear hJx3
        gi_wp2
        go_ret
        exact .inr ⟨rfl, _, by rw [← HTK.out]; exact List.take_prefix _ _, HJx3.out⟩
    · obtain rfl : k = l.length - i := by omega
      have e9 : (l.drop i).take (l.length - i) = l.drop i := List.take_of_length_le (by simp)
      rw [e9] at hJs
      gi_wp2
      go_ret
      exact .inl ⟨rfl, hJs⟩
end Go.Proofs.Ytbggeccaoibleaa.W08
namespace Go.Proofs.Ytbggeccaoibleaa.W08
open Go.RowKit Go.Shelf Go.Proofs.Ytbggeccaoibleaa.Lib Go.Proofs.Ytbggeccaoibleaa.Sha Go.Proofs.Ytbggeccaoibleaa.T08 Go.Proofs.Ytbggeccaoibleaa.QTail Go.Proofs.Ytbggeccaoibleaa.Itms Go.Proofs.Ytbggeccaoibleaa.WSeq Go.Proofs.Ytbggeccaoibleaa.Bld Go.Proofs.Ytbggeccaoibleaa.Mp Go.Proofs.Ytbggeccaoibleaa.Ord
attribute [local go_sem] Oper.semAt_some
attribute [local go_sem] Str_size Str_toList Str_extract Str_append Str_get bt_nn bt_lt List.length_append take_rest
theorem round_any {F : Fence} (hd : F.depth = none) {m m' : Nat} {P : Program} {l : Nat} {f : FuncId} {tmps : Array Value} {assign body : Code} {w : World} {R : Ending → World → Prop}
    (h : RoundIn F m P l f tmps assign body w R) : RoundIn F m' P l f tmps assign body w R := ⟨h.1, fun c cs _ => h.2 c cs (fun d h => by rw [hd] at h; cases h)⟩
theorem yield_any {F : Fence} (hd : F.depth = none) {m : Nat} (m' : Nat) {P : Program} {l : Nat} {args : Array Value} {W : World} {R : Ending → World → Prop} (h : YieldAt F m P l args W R) : YieldAt F m' P l args W R := by
  obtain ⟨fn, tmps, assign, body, hy, hR⟩ := h
  exact ⟨fn, tmps, assign, body, hy, round_any hd hR⟩
theorem place_nil (l : List Itm) : PlaceAt l [] 0 := ⟨Nat.zero_le _, fun t h => absurd h (Nat.not_lt_zero _), fun t _ _ => by unfold ltS; cases (itm l t).1 <;> rfl⟩
set_option maxRecDepth 100000 in
set_option maxHeartbeats 3200000 in
theorem from1_stops (n : Nat) (hn : 3 ≤ n) (hb mb m BX Bs Br Bk : Nat) (f : List UInt8 → Option (List UInt8)) (hf : ∀ k s, f k = some s → s.length ≤ 1000000000) (root : List UInt8) (hroot : root.length ≤ 1000000000) (l : List Itm) (hat : atS f root = some (0, l)) (hok : okS l = true) (hll : l.length ≤ 1000000) (hl0 : 0 < l.length)
    (w : World) (hH : HeapT w hb mb m f) (hBs : Bs < w.heap.size) (hBr : Br < w.heap.size) (hBk : Bk < w.heap.size) (hBX : BX < w.heap.size)
    (cs : w.cell? ⟨Bs, 0, none⟩ = some (.iface 32 (.pointer (some ⟨hb, 0, none⟩)))) (cr : w.cell? ⟨Br, 0, none⟩ = some (.string (Str root))) (ck : w.cell? ⟨Bk, 0, none⟩ = some (.string (Str []))) (cx : w.cell? ⟨BX, 0, none⟩ = some (.slice none 0 0)) :
    SeqStopsK Fence.wide n Try.prog 81 #[.pointer (some ⟨Bs, 0, none⟩), .pointer (some ⟨Br, 0, none⟩), .pointer (some ⟨Bk, 0, none⟩)] (fun x : Itm => #[.string (Str x.1), .string (Str x.2)]) (KeepBut BX) (fun ys => ys = l) (fun pre => pre <+: l) l.length w := by
  intro lp J Jx W hW hJ hJx hY h0
  have hHW := hH.below hW
  have cs1 := (hW.cell (p := ⟨Bs, 0, none⟩) hBs).trans cs
  have cr1 := (hW.cell (p := ⟨Br, 0, none⟩) hBr).trans cr
  have hsW := hW.size
  have hatc := callsIn_wide (n := n - 1) |>.2 (at_any hb mb m f hf root hroot W hHW)
  have HATC := hid hatc
  have hJb : ∀ s W1 W2, J s W1 → Below W1.heap.size W1 W2 → J s W2 := fun s W1 W2 h hB => abides_below hJ h hB
  refine callsIn_of_wp Try.func81 rfl trivial ?_ rfl
  simp only [Try.ntmps81, List.size_toArray, List.length_cons, List.length_nil, Nat.reduceAdd, Nat.reduceSub, Array.replicate_succ, Array.replicate_zero, List.push_toArray, List.append_toArray, List.nil_append, List.cons_append]
  clear hatc hJ hJx
  have hX0 : W.cell? ⟨BX, 0, none⟩ = some (.slice none 0 0) := (hW.cell (p := ⟨BX, 0, none⟩) hBX).trans cx
  have HCS := hid cs1
  have HCK := hid ((hW.cell (p := ⟨Bk, 0, none⟩) hBk).trans ck)
  gi_wp2
  refine ⟨trivial, fun h => (by simp [Fence.wide] at h), ?_⟩
  refine HATC.out.mono ?_; rintro e w1 ⟨ho, hb1⟩
  rcases ho with ⟨h1, _⟩ | ⟨lv, l', v, h1, rfl, hown⟩
  · rw [hat] at h1; cases h1
  · rw [hat] at h1
    injection h1 with h1; injection h1 with e1 e2
    subst e1; subst e2
    obtain ⟨A, c, rfl, hcc, hrd, _, _⟩ := Rd.own' hown
    obtain ⟨w2, hw2⟩ : ∃ w2, w2 = w1.alloc (Obj.cells #[.int .i64 0, .slice A l.length c] 79) := ⟨_, rfl⟩
    have hal : Below w1.heap.size w1 w2 := by rw [hw2]; exact below_al (below_rf w1) _
    have hnod : w2.heap[w1.heap.size]? = some (Obj.cells #[.int .i64 0, .slice A l.length c] 79 (0, 0)) := by rw [hw2]; exact heap_new w1 _
    have n0 : w2.cell? ⟨w1.heap.size, 0, none⟩ = some (.int .i64 0) := by rw [Go.Lib.cell_of_heap hnod]; rfl
    have n1 : w2.cell? ⟨w1.heap.size, 1, none⟩ = some (.slice A l.length c) := by rw [Go.Lib.cell_of_heap hnod]; rfl
    have hbW2 := below_tr hb1 hal
    have cs2 : w2.cell? ⟨Bs, 0, none⟩ = _ := (hbW2.cell (p := ⟨Bs, 0, none⟩) (by show Bs < _; omega)).trans HCS.out
    have ck2 : w2.cell? ⟨Bk, 0, none⟩ = _ := (hbW2.cell (p := ⟨Bk, 0, none⟩) (by show Bk < _; omega)).trans HCK.out
    have hX2 : ownOf BX w2 = none := by
      unfold ownOf
      rw [hbW2.cell (p := ⟨BX, 0, none⟩) (by show BX < _; omega), hX0]; rfl
    have hown2 := own_of_below hown hal
    have hwk := walk_leaf_in (n - 1) (by omega) lp BX hb A c l [] hll hcc hok 0 hl0 (place_nil l) J Jx w2 (fun s W1 W2 _ h hB => hJb s W1 W2 h hB) (Nat.lt_of_lt_of_le hBX (Nat.le_trans hsW hbW2.size))
      (fun pre x W1 hj hlen => yield_any rfl _ (hY pre x W1 hj (by simpa using hlen)))
      (hrd.below hal)
      (fun a ha => by
        subst ha
        have hlt := own_lt hown2 a.block rfl
        have hge := own_block_base hown2 a.block rfl
        refine ⟨safe_of (by omega) (by rw [hX2]; simp) hlt, ?_⟩
        rcases hown2.2 with ⟨e, _⟩ | ⟨g, cap, cur, e, _, hg, _⟩
        · injection e with e _ _; cases e
        · injection e with e _ _; injection e with e; subst e
          exact ⟨cur, _, _, hg⟩)
      (fun k hk => by rw [hX2] at hk; cases hk) (hJb _ _ _ h0 hbW2)
    have HWK := hid hwk
    clear hwk hY hat hown hrd hX0 hown2
    subst hw2
    gi_wp2
    refine ⟨trivial, fun h => (by simp [Fence.wide] at h), ?_⟩
    refine HWK.out.mono ?_; rintro e w3 (⟨rfl, hj⟩ | ⟨rfl, pre, hp, hj⟩)
    · have HJ := hid hj
      clear hj
      gi_wp2
      go_end0
      exact ⟨⟨_, rfl⟩, .inl ⟨l, rfl, by simpa using HJ.out⟩⟩
    · have HJ := hid hj
      clear hj
      gi_wp2
      go_end0
      exact ⟨⟨_, rfl⟩, .inr ⟨pre, by simpa using hp, HJ.out⟩⟩
theorem all_any (S : Value) (root : List UInt8) (w : World) (hb : Nat) (hS : S = .iface 32 (.pointer (some ⟨hb, 0, none⟩))) :
    Calls Try.prog 39 #[S, .string (Str root)] w fun e w' => e = .returned (.func (.func 81) #[] #[.pointer (some ⟨w.heap.size, 0, none⟩), .pointer (some ⟨w.heap.size + 1, 0, none⟩), .pointer (some ⟨w.heap.size + 1 + 1, 0, none⟩)]) ∧ w' = ((w.alloc (Obj.cells #[S] 89)).alloc (Obj.cells #[.string (Str root)] 9)).alloc (Obj.cells #[.string (Str [])] 9) := by
  subst hS
  go_enter Try.func39, Try.ntmps39
  go_wp2
  go_ret
  exact ⟨rfl, by rw [Str_nil]⟩
end Go.Proofs.Ytbggeccaoibleaa.W08
namespace Go.Proofs.Ytbggeccaoibleaa.W08
open Go.RowKit Go.Shelf Go.Proofs.Ytbggeccaoibleaa.Lib Go.Proofs.Ytbggeccaoibleaa.T08 Go.Proofs.Ytbggeccaoibleaa.Itms Go.Proofs.Ytbggeccaoibleaa.WSeq Go.Proofs.Ytbggeccaoibleaa.Bld
attribute [local go_sem] Oper.semAt_some
theorem wpListIn_app2 {F : Fence} {n : Nat} {P : Program} (w : World) {ops : Array Oper} {rest : List Oper} {o : Oper} {a : Act} {Q : Exit → Act → World → Prop} {t e : TypeId} {size bytes : Nat} (ti : TI P t e size bytes)
    (hg : o.guard = none) (s x : Operand) (hop : o.op = Op.call { callee := Callee.builtin Builtin.append, args := #[s, x], argTypes := #[t, t] }) (base : Nat) {v : Value} {k : Nat} {xs : List Value} (A : Option Addr) (m c : Nat) (news : List Value)
    (hs : a.eval s = v) (hx : a.eval x = .slice A m c) (hown : w.ownsRow base e size v k xs) (hl : news.length = m * size) (hr : Rd w A news) (hA : A = none → m = 0) (hsp : ∀ a, A = some a → a.spot = none) (h1 : ∀ u ∈ news, u.oneCell' = true) (hb0 : base ≤ w.heap.size) (hbytes : (k + m) * bytes ≤ 140737488355328)
    (hK : ∀ v' w', w'.ownsRow base e size v' (k + m) (xs ++ news) → w.grownBy w' v.ownBlock → (v'.ownBlock = v.ownBlock ∨ v'.ownBlock = some w.heap.size) → wpListIn F n P ops Q rest (a.put o.dst v') w') :
    wpListIn F n P ops Q (o :: rest) a w := by
  refine wpListIn_plain hg fun K hK' => ?_
  obtain ⟨v', w', hrun, r1, r2, r3⟩ := run_appS w ti o.type base hown A m c news hl hr hA hsp h1 hbytes hb0
  unfold Oper.wpIn
  refine ⟨?_, ?_⟩
  · simp [Oper.about, hop, resolve, Target.leads, Sem.run_pure]
  · rw [Oper.semAt_plain F _ _ (by rw [hop]; intro c hc'; cases hc')]
    simp [execOp, hop, resolve, invoke, builtin, hs, hx, hrun, Result.andThen]
    exact hK' _ _ (hK v' w' r1 r2 r3)
theorem keep_b {BX : Nat} {w : World} (hBX : BX < w.heap.size) (W : World) (l : Nat) (o o' : Obj) (hl : w.heap.size ≤ l) (h : W.heap[l]? = some o) (hc : o.isCells = false) (_ : o.isWalk = false) : KeepBut BX W (W.putObj l o') := by
  have hg := grownBy_putObj' W l o'
  have e : ownOf BX (W.putObj l o') = ownOf BX W := by
    unfold ownOf
    have h2 : BX < W.heap.size := Nat.lt_of_lt_of_le hBX (Nat.le_trans hl (Nat.le_of_lt (Array.getElem?_eq_some_iff.1 h).1))
    rw [cell?_of_heap (w := W) (w1 := W.putObj l o') (p := ⟨BX, 0, none⟩) (hg.block BX h2 (by simp; omega))]
  refine ⟨hg.size, fun k cs t fr h1 _ _ => ?_, fun k hk => .inl (e ▸ hk)⟩
  refine (hg.block k (Array.getElem?_eq_some_iff.1 h1).1 (fun e => ?_)).trans h1
  injection e with e
  subst e
  rw [h] at h1
  injection h1 with h1
  subst h1
  cases hc
set_option maxRecDepth 100000 in
set_option maxHeartbeats 3200000 in
theorem list_any (gf : Nat) (lb : Array Value) (eg : ∀ args w, (callFunc gf args).run Try.prog w = .ok (.enter gf args) w) (l : List Itm) (hl : l.length ≤ 1000000) (w : World)
    (hseq : SeqStopsK Fence.wide 4 Try.prog gf lb (fun x : Itm => #[.string (Str x.1), .string (Str x.2)]) (KeepBut w.heap.size) (fun ys => ys = l) (fun pre => pre <+: l) l.length (w.alloc (Obj.cells #[.slice none 0 0] 30))) :
    Calls Try.prog 19 #[.func (.func gf) #[] lb] w fun e w' => (∃ v, e = .returned v ∧ w'.ownsRow w.heap.size 75 2 v l.length (its l)) ∧ Below w.heap.size w w' := by
  refine (callsIn_wide (n := 5)).1 ?_
  refine callsIn_of_wp_marks Try.func19 rfl trivial ?_ rfl
  simp only [Try.ntmps19, List.size_toArray, List.length_cons, List.length_nil, Nat.reduceAdd, Nat.reduceSub, Array.replicate_succ, Array.replicate_zero, List.push_toArray, List.append_toArray, List.nil_append, List.cons_append]
  obtain ⟨w1, hw1⟩ : ∃ w1, w1 = w.alloc (Obj.cells #[.slice none 0 0] 30) := ⟨_, rfl⟩
  have z1 : w1.heap.size = w.heap.size + 1 := by rw [hw1]; simp
  have hB0 : Below w.heap.size w w1 := by rw [hw1]; exact below_al (below_rf w) _
  have bX : Boxed w1 w.heap.size 30 (.slice none 0 0) := by rw [hw1]; exact Boxed.new w _ _
  rw [← hw1] at hseq
  gi_wp2
  rw [← hw1]
  clear hw1
  refine wpIn_rangeFunc_ownG rfl (by omega) (gf := gf) (lb := lb) rfl trivial eg hseq keep_t (keep_b (by omega)) (Below.refl _ _) (fun _ => rfl)
    (fun pre W => (∃ v, Boxed W w.heap.size 30 v ∧ W.ownsRow w.heap.size 75 2 v pre.length (its pre) ∧ True) ∧ (Below w.heap.size w W ∧ pre.length ≤ l.length))
    (fun _ _ _ => False)
    (OwnFrom.and ((holdsRow_own w.heap.size w.heap.size 30 75 2 (fun pre : List Itm => pre.length) its (fun _ _ => True)).from _) (OwnFrom.and (ownFrom_below (Nat.le_refl _) (by omega)) (ownFrom_pure _ _)))
    (fun _ _ _ _ _ hs _ _ => hs)
    ⟨⟨.slice none 0 0, bX, own_nil _ _ _ _, trivial⟩, hB0, Nat.zero_le _⟩
    (fun x => { tmps := #[.func (.func gf) #[] lb, undef, .slice none 0 0, .pointer (some ⟨w.heap.size, 0, none⟩), .string (Str x.1), .string (Str x.2), .func (.func gf) #[] lb, .string (Str x.1), .string (Str x.2), undef, undef, undef, undef, undef, undef, undef], defers := [] }) ?assign ?body ?done ?stop
  case assign =>
    intro l x W K hK
    gi_wp2
    exact hK
  case body =>
    rintro lp pre x W ⟨⟨v, hbx, hown, _⟩, hB, hpl⟩ hlen
    have c0 := hbx.cell
    have f0 := hbx.frozen
    have hWs : w.heap.size + 1 ≤ W.heap.size := hbx.lt
    have hal := below_al (below_rf W) (Obj.cells #[.string (Str x.1), .string (Str x.2)] 75)
    have hown2 := own_of_below hown hal
    have hnews : Rd (W.alloc (Obj.cells #[.string (Str x.1), .string (Str x.2)] 75)) (some ⟨W.heap.size, 0, none⟩) [.string (Str x.1), .string (Str x.2)] := by
      refine .inr ⟨_, _, rfl, fun j y hj => ?_⟩
      rw [World.cell?_alloc_at _ _ _ _ rfl, Nat.zero_add, ← hj]
      simp
    gi_wp2_with (gi_at_builtin; refine wpListIn_app2 (v := v) _ ti_pair rfl _ _ rfl w.heap.size (some ⟨W.heap.size, 0, none⟩) 1 1 [.string (Str x.1), .string (Str x.2)] rfl rfl hown2 rfl hnews (by intro h; cases h) (by intro a h; injection h with h; subst h; rfl) (by simp [Value.oneCell']) (by simp; omega) (by omega) ?_; intro v' w2 ho2 hg2 hv2; obtain ⟨A2, c2, rfl⟩ := own_succ ho2; have hbx2 := (hbx.alloc (Obj.cells #[.string (Str x.1), .string (Str x.2)] 75)).kept hg2 ((hbx.alloc (Obj.cells #[.string (Str x.1), .string (Str x.2)] 75)).not_row (by decide) hown2); have d0 := hbx2.cell; have d1 := hbx2.frozen)
    gi_wp2
    have hz2 : (W.alloc (Obj.cells #[.string (Str x.1), .string (Str x.2)] 75)).heap.size = W.heap.size + 1 := by simp
    have hgs := hg2.size
    have hsl : (Value.slice A2 (pre.length + 1) c2).ownBlock ≠ some w.heap.size := by
      intro e
      exact Boxed.not_row hbx2 (by decide) ho2 e.symm
    have hox : ownOf w.heap.size W = v.ownBlock := by unfold ownOf; rw [c0]; rfl
    refine ⟨?_, ?_, ⟨_, hbx2.set _, ?_, trivial⟩, ?_, by simp; omega⟩
    · refine (((KeepsOthers.alloc W _).trans (KeepsOthers.of_grownBy hg2 fun j o ej hj => ?_)).trans (KeepsOthers.setCell _ _ _)).from _
      rcases hown2.2 with ⟨rfl, _⟩ | ⟨g, cap, cur, rfl, _, hgb, _⟩
      · simp [Value.ownBlock] at ej
      · obtain rfl : g = j := by simpa [Value.ownBlock] using ej
        rw [hgb] at hj; cases hj; rfl
    · refine ⟨by simp; omega, fun k cs t fr h1 h2 h3 => ?_, fun k hk => ?_⟩
      · have hk := (Array.getElem?_eq_some_iff.1 h1).1
        rw [heap_setCell_other w2 ⟨w.heap.size, 0, none⟩ k _ h2]
        refine (hg2.block k (by rw [hz2]; omega) (fun e => h3 (by rw [hox]; exact e.symm))).trans ?_
        exact (hal.block k hk).trans h1
      · have e1 : ownOf w.heap.size (w2.setCell ⟨w.heap.size, 0, none⟩ (.slice A2 (pre.length + 1) c2)) = (Value.slice A2 (pre.length + 1) c2).ownBlock := by
          unfold ownOf; rw [(hbx2.set (.slice A2 (pre.length + 1) c2)).cell]; rfl
        rw [e1] at hk
        rcases hv2 with h | h
        · left; rw [hox, ← h]; exact hk
        · right
          rw [h] at hk
          injection hk with hk
          omega
    · rw [its_app, List.length_append]
      exact own_setCell ho2 _ _ hsl
    · have hb2 : Below w.heap.size w w2 := (below_tr hB hal).grown hg2 (by rw [hz2]; omega) (fun k hk => own_block_base hown2 k hk)
      exact hb2.setCell (p := ⟨w.heap.size, 0, none⟩) (Nat.le_refl _) _
  case done =>
    rintro D ys W hD rfl ⟨⟨v, hbx, hown, _⟩, hB, _⟩ hK
    have c0 := hbx.cell
    gi_wp2
    refine ⟨by simp, .inl ⟨_, _, rfl, run_takeDeferred hK, ?_⟩⟩
    refine ⟨_, results_tmp rfl _ _ _, ⟨v, rfl, ownsRow_putObj hown _ hK rfl⟩, hB.trans (belowK_b (w := w) (Nat.le_refl _) W D _ _ (by omega) hK rfl rfl)⟩
  case stop =>
    rintro D c pre W _ _ h _
    exact h.elim
end Go.Proofs.Ytbggeccaoibleaa.W08
