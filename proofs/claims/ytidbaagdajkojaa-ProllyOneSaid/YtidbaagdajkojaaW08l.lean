/- The walks of layer 8: a run over a tree of one node. -/
import Derived.Test.YtidbaagdajkojaaW08q
set_option linter.unusedVariables false
set_option linter.unusedSimpArgs false
namespace Go.Proofs.Ytidbaagdajkojaa.W08
open Go.RowKit Go.Shelf Go.Proofs.Ytidbaagdajkojaa.Lib Go.Proofs.Ytidbaagdajkojaa.Sha Go.Proofs.Ytidbaagdajkojaa.T08 Go.Proofs.Ytidbaagdajkojaa.QTail Go.Proofs.Ytidbaagdajkojaa.Itms Go.Proofs.Ytidbaagdajkojaa.WSeq Go.Proofs.Ytidbaagdajkojaa.Bld Go.Proofs.Ytidbaagdajkojaa.Mp Go.Proofs.Ytidbaagdajkojaa.Ord
attribute [local go_sem] Oper.semAt_some
attribute [local go_sem] Str_size Str_toList Str_extract Str_append Str_get bt_nn bt_lt List.length_append take_rest
def ownOf (BX : Nat) (W : World) : Option Nat := (W.cell? ⟨BX, 0, none⟩).bind Value.ownBlock
/-- what a round keeps: all cells but one variable's, and the row that the variable owns -/
structure KeepBut (BX : Nat) (W W' : World) : Prop where
  size : W.heap.size ≤ W'.heap.size
  cells : ∀ k cs t fr, W.heap[k]? = some (.cells cs t fr) → k ≠ BX → ownOf BX W ≠ some k → W'.heap[k]? = some (.cells cs t fr)
  own : ∀ k, ownOf BX W' = some k → ownOf BX W = some k ∨ W.heap.size ≤ k
theorem keep_t {BX : Nat} {A B C : World} (h : KeepBut BX A B) (k : KeepBut BX B C) : KeepBut BX A C := by
  refine ⟨Nat.le_trans h.size k.size, fun j cs t fr h1 h2 h3 => ?_, fun j hj => ?_⟩
  · refine k.cells j cs t fr (h.cells j cs t fr h1 h2 h3) h2 (fun e => ?_)
    rcases h.own j e with e2 | e2
    · exact h3 e2
    · have := (Array.getElem?_eq_some_iff.1 h1).1; omega
  · rcases k.own j hj with e | e
    · exact h.own j e
    · exact .inr (Nat.le_trans h.size e)
theorem cell_putObj {W : World} {l : Nat} {o o' : Obj} (h : W.heap[l]? = some o) (hc : o.isCells = false) (hc' : o'.isCells = false) (p : Addr) : True := trivial
/-- a block is safe: it is not the variable's, nor the row's that the variable owns; it holds what it held -/
structure Safe (BX : Nat) (W0 W : World) (k : Nat) : Prop where
  ne : k ≠ BX
  own : ownOf BX W ≠ some k
  lt : k < W0.heap.size
  size : W0.heap.size ≤ W.heap.size
  same : ∀ cs t fr, W0.heap[k]? = some (.cells cs t fr) → W.heap[k]? = some (.cells cs t fr)
theorem Safe.keep {BX : Nat} {W0 W W1 : World} {k : Nat} (h : Safe BX W0 W k) (hk : KeepBut BX W W1) : Safe BX W0 W1 k := by
  refine ⟨h.ne, fun e => ?_, h.lt, Nat.le_trans h.size hk.size, fun cs t fr hc => hk.cells k cs t fr (h.same cs t fr hc) h.ne h.own⟩
  rcases hk.own k e with e2 | e2
  · exact h.own e2
  · have := h.lt; have := h.size; omega
theorem keep_below {BX : Nat} {W W1 : World} (hB : Below W.heap.size W W1) (hlt : BX < W.heap.size) : KeepBut BX W W1 := by
  have e : ownOf BX W1 = ownOf BX W := by unfold ownOf; rw [hB.cell (p := ⟨BX, 0, none⟩) hlt]
  exact ⟨hB.size, fun k cs t fr h1 _ _ => (hB.block k (Array.getElem?_eq_some_iff.1 h1).1).trans h1, fun k hk => .inl (e ▸ hk)⟩
theorem grown_below {W W1 : World} (hB : Below W.heap.size W W1) : W.grownBy W1 none := ⟨hB.os, hB.tape, hB.output, hB.size, fun k hk _ => hB.block k hk⟩
theorem abides_below {J : List Itm → World → Prop} {B : Nat} (hJ : AbidesFrom B J) {s : List Itm} {W W1 : World} (h : J s W) (hB : Below W.heap.size W W1) : J s W1 :=
  hJ s W W1 none h (grown_below hB) (fun r e => by cases e)
theorem Safe.rd {BX : Nat} {W0 W : World} {A : Option Addr} {xs : List Value} (hrd : Rd W0 A xs) (hs : ∀ a, A = some a → Safe BX W0 W a.block ∧ ∃ cs t fr, W0.heap[a.block]? = some (.cells cs t fr)) : Rd W A xs := by
  rcases hrd with h | ⟨b, o, rfl, h⟩
  · exact .inl h
  · obtain ⟨h1, cs, t, fr, h2⟩ := hs _ rfl
    refine .inr ⟨b, o, rfl, fun j x hj => ?_⟩
    rw [← h j x hj]
    exact cell?_of_heap (by show W.heap[b]? = W0.heap[b]?; rw [h2]; exact h1.same cs t fr h2)
theorem safe_of {BX : Nat} {W : World} {k : Nat} (h1 : k ≠ BX) (h2 : ownOf BX W ≠ some k) (h3 : k < W.heap.size) : Safe BX W W k := ⟨h1, h2, h3, Nat.le_refl _, fun _ _ _ h => h⟩
theorem Safe.move {BX : Nat} {W0 W1 W : World} {k : Nat} (h : Safe BX W0 W1 k) (h2 : Safe BX W1 W k) : Safe BX W0 W k :=
  ⟨h.ne, h2.own, h.lt, Nat.le_trans h.size h2.size, fun cs t fr hc => h2.same cs t fr (h.same cs t fr hc)⟩
set_option maxRecDepth 100000 in
set_option maxHeartbeats 3200000 in
theorem walk_leaf_in (n : Nat) (hn : 1 ≤ n) (lp BX hb : Nat) (A : Option Addr) (c : Nat) (l : List Itm) (key : List UInt8) (hll : l.length ≤ 1000000) (hcc : l.length ≤ c) (hok : okS l = true) (i : Nat) (hil : i < l.length) (hp : PlaceAt l key i) (J Jx : List Itm → World → Prop)
    (W : World) (hJ : ∀ s W1 W2, W.heap.size ≤ W1.heap.size → J s W1 → Below W1.heap.size W1 W2 → J s W2) (hBX : BX < W.heap.size)
    (hY : ∀ pre x W1, J pre W1 → pre.length < (l.drop i).length → YieldAt Fence.wide (n - 1) Try.prog lp #[.string (Str x.1), .string (Str x.2)] W1 fun e W' =>
      (e = .returned (.bool true) ∧ J (pre ++ [x]) W' ∧ KeepBut BX W1 W') ∨ (e = .returned (.bool false) ∧ Jx (pre ++ [x]) W'))
    (hrd : Rd W A (its l)) (hsafe : ∀ a, A = some a → Safe BX W W a.block ∧ ∃ cs t fr, W.heap[a.block]? = some (.cells cs t fr)) (hown : ∀ k, ownOf BX W = some k → k < W.heap.size) (h0 : J [] W) :
    CallsIn Fence.wide n Try.prog 63 #[.agg #[.int .i64 0, .slice A l.length c], .iface 45 (.pointer (some ⟨hb, 0, none⟩)), .string (Str key), .func (.yield lp) #[] #[]] W fun e W' => (e = .returned (.bool true) ∧ J (l.drop i) W') ∨ (e = .returned (.bool false) ∧ ∃ pre, pre <+: l.drop i ∧ Jx pre W') := by
  obtain ⟨b, o, rfl, _, _⟩ := rd_itm hrd hil
  have HP := hid hp
  have HOK := hid hok
  have HRD := hid hrd
  have HSF := hid hsafe
  have hci : ¬ c = i := by omega
  obtain ⟨W1, hW1⟩ : ∃ W1, W1 = W.alloc (Obj.cells #[.int .i64 0, .slice (some ⟨b, o, none⟩) l.length c] 58) := ⟨_, rfl⟩
  have hal : Below W.heap.size W W1 := by rw [hW1]; exact below_al (below_rf W) _
  have hz1 : W1.heap.size = W.heap.size + 1 := by rw [hW1]; simp
  have hnod : W1.heap[W.heap.size]? = some (Obj.cells #[.int .i64 0, .slice (some ⟨b, o, none⟩) l.length c] 58 (0, 0)) := by rw [hW1]; exact heap_new W _
  have hcn0 : ∀ W', Below W1.heap.size W1 W' → W'.cell? ⟨W.heap.size, 0, none⟩ = some (.int .i64 0) := fun W' h => by
    rw [h.cell (p := ⟨W.heap.size, 0, none⟩) (by rw [hz1]; exact Nat.lt_succ_self _), Go.Lib.cell_of_heap hnod]; rfl
  have hcn1 : ∀ W', Below W1.heap.size W1 W' → W'.cell? ⟨W.heap.size, 1, none⟩ = some (.slice (some ⟨b, o, none⟩) l.length c) := fun W' h => by
    rw [h.cell (p := ⟨W.heap.size, 1, none⟩) (by rw [hz1]; exact Nat.lt_succ_self _), Go.Lib.cell_of_heap hnod]; rfl
  have hpl : ∀ W', Below W1.heap.size W1 W' → Calls Try.prog 39 #[.agg #[.int .i64 0, .slice (some ⟨b, o, none⟩) l.length c], .string (Str key)] W' fun e w' => e = .returned (.int .i64 (i : Int)) ∧ Below W1.heap.size W1 w' := fun W' hW' => by
    refine (place_any 0 (some ⟨b, o, none⟩) c l key (by omega) hok W' ((hrd.below hal).below hW')).mono ?_
    rintro e w2 ⟨⟨j, rfl, hj⟩, hb2⟩
    rw [place_one l key j i hj hp]
    exact ⟨rfl, hW'.trans (hb2.mono hW'.size)⟩
  have HAL := hid hal
  have HZ1 := hid hz1
  have HNOD := hid hnod
  have HOWN := hid hown
  clear hp hok hrd hsafe hnod hz1 hal hown
  refine callsIn_of_wp Try.func63 rfl trivial ?_ rfl
  simp only [Try.ntmps63, List.size_toArray, List.length_cons, List.length_nil, Nat.reduceAdd, Nat.reduceSub, Array.replicate_succ, Array.replicate_zero, List.push_toArray, List.append_toArray, List.nil_append, List.cons_append]
  gi_wp2
  rw [← hW1]
  clear hW1
  refine wpIn_wide.2 ?_
  refine wp_region_mild W1.heap.size (by kernel_rfl) (by kernel_rfl) ?_
  repeat (
    refine wpQuiet_step (fun K hK => ?_)
    first
      | (refine mild_skip (by rfl) (hK _ ?_)
         clear hK K)
      | (refine mild_read (by rfl) ?_
         apply Exists.intro
         refine ⟨fun W hW => ?_, hK _ ?_⟩
         (go_simp; first | rfl | (rw [if_neg (by omega)]) | (rw [if_pos (by omega)]))
         clear hK K)
      | (refine mild_call (by rfl) ?_
         apply Exists.intro
         apply Exists.intro
         refine ⟨fun W hW => ?_, ?_⟩
         (go_simp; exact ⟨rfl, rfl⟩)
         apply Exists.intro
         refine ⟨fun W hW => ?_, hK _ ?_⟩
         (with_reducible exact (hpl W hW))
         clear hK K)
    go_simp)
  refine wpQuiet_nil ?_
  intro W2 hW2
  have hB02 : Below W.heap.size W W2 := below_tr HAL.out hW2
  have hJ2 := hJ _ W W2 (Nat.le_refl _) h0 hB02
  have hk2 := keep_below hB02 hBX
  have HSN := hid (show Safe BX W1 W2 W.heap.size from
    Safe.keep (safe_of (by omega) (fun e => by
      have h1 : ownOf BX W1 = ownOf BX W := by unfold ownOf; rw [HAL.out.cell (p := ⟨BX, 0, none⟩) hBX]
      rw [h1] at e
      have := HOWN.out _ e
      omega) (by have := HZ1.out; omega)) (keep_below hW2 (by have := HZ1.out; omega)))
  have HSA := hid (show Safe BX W W2 b from ((HSF.out _ rfl).1).keep hk2)
  have hW2s : W.heap.size ≤ W2.heap.size := hB02.size
  clear hcn0 hcn1 hpl hk2 hB02
  gi_wp2
  gi_loopw [20] (fun ix wr => ∃ k : Nat, k ≤ l.length - i ∧ ix = .int .i64 (k : Int) ∧ J ((l.drop i).take k) wr ∧ Hid (Safe BX W1 wr W.heap.size) ∧ Hid (Safe BX W wr b) ∧ W.heap.size ≤ wr.heap.size) (fun ix _ => l.length - i - (intOf ix).toNat)
  case atStart => exact ⟨0, by omega, rfl, hJ2, HSN, HSA, hW2s⟩
  case round =>
    clear hJ2 HSN HSA hW2s hW2
    obtain ⟨k, hk, rfl, hJs, HSN, HSA, hws⟩ := hrel
    by_cases hlt : k < l.length - i
    · have hnd := HSN.out.same _ _ _ HNOD.out
      have n0 : wr.cell? ⟨W.heap.size, 0, none⟩ = some (.int .i64 0) := by rw [Go.Lib.cell_of_heap hnd]; rfl
      have hrd3 : Rd wr (some ⟨b, o, none⟩) (its l) := Safe.rd HRD.out (fun a e => by
        injection e with e; subst e
        obtain ⟨_, cs, t, fr, h2⟩ := HSF.out _ rfl
        exact ⟨HSA.out, cs, t, fr, h2⟩)
      obtain ⟨b', o', e, hc1, hc2⟩ := rd_itm hrd3 (j := i + k) (by omega)
      injection e with e; injection e with e1 e2; subst e1; subst e2
      rw [show o + (i + k) * 2 = o + i * 2 + k * 2 by omega] at hc1 hc2
      have hitm : itm (l.drop i) k = itm l (i + k) := by simp [itm, List.getD_eq_getElem?_getD]
      have htk := take_itm (l.drop i) k (by simp; omega)
      rw [hitm] at htk
      obtain ⟨xk, hxk⟩ : ∃ xk, xk = (itm l (i + k)).1 := ⟨_, rfl⟩
      obtain ⟨xv, hxv⟩ : ∃ xv, xv = (itm l (i + k)).2 := ⟨_, rfl⟩
      have hxx : itm l (i + k) = (xk, xv) := by rw [hxk, hxv]
      rw [← hxk] at hc1
      rw [← hxv] at hc2
      rw [hxx] at htk
      have HTK := hid htk
      have hal3 : Below wr.heap.size wr (wr.alloc (Obj.cells #[.string (Str xk), .string (Str xv)] 42)) := below_al (below_rf wr) _
      have n0' := (hal3.cell (p := ⟨W.heap.size, 0, none⟩) (Nat.lt_of_lt_of_le HSN.out.lt HSN.out.size)).trans n0
      have hJ1 := hJ _ _ _ hws hJs hal3
      have hkp := keep_below hal3 (by omega : BX < wr.heap.size)
      obtain ⟨fn, tmps, assign, body, hy, hR⟩ := hY ((l.drop i).take k) (xk, xv) _ hJ1 (by simp; omega)
      dsimp only at hy
      have HKP := hid hkp
      clear hxk hxv hxx htk hitm hal3 hkp hnd hrd3 hJ1
      gi_wp2
      refine hR.mono ?_
      rintro e W3 (⟨rfl, hJ3, hk3⟩ | ⟨rfl, hJx3⟩)
      · have HJ3 := hid hJ3
        have HK3 := hid (keep_t HKP.out hk3)
        clear hJ3 hk3
        gi_wp2
        go_roundw
        case rel => exact ⟨k + 1, by omega, by simp, by rw [HTK.out]; exact HJ3.out, hid (HSN.out.keep HK3.out), hid (HSA.out.keep HK3.out), Nat.le_trans hws HK3.out.size⟩
        case measure => simp [intOf]; omega
      · have HJx3 := hid hJx3
        clear hJx3
        gi_wp2
        go_ret
        exact .inr ⟨rfl, _, by rw [← HTK.out]; exact List.take_prefix _ _, HJx3.out⟩
    · obtain rfl : k = l.length - i := by omega
      have e9 : (l.drop i).take (l.length - i) = l.drop i := List.take_of_length_le (by simp)
      rw [e9] at hJs
      gi_wp2
      go_ret
      exact .inl ⟨rfl, hJs⟩
end Go.Proofs.Ytidbaagdajkojaa.W08
