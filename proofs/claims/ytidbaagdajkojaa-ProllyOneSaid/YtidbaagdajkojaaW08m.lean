/- The walks of layer 8: all pairs of a tree of one node. -/
import Derived.Test.YtidbaagdajkojaaW08l
set_option linter.unusedVariables false
set_option linter.unusedSimpArgs false
namespace Go.Proofs.Ytidbaagdajkojaa.W08
open Go.RowKit Go.Shelf Go.Proofs.Ytidbaagdajkojaa.Lib Go.Proofs.Ytidbaagdajkojaa.Sha Go.Proofs.Ytidbaagdajkojaa.T08 Go.Proofs.Ytidbaagdajkojaa.QTail Go.Proofs.Ytidbaagdajkojaa.Itms Go.Proofs.Ytidbaagdajkojaa.WSeq Go.Proofs.Ytidbaagdajkojaa.Bld Go.Proofs.Ytidbaagdajkojaa.Mp Go.Proofs.Ytidbaagdajkojaa.Ord
attribute [local go_sem] Oper.semAt_some
attribute [local go_sem] Str_size Str_toList Str_extract Str_append Str_get bt_nn bt_lt List.length_append take_rest
theorem round_any {F : Fence} (hd : F.depth = none) {m m' : Nat} {P : Program} {l : Nat} {f : FuncId} {tmps : Array Value} {assign body : Code} {w : World} {R : Ending → World → Prop}
    (h : RoundIn F m P l f tmps assign body w R) : RoundIn F m' P l f tmps assign body w R := ⟨h.1, fun c cs _ => h.2 c cs (fun d h => by rw [hd] at h; cases h)⟩
theorem yield_any {F : Fence} (hd : F.depth = none) {m : Nat} (m' : Nat) {P : Program} {l : Nat} {args : Array Value} {W : World} {R : Ending → World → Prop} (h : YieldAt F m P l args W R) : YieldAt F m' P l args W R := by
  obtain ⟨fn, tmps, assign, body, hy, hR⟩ := h
  exact ⟨fn, tmps, assign, body, hy, round_any hd hR⟩
theorem place_nil (l : List Itm) : PlaceAt l [] 0 := ⟨Nat.zero_le _, fun t h => absurd h (Nat.not_lt_zero _), fun t _ _ => by unfold ltS; cases (itm l t).1 <;> rfl⟩
set_option maxRecDepth 100000 in
set_option maxHeartbeats 3200000 in
theorem from1_stops (n : Nat) (hn : 3 ≤ n) (hb mb m BX Bs Br Bk : Nat) (f : List UInt8 → Option (List UInt8)) (hf : ∀ k s, f k = some s → s.length ≤ 1000000000) (root : List UInt8) (hroot : root.length ≤ 1000000000) (l : List Itm) (hat : atS f root = some (0, l)) (hok : okS l = true) (hll : l.length ≤ 1000000) (hl0 : 0 < l.length)
    (w : World) (hH : HeapT w hb mb m f) (hBs : Bs < w.heap.size) (hBr : Br < w.heap.size) (hBk : Bk < w.heap.size) (hBX : BX < w.heap.size)
    (cs : w.cell? ⟨Bs, 0, none⟩ = some (.iface 45 (.pointer (some ⟨hb, 0, none⟩)))) (cr : w.cell? ⟨Br, 0, none⟩ = some (.string (Str root))) (ck : w.cell? ⟨Bk, 0, none⟩ = some (.string (Str []))) (cx : w.cell? ⟨BX, 0, none⟩ = some (.slice none 0 0)) :
    SeqStopsK Fence.wide n Try.prog 62 #[.pointer (some ⟨Bs, 0, none⟩), .pointer (some ⟨Br, 0, none⟩), .pointer (some ⟨Bk, 0, none⟩)] (fun x : Itm => #[.string (Str x.1), .string (Str x.2)]) (KeepBut BX) (fun ys => ys = l) (fun pre => pre <+: l) l.length w := by
  intro lp J Jx W hW hJ hJx hY h0
  have hHW := hH.below hW
  have cs1 := (hW.cell (p := ⟨Bs, 0, none⟩) hBs).trans cs
  have cr1 := (hW.cell (p := ⟨Br, 0, none⟩) hBr).trans cr
  have hsW := hW.size
  have hatc := callsIn_wide (n := n - 1) |>.2 (at_any hb mb m f hf root hroot W hHW)
  have HATC := hid hatc
  have hJb : ∀ s W1 W2, J s W1 → Below W1.heap.size W1 W2 → J s W2 := fun s W1 W2 h hB => abides_below hJ h hB
  refine callsIn_of_wp Try.func62 rfl trivial ?_ rfl
  simp only [Try.ntmps62, List.size_toArray, List.length_cons, List.length_nil, Nat.reduceAdd, Nat.reduceSub, Array.replicate_succ, Array.replicate_zero, List.push_toArray, List.append_toArray, List.nil_append, List.cons_append]
  clear hatc hJ hJx
  have hX0 : W.cell? ⟨BX, 0, none⟩ = some (.slice none 0 0) := (hW.cell (p := ⟨BX, 0, none⟩) hBX).trans cx
  have HCS := hid cs1
  have HCK := hid ((hW.cell (p := ⟨Bk, 0, none⟩) hBk).trans ck)
  gi_wp2
  refine ⟨trivial, fun h => (by simp [Fence.wide] at h), ?_⟩
  refine HATC.out.mono ?_; rintro e w1 ⟨ho, hb1⟩
  rcases ho with ⟨h1, _⟩ | ⟨lv, l', v, h1, rfl, hown⟩
  · rw [hat] at h1; cases h1
  · rw [hat] at h1
    injection h1 with h1; injection h1 with e1 e2
    subst e1; subst e2
    obtain ⟨A, c, rfl, hcc, hrd, _, _⟩ := Rd.own' hown
    obtain ⟨w2, hw2⟩ : ∃ w2, w2 = w1.alloc (Obj.cells #[.int .i64 0, .slice A l.length c] 58) := ⟨_, rfl⟩
    have hal : Below w1.heap.size w1 w2 := by rw [hw2]; exact below_al (below_rf w1) _
    have hnod : w2.heap[w1.heap.size]? = some (Obj.cells #[.int .i64 0, .slice A l.length c] 58 (0, 0)) := by rw [hw2]; exact heap_new w1 _
    have n0 : w2.cell? ⟨w1.heap.size, 0, none⟩ = some (.int .i64 0) := by rw [Go.Lib.cell_of_heap hnod]; rfl
    have n1 : w2.cell? ⟨w1.heap.size, 1, none⟩ = some (.slice A l.length c) := by rw [Go.Lib.cell_of_heap hnod]; rfl
    have hbW2 := below_tr hb1 hal
    have cs2 : w2.cell? ⟨Bs, 0, none⟩ = _ := (hbW2.cell (p := ⟨Bs, 0, none⟩) (by show Bs < _; omega)).trans HCS.out
    have ck2 : w2.cell? ⟨Bk, 0, none⟩ = _ := (hbW2.cell (p := ⟨Bk, 0, none⟩) (by show Bk < _; omega)).trans HCK.out
    have hX2 : ownOf BX w2 = none := by
      unfold ownOf
      rw [hbW2.cell (p := ⟨BX, 0, none⟩) (by show BX < _; omega), hX0]; rfl
    have hown2 := own_of_below hown hal
    have hwk := walk_leaf_in (n - 1) (by omega) lp BX hb A c l [] hll hcc hok 0 hl0 (place_nil l) J Jx w2 (fun s W1 W2 _ h hB => hJb s W1 W2 h hB) (Nat.lt_of_lt_of_le hBX (Nat.le_trans hsW hbW2.size))
      (fun pre x W1 hj hlen => yield_any rfl _ (hY pre x W1 hj (by simpa using hlen)))
      (hrd.below hal)
      (fun a ha => by
        subst ha
        have hlt := own_lt hown2 a.block rfl
        have hge := own_block_base hown2 a.block rfl
        refine ⟨safe_of (by omega) (by rw [hX2]; simp) hlt, ?_⟩
        rcases hown2.2 with ⟨e, _⟩ | ⟨g, cap, cur, e, _, hg, _⟩
        · injection e with e _ _; cases e
        · injection e with e _ _; injection e with e; subst e
          exact ⟨cur, _, _, hg⟩)
      (fun k hk => by rw [hX2] at hk; cases hk) (hJb _ _ _ h0 hbW2)
    have HWK := hid hwk
    clear hwk hY hat hown hrd hX0 hown2
    subst hw2
    gi_wp2
    refine ⟨trivial, fun h => (by simp [Fence.wide] at h), ?_⟩
    refine HWK.out.mono ?_; rintro e w3 (⟨rfl, hj⟩ | ⟨rfl, pre, hp, hj⟩)
    · have HJ := hid hj
      clear hj
      gi_wp2
      go_end0
      exact ⟨⟨_, rfl⟩, .inl ⟨l, rfl, by simpa using HJ.out⟩⟩
    · have HJ := hid hj
      clear hj
      gi_wp2
      go_end0
      exact ⟨⟨_, rfl⟩, .inr ⟨pre, by simpa using hp, HJ.out⟩⟩
theorem all_any (S : Value) (root : List UInt8) (w : World) (hb : Nat) (hS : S = .iface 45 (.pointer (some ⟨hb, 0, none⟩))) :
    Calls Try.prog 21 #[S, .string (Str root)] w fun e w' => e = .returned (.func (.func 62) #[] #[.pointer (some ⟨w.heap.size, 0, none⟩), .pointer (some ⟨w.heap.size + 1, 0, none⟩), .pointer (some ⟨w.heap.size + 1 + 1, 0, none⟩)]) ∧ w' = ((w.alloc (Obj.cells #[S] 80)).alloc (Obj.cells #[.string (Str root)] 9)).alloc (Obj.cells #[.string (Str [])] 9) := by
  subst hS
  go_enter Try.func21, Try.ntmps21
  go_wp2
  go_ret
  exact ⟨rfl, by rw [Str_nil]⟩
end Go.Proofs.Ytidbaagdajkojaa.W08
