/- The walks of layer 8: the three keys that every statement begins with. -/
import Derived.Test.YtbggeccaoibleaaW08l
import Derived.Test.YtbggeccaoibleaaW08f
set_option linter.unusedVariables false
set_option linter.unusedSimpArgs false
namespace Go.Proofs.Ytbggeccaoibleaa.W08
open Go.RowKit Go.Shelf Go.Proofs.Ytbggeccaoibleaa.Lib Go.Proofs.Ytbggeccaoibleaa.Sha Go.Proofs.Ytbggeccaoibleaa.T07 Go.Proofs.Ytbggeccaoibleaa.T08 Go.Proofs.Ytbggeccaoibleaa.Itms Go.Proofs.Ytbggeccaoibleaa.WSeq Go.Proofs.Ytbggeccaoibleaa.Bld Go.Proofs.Ytbggeccaoibleaa.Mp Go.Proofs.Ytbggeccaoibleaa.Ord
attribute [local go_sem] Str_size Str_toList Str_extract Str_append Str_get bt_nn bt_lt List.length_append take_rest sha_len
def l2 : List Itm := [([97], [49]), ([98], [50])]
def nd2 : List UInt8 := [80, 0, 2, 0, 1, 97, 0, 1, 49, 0, 1, 98, 0, 1, 50]
theorem nd2_eq : nodeB 0 l2 = nd2 := by decide
theorem right2 : rightS l2 = true := by decide
theorem parse2 : parseS nd2 = some (0, l2) := by decide
theorem cut2 : cutS (l2.map form) = [2] := by
  have hp : partS (l2.map form) = 2 := by
    unfold partS
    rw [partGo_stop _ _ _ _ (by decide)]
    rfl
  rw [cut_cons _ (by decide), hp]
  rfl
theorem tree2 : treeS l2 = (sha nd2, [nd2]) := by
  have h1 : levelS 0 l2 = ([upS 0 l2], [nodeB 0 l2]) := by
    unfold levelS; rw [cut2]; rfl
  rw [treeS, if_neg (by decide), h1, rise_one 1 _ rfl, List.append_nil, nd2_eq]
  have h2 : (upS 0 l2).2 = sha nd2 ++ be 2 8 := by rw [upS, nd2_eq]; rfl
  show ((upS 0 l2).2.take 32, [nd2]) = _
  rw [h2, List.take_left' (sha_len _)]
theorem heap2 : heapF [nd2] = putF (fun _ => none) (sha nd2) nd2 := rfl
theorem place2 : PlaceAt l2 [98] 1 := by
  refine ⟨by decide, fun t h => ?_, fun t h1 h2 => ?_⟩
  · obtain rfl : t = 0 := by omega
    decide
  · obtain rfl : t = 1 := by simp [l2] at h2; omega
    decide
set_option maxRecDepth 100000 in
set_option maxHeartbeats 3200000 in
theorem awake_gen (rt nd : List UInt8) (f : List UInt8 → Option (List UInt8)) (hT : treeS l2 = (rt, [nd])) (hrt : rt.length ≤ 1000000000) (hnd : nd.length ≤ 1000000000) (hF : heapF [nd] = f) (hff : ∀ k s, f k = some s → s.length ≤ 1000000000) (hat : atS f rt = some (0, l2)) (w : World) : Calls Try.prog 13 #[] w fun e w' => e = .returned (.bool true) ∧ Below w.heap.size w w' := by
  obtain ⟨w1, hw1⟩ : ∃ w1, w1 = w.alloc (Obj.cells #[.string (Str [97]), .string (Str [49]), .string (Str [98]), .string (Str [50])] 75) := ⟨_, rfl⟩
  have hal1 : Below w.heap.size w w1 := by rw [hw1]; exact below_al (below_rf w) _
  have hz1 : w.heap.size < w1.heap.size := by rw [hw1]; simp
  have hr1 : Rd w1 (some ⟨w.heap.size, 0, none⟩) (its l2) := by
    refine .inr ⟨_, _, rfl, fun j x hj => ?_⟩
    rw [hw1, World.cell?_alloc_at _ _ _ _ rfl, Nat.zero_add, ← hj]
    simp [its, l2]
  have hbu := build_any (some ⟨w.heap.size, 0, none⟩) 2 l2 (by decide) (by decide) w1 (fun b o e => by injection e with e; injection e with e _; subst e; exact hz1) hr1
  have HBU := hid hbu
  clear hbu hr1 hz1
  rw [Str_def, Str_def, Str_def, Str_def] at hw1
  go_enter Try.func13, Try.ntmps13
  go_wp2_with fail
  rw [← hw1]
  clear hw1
  refine HBU.out.mono ?_; rintro e w2 ⟨ho, hb2⟩
  rcases ho with ⟨hf, _⟩ | ⟨_, v, rfl, hown⟩
  · rw [right2] at hf; cases hf
  · rw [hT] at hown ⊢
    obtain ⟨A, c, rfl, hcc, hrd, _, _⟩ := Rd.own' hown
    have hB2 := below_tr hal1 hb2
    have hnh := newheap_any [nd] A c w2 (by simp) hrd (fun i hi => by
      obtain rfl : i = 0 := by simp at hi; omega
      exact hnd)
    rw [hF] at hnh
    have HNH := hid hnh
    clear hown hrd hnh HBU hal1 hb2
    go_wp2_with fail
    refine HNH.out.mono ?_; rintro e w3 ⟨⟨hb, mb, n, rfl, hn, hH, _, _⟩, hb3⟩
    have hB3 := below_tr hB2 hb3
    have hfi := find_leaf hb mb n f hff rt [98] hrt l2 hat (right_ok right2) (by decide) 1 (by decide) place2 rfl w3 hH
    have HFI := hid hfi
    have HH := hid hH
    clear hfi hH HNH hB2 hb3
    go_wp2_with fail
    rw [show (⟨#[98]⟩ : ByteArray) = Str [98] by rw [Str_def]]
    refine HFI.out.mono ?_; rintro e w4 ⟨rfl, hb4⟩
    rw [show Str (itm l2 1).2 = (⟨#[50]⟩ : ByteArray) by rw [Str_def]; rfl]
    have hB4 := below_tr hB3 hb4
    have hH4 := HH.out.below hb4
    have HH4 := hid hH4
    clear hH4 HH HFI hB3 hb4
    go_wp2_with fail
    refine (all_any _ rt w4 hb rfl).mono ?_; rintro e w5 ⟨rfl, hw5⟩
    have hb5 : Below w4.heap.size w4 w5 := by rw [hw5]; exact below_al (below_al (below_al (below_rf w4) _) _) _
    have hz5 : w5.heap.size = w4.heap.size + 3 := by rw [hw5]; simp
    have k0 : w5.heap[w4.heap.size]? = some (Obj.cells #[.iface 32 (.pointer (some ⟨hb, 0, none⟩))] 89 (0, 0)) := by rw [hw5, heap_old _ _ (by simp; omega), heap_old _ _ (by simp), heap_new]
    have k1 : w5.heap[w4.heap.size + 1]? = some (Obj.cells #[.string (Str rt)] 9 (0, 0)) := by rw [hw5, heap_old _ _ (by simp)]; exact heap_new' _ _ (by simp)
    have k2 : w5.heap[w4.heap.size + 1 + 1]? = some (Obj.cells #[.string (Str [])] 9 (0, 0)) := by rw [hw5]; exact heap_new' _ _ (by simp)
    have hal := below_al (below_rf w5) (Obj.cells #[.slice none 0 0] 30)
    have hst := from1_stops 4 (by omega) hb mb n w5.heap.size w4.heap.size (w4.heap.size + 1) (w4.heap.size + 1 + 1) f hff rt hrt l2 hat (right_ok right2) (by decide) (by decide) (w5.alloc (Obj.cells #[.slice none 0 0] 30)) ((HH4.out.below hb5).below hal) (by simp; omega) (by simp; omega) (by simp; omega) (by simp)
      (by rw [hal.cell (p := ⟨w4.heap.size, 0, none⟩) (by show w4.heap.size < w5.heap.size; omega), Go.Lib.cell_of_heap k0]; rfl)
      (by rw [hal.cell (p := ⟨w4.heap.size + 1, 0, none⟩) (by show w4.heap.size + 1 < w5.heap.size; omega), Go.Lib.cell_of_heap k1]; rfl)
      (by rw [hal.cell (p := ⟨w4.heap.size + 1 + 1, 0, none⟩) (by show w4.heap.size + 1 + 1 < w5.heap.size; omega), Go.Lib.cell_of_heap k2]; rfl)
      ((Boxed.new w5 _ _).cell)
    have hli := list_any 81 #[.pointer (some ⟨w4.heap.size, 0, none⟩), .pointer (some ⟨w4.heap.size + 1, 0, none⟩), .pointer (some ⟨w4.heap.size + 1 + 1, 0, none⟩)] (enters_of Try.func81 (by kernel_rfl) rfl) l2 (by decide) w5 hst
    have HLI := hid hli
    have HB5 := hid (below_tr hB4 hb5)
    clear hst hli hal k0 k1 k2 hz5 hw5 hb5 hB4 HH4
    go_wp2_with fail
    refine HLI.out.mono ?_; rintro e w6 ⟨⟨v, rfl, hown⟩, hb6⟩
    obtain ⟨A6, c6, rfl⟩ := own_succ hown
    rw [show l2.length = 2 from rfl]
    have HB6 := hid (below_tr HB5.out hb6)
    clear hown hb6
    go_wp2
    go_ret
    exact ⟨rfl, HB6.out⟩
theorem put_hff (rt nd : List UInt8) (N : Nat) (h : nd.length ≤ N) : ∀ k s, putF (fun _ => none) rt nd k = some s → s.length ≤ N := by
  intro k s hk
  unfold putF at hk
  split at hk
  · injection hk with hk; subst hk; exact h
  · cases hk
theorem put_at (rt nd : List UInt8) (l : List Itm) (h : parseS nd = some (0, l)) : atS (putF (fun _ => none) rt nd) rt = some (0, l) := by
  unfold atS putF
  rw [if_pos rfl]
  exact h
theorem sha_short (s : List UInt8) : (sha s).length ≤ 1000000000 := by rw [sha_len]; decide
theorem awake_any (w : World) : Calls Try.prog 13 #[] w fun e w' => e = .returned (.bool true) ∧ Below w.heap.size w w' :=
  awake_gen (sha nd2) nd2 (putF (fun _ => none) (sha nd2) nd2) tree2 (sha_short nd2) (by decide) heap2 (put_hff _ _ _ (by decide)) (put_at _ _ _ parse2) w
end Go.Proofs.Ytbggeccaoibleaa.W08
