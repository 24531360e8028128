/- The walks of layer 8: heaps. -/
import Derived.Test.YtoidbgedpakjmaaMap
import Derived.Test.YtoidbgedpakjmaaW08
import Derived.Test.YtoidbgedpakjmaaW01c
set_option linter.unusedVariables false
set_option linter.unusedSimpArgs false
namespace Go.Proofs.Ytoidbgedpakjmaa.W08
open Go.RowKit Go.Proofs.Ytoidbgedpakjmaa.Lib Go.Proofs.Ytoidbgedpakjmaa.Sha Go.Proofs.Ytoidbgedpakjmaa.QTail Go.Proofs.Ytoidbgedpakjmaa.Bld Go.Proofs.Ytoidbgedpakjmaa.W01 Go.Proofs.Ytoidbgedpakjmaa.Mp
attribute [local go_sem] Str_size Str_toList Str_extract Str_append Str_get bt_nn bt_lt List.length_append take_rest sha_len
def HeapT (W : World) (hb mb n : Nat) (f : List UInt8 → Option (List UInt8)) : Prop :=
  W.heap[hb]? = some (.cells #[.map (some mb)] 66 (0, 0)) ∧ MapT W mb n f
def putS (f : List UInt8 → Option (List UInt8)) (s : List UInt8) : List UInt8 → Option (List UInt8) := if (f (sha s)).isSome = true then f else putF f (sha s) s
theorem HeapT.below {W W1 : World} {hb mb n : Nat} {f} (h : HeapT W hb mb n f) (hB : Below W.heap.size W W1) : HeapT W1 hb mb n f :=
  ⟨(hB.block hb (Array.getElem?_eq_some_iff.1 h.1).1).trans h.1, h.2.below hB⟩
theorem sha_ok (s : List UInt8) : (sha s).length ≤ maxLen := by rw [sha_len]; decide
set_option maxRecDepth 100000 in
set_option maxHeartbeats 1600000 in
theorem put_any (B hb mb n : Nat) (f : List UInt8 → Option (List UInt8)) (s : List UInt8) (hs : s.length ≤ 1000000000) (hn : n ≤ 1000000000) (w : World) (hH : HeapT w hb mb n f) (hB1 : B ≤ mb) (hB2 : B ≤ w.heap.size) :
    Calls Try.prog 14 #[.pointer (some ⟨hb, 0, none⟩), .string (Str s)] w fun e w' => e = .returned (.tuple #[.string (Str (sha s)), .int .i64 0]) ∧ HeapT w' hb mb (n + 1) (putS f s) ∧ Below B w w' ∧ w.heap.size ≤ w'.heap.size := by
  go_enter Try.func14, Try.ntmps14
  go_wp2_with fail
  refine (print_any s _ (by omega)).mono ?_; rintro e w1 ⟨rfl, hb1⟩
  have hH1 := hH.below hb1
  have hBB : Below B w w1 := hb1.mono hB2
  have c1 : w1.cell? ⟨hb, 0, none⟩ = some (.map (some mb)) := by rw [Go.Lib.cell_of_heap hH1.1]; rfl
  have hlook := hH1.2.look (sha s) (sha_ok s)
  have hsz1 := hb1.size
  cases hf : f (sha s) with
  | some v =>
    rw [hf] at hlook
    have hp : putS f s = f := by rw [putS, hf]; rfl
    have HP := hid hp
    have hM := hH1
    have HM := hid hM
    clear hp hH hH1 hM hf
    go_wp2
    go_ret2
    refine ⟨rfl, ?_, hBB, hsz1⟩
    rw [HP.out]
    obtain ⟨D, h1, h2⟩ := HM.out.2
    exact ⟨HM.out.1, D, by obtain ⟨es, ck, g1, g2, g3, g4⟩ := h1; exact ⟨es, ck, g1, g2, Nat.le_succ_of_le g3, g4⟩, h2⟩
  | none =>
    rw [hf] at hlook
    have hp : putS f s = putF f (sha s) s := by rw [putS, hf]; rfl
    obtain ⟨w2, hrun, hM2, hg⟩ := hH1.2.put (by unfold maxLen; omega) (sha s) s (sha_ok s) (by unfold maxLen; omega)
    have hne : hb ≠ mb := by
      intro e
      obtain ⟨D, ⟨es, ck, g1, _⟩, _⟩ := hH1.2
      rw [← e, hH1.1] at g1
      cases g1
    have hH2 : w2.heap[hb]? = some (.cells #[.map (some mb)] 66 (0, 0)) := (hg.block hb (Array.getElem?_eq_some_iff.1 hH1.1).1 (fun e => hne (by injection e))).trans hH1.1
    have hB3 : Below B w w2 := hBB.grown hg (Nat.le_trans hB2 hsz1) (fun k hk => by injection hk with hk; omega)
    have hsz2 := hg.size
    have HP := hid hp
    have HM := hid hM2
    have HH := hid hH2
    clear hp hH hH1 hM2 hH2 hf hg
    go_wp2
    go_ret2
    refine ⟨rfl, ⟨HH.out, ?_⟩, hB3, by omega⟩
    rw [HP.out]
    exact HM.out
def heapF (l : List (List UInt8)) : List UInt8 → Option (List UInt8) := l.foldl putS (fun _ => none)
theorem heapF_snoc (l : List (List UInt8)) (k : Nat) (h : k < l.length) : heapF (l.take (k + 1)) = putS (heapF (l.take k)) (sat l k) := by
  rw [take_sat l k h]; simp [heapF]
set_option maxRecDepth 100000 in
set_option maxHeartbeats 1600000 in
theorem newheap_any (l : List (List UInt8)) (A : Option Addr) (c : Nat) (w : World) (hl : l.length ≤ 1000000) (hrd : Rd w A (strs l)) (hs : ∀ i, i < l.length → (sat l i).length ≤ 1000000000) :
    Calls Try.prog 11 #[.slice A l.length c] w fun e w' => (∃ hb mb n, e = .returned (.pointer (some ⟨hb, 0, none⟩)) ∧ n ≤ l.length ∧ HeapT w' hb mb n (heapF l) ∧ w.heap.size ≤ hb ∧ w.heap.size ≤ mb) ∧ Below w.heap.size w w' := by
  have H0 := hid hrd
  have HS := hid hs
  clear hrd hs
  go_enter Try.func11, Try.ntmps11
  have hmm : ∀ W : World, (Instr.makeMap 64 none).run Try.prog W = .ok (.map (some W.heap.size)) (W.alloc (.map #[] 0)) := fun W => by kernel_rfl
  obtain ⟨w2, hw2⟩ : ∃ w2, w2 = (w.alloc (.map #[] 0)).alloc (Obj.cells #[.map (some w.heap.size)] 66) := ⟨_, rfl⟩
  have z2 : w2.heap.size = w.heap.size + 2 := by rw [hw2]; simp
  have hb2 : Below w.heap.size w w2 := by rw [hw2]; exact below_al (below_al (below_rf w) _) _
  have hH2 : HeapT w2 (w.heap.size + 1) w.heap.size 0 (fun _ => none) := by
    refine ⟨?_, ?_⟩
    · rw [hw2]; exact heap_new' _ _ (by simp)
    · rw [hw2]; exact (MapT.made w).kept (World.grownBy_alloc _ _ none) (by simp)
  have HW2 := hid hw2
  have HH2 := hid hH2
  clear hH2
  go_wp2_with fail
  rw [← hw2]
  clear hw2
  go_loopw [11] (fun i wr => ∃ k n : Nat, k ≤ l.length ∧ n ≤ k ∧ i = .int .i64 (k : Int) ∧ Hid (HeapT wr (w.heap.size + 1) w.heap.size n (heapF (l.take k))) ∧ Below w.heap.size w wr) (fun i _ => l.length - (intOf i).toNat)
  case atStart => exact ⟨0, 0, by omega, by omega, rfl, HH2, hb2⟩
  case round =>
    obtain ⟨k, n, hk, hnk, rfl, HH, hB⟩ := hrel
    by_cases hlt : k < l.length
    · obtain ⟨b, o, rfl, hc1⟩ := (Rd.below H0.out hB).str hlt
      have hsl := HS.out k hlt
      have hsn := heapF_snoc l k hlt
      obtain ⟨x, hx⟩ : ∃ x, x = sat l k := ⟨_, rfl⟩
      rw [← hx] at hc1 hsl hsn
      have HSN := hid hsn
      clear hx hsn
      go_wp2_with fail
      refine (put_any w.heap.size (w.heap.size + 1) w.heap.size n _ x hsl (by omega) wr HH.out (Nat.le_refl _) hB.size).mono ?_; rintro e w5 ⟨rfl, hH5, hb5, hs5⟩
      rw [← HSN.out] at hH5
      have HH5 := hid hH5
      clear hH5
      go_wp2
      go_roundw
      case rel => exact ⟨k + 1, n + 1, by omega, by omega, by go_num, HH5, hB.trans hb5⟩
      case measure => simp [intOf]; omega
    · obtain rfl : k = l.length := by omega
      rw [List.take_length] at HH
      go_wp2
      go_ret
      exact ⟨⟨_, _, n, rfl, by omega, HH.out, Nat.le_succ _, Nat.le_refl _⟩, hB⟩
set_option maxRecDepth 100000 in
theorem get_any (hb mb n : Nat) (f : List UInt8 → Option (List UInt8)) (k : List UInt8) (hk : k.length ≤ 1000000000) (w : World) (hH : HeapT w hb mb n f) :
    Calls Try.prog 93 #[.pointer (some ⟨hb, 0, none⟩), .string (Str k)] w fun e w' => e = .returned (.tuple #[.string (Str ((f k).getD [])), .bool (f k).isSome]) ∧ w' = w := by
  have c1 : w.cell? ⟨hb, 0, none⟩ = some (.map (some mb)) := by rw [Go.Lib.cell_of_heap hH.1]; rfl
  have hlook := hH.2.look k (by unfold maxLen; omega)
  go_enter Try.func93, Try.ntmps93
  go_wp2
  go_ret2
  exact ⟨rfl, rfl⟩
end Go.Proofs.Ytoidbgedpakjmaa.W08
