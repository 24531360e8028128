/- The walks of layer 8: the document's items, nodes, counts, right pairs. -/
import Derived.Test.YtidbaagdajkojaaW08f
set_option linter.unusedVariables false
set_option linter.unusedSimpArgs false
namespace Go.Proofs.Ytidbaagdajkojaa.W08
open Go.RowKit Go.Proofs.Ytidbaagdajkojaa.Lib Go.Proofs.Ytidbaagdajkojaa.Sha Go.Proofs.Ytidbaagdajkojaa.T07 Go.Proofs.Ytidbaagdajkojaa.T08 Go.Proofs.Ytidbaagdajkojaa.QTail Go.Proofs.Ytidbaagdajkojaa.Bld Go.Proofs.Ytidbaagdajkojaa.Itms Go.Proofs.Ytidbaagdajkojaa.W07 Go.Proofs.Ytidbaagdajkojaa.WSeq
attribute [local go_sem] Str_size Str_toList Str_extract Str_append Str_get bt_nn bt_lt List.length_append take_rest sha_len two_len
set_option maxRecDepth 100000 in
theorem rtwo_any (n : Nat) (w : World) (hn : n ≤ 1000000000) :
    Calls Try.prog 56 #[.int .i64 (n : Int)] w fun e w' => e = .returned (.string (Str (two n))) ∧ Below w.heap.size w w' := by
  go_enter Try.func56, Try.ntmps56
  go_wp2_with (rw [conv2 _ 91 5 9 5 Try.underlying91 Try.underlying5 Try.underlying9])
  go_ret
  refine ⟨?_, below_al (below_rf w) _⟩
  have e1 : Go.Proofs.Ytidbaagdajkojaa.Lib.u8 ((n : Int) / 256 % 256) = Go.Proofs.Ytidbaagdajkojaa.Lib.u8 ((n / 256 : Nat) : Int) := by rw [u8_mod _ (by omega)]; rfl
  have e2 : Go.Proofs.Ytidbaagdajkojaa.Lib.u8 ((n : Int) % 256) = Go.Proofs.Ytidbaagdajkojaa.Lib.u8 (n : Int) := u8_mod _ (by omega)
  have e3 : two n = [Go.Proofs.Ytidbaagdajkojaa.Lib.u8 ((n : Int) / 256 % 256), Go.Proofs.Ytidbaagdajkojaa.Lib.u8 ((n : Int) % 256)] := by rw [e1, e2]; rfl
  rw [e3]
  rfl
set_option maxHeartbeats 1600000 in
set_option maxRecDepth 100000 in
theorem rform_any (x : Itm) (w : World) (h1 : x.1.length ≤ 1000000000) (h2 : x.2.length ≤ 1000000000) :
    Calls Try.prog 30 #[.agg #[.string (Str x.1), .string (Str x.2)]] w fun e w' => e = .returned (.string (Str (form x))) ∧ Below w.heap.size w w' := by
  go_enter Try.func30, Try.ntmps30
  obtain ⟨w1, hw1⟩ : ∃ w1, w1 = w.alloc (Obj.cells #[Value.string (Str x.1), Value.string (Str x.2)] 38) := ⟨_, rfl⟩
  have hsz : w1.heap.size = w.heap.size + 1 := by rw [hw1]; exact Array.size_push _
  have hl1 : ∀ W, Below w1.heap.size w1 W → W.cell? ⟨w.heap.size, 0, none⟩ = some (.string (Str x.1)) := fun W h => by
    rw [h.cell (p := ⟨w.heap.size, 0, none⟩) (by rw [hsz]; exact Nat.lt_succ_self _), hw1]
    exact World.cell?_alloc_at _ _ _ _ rfl
  have hl2 : ∀ W, Below w1.heap.size w1 W → W.cell? ⟨w.heap.size, 1, none⟩ = some (.string (Str x.2)) := fun W h => by
    rw [h.cell (p := ⟨w.heap.size, 1, none⟩) (by rw [hsz]; exact Nat.lt_succ_self _), hw1]
    exact World.cell?_alloc_at _ _ _ _ rfl
  have hm1 : ∀ W, Below w1.heap.size w1 W → Calls Try.prog 56 #[.int .i64 (x.1.length : Int)] W fun e w' => e = .returned (.string (Str (two x.1.length))) ∧ Below w1.heap.size w1 w' := fun W hW => (rtwo_any _ W h1).mono fun e w' h => ⟨h.1, hW.trans (h.2.mono hW.size)⟩
  have hm2 : ∀ W, Below w1.heap.size w1 W → Calls Try.prog 56 #[.int .i64 (x.2.length : Int)] W fun e w' => e = .returned (.string (Str (two x.2.length))) ∧ Below w1.heap.size w1 w' := fun W hW => (rtwo_any _ W h2).mono fun e w' h => ⟨h.1, hW.trans (h.2.mono hW.size)⟩
  have hbl : Below w.heap.size w w1 := by rw [hw1]; exact below_al (below_rf w) _
  have HSZ := hid hsz
  clear hsz
  go_wp2
  rw [← hw1]
  have HW1 := hid hw1
  clear hw1
  refine wp_region_mild w1.heap.size (by kernel_rfl) (by kernel_rfl) ?_
  repeat (
    refine wpQuiet_step (fun K hK => ?_)
    first
      | (refine mild_skip (by rfl) (hK _ ?_)
         clear hK K)
      | (refine mild_read (by rfl) ?_
         apply Exists.intro
         refine ⟨fun W hW => ?_, hK _ ?_⟩
         (go_simp; first | rfl | (rw [if_neg (by omega)]) | (rw [if_pos (by omega)]))
         clear hK K)
      | (refine mild_call (by rfl) ?_
         apply Exists.intro
         apply Exists.intro
         refine ⟨fun W hW => ?_, ?_⟩
         (go_simp; exact ⟨rfl, rfl⟩)
         apply Exists.intro
         refine ⟨fun W hW => ?_, hK _ ?_⟩
         (first | with_reducible exact (hm1 W hW) | with_reducible exact (hm2 W hW))
         clear hK K)
    go_simp)
  refine wpQuiet_nil ?_
  intro W hW
  go_wp2
  go_ret
  refine ⟨?_, hbl.trans (hW.mono (by rw [HSZ.out]; omega))⟩
  simp [form]
set_option maxRecDepth 100000 in
set_option maxHeartbeats 1600000 in
theorem rnode_any (level : Nat) (l : List Itm) (A : Option Addr) (c : Nat) (w : World) (hv : level ≤ 1000000000) (hl : l.length ≤ 1000000) (hrd : Rd w A (its l)) (hs : Fine l) :
    Calls Try.prog 28 #[.int .i64 (level : Int), .slice A l.length c] w fun e w' => e = .returned (.string (Str (nodeB level l))) ∧ Below w.heap.size w w' := by
  have HS := hid hs
  have H0 := hid hrd
  clear hs hrd
  have hh : [Go.Proofs.Ytidbaagdajkojaa.Lib.u8 80, Go.Proofs.Ytidbaagdajkojaa.Lib.u8 ((level : Int) % 256), Go.Proofs.Ytidbaagdajkojaa.Lib.u8 ((l.length : Int) % 256)] = nodeHead level l.length := by
    rw [u8_mod _ (by omega), u8_mod _ (by omega)]; rfl
  have HH := hid hh
  have hhl : (nodeHead level l.length).length = 3 := rfl
  have hcv := fun W a b d => conv3 (P := Try.prog) W 91 5 9 5 Try.underlying91 Try.underlying5 Try.underlying9 a b d 3
  go_enter Try.func28, Try.ntmps28
  go_wp2
  go_loopw [5, 6] (fun s i wr => ∃ k : Nat, k ≤ l.length ∧ i = .int .i64 (k : Int) ∧ s = .string (Str (nodeHead level l.length ++ ((l.take k).map form).flatten)) ∧ Below w.heap.size w wr) (fun _ i _ => l.length - (intOf i).toNat)
  case atStart =>
    exact ⟨0, by omega, rfl, by simp, below_al (below_rf w) _⟩
  case round =>
    obtain ⟨k, hk, rfl, rfl, hB⟩ := hrel
    by_cases hlt : k < l.length
    · obtain ⟨b, o, rfl, hc1, hc2⟩ := rd_itm (Rd.below H0.out hB) hlt
      obtain ⟨f1, f2⟩ := HS.out k hlt
      have hfl := flat_len l HS.out k hk
      have hfo := form_len (itm l k)
      go_wp2_with fail
      refine (rform_any (itm l k) _ (by omega) (by omega)).mono ?_; rintro e w5 ⟨rfl, hb5⟩
      have hsn := flat_snoc l k hlt
      have HSN := hid hsn
      clear hsn
      obtain ⟨fl, hfle⟩ : ∃ fl, fl = ((l.take k).map form).flatten := ⟨_, rfl⟩
      obtain ⟨fm, hfme⟩ : ∃ fm, fm = form (itm l k) := ⟨_, rfl⟩
      rw [← hfle] at hfl ⊢
      rw [← hfme] at hfo ⊢
      rw [← hfle, ← hfme] at HSN
      have hfo2 : fm.length ≤ 2000004 := by omega
      clear hfle hfme hfo
      go_wp2
      go_roundw
      case rel => exact ⟨k + 1, by omega, by go_num, by rw [HSN.out], below_tr hB hb5⟩
      case measure => simp [intOf]; omega
    · obtain rfl : k = l.length := by omega
      rw [List.take_length]
      go_wp2
      go_ret
      exact ⟨rfl, hB⟩
end Go.Proofs.Ytidbaagdajkojaa.W08
