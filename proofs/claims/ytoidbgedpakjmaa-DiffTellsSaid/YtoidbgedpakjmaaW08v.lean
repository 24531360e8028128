/- The walks of layer 8: what the statements themselves call: pairs, texts held against each other, what is few. -/
import Derived.Test.YtoidbgedpakjmaaW08f
set_option linter.unusedVariables false
set_option linter.unusedSimpArgs false
namespace Go.Proofs.Ytoidbgedpakjmaa.W08
open Go.RowKit Go.Proofs.Ytoidbgedpakjmaa.Lib Go.Proofs.Ytoidbgedpakjmaa.Sha Go.Proofs.Ytoidbgedpakjmaa.T07 Go.Proofs.Ytoidbgedpakjmaa.T08 Go.Proofs.Ytoidbgedpakjmaa.QTail Go.Proofs.Ytoidbgedpakjmaa.Bld Go.Proofs.Ytoidbgedpakjmaa.Itms Go.Proofs.Ytoidbgedpakjmaa.W07 Go.Proofs.Ytoidbgedpakjmaa.WSeq
attribute [local go_sem] Str_size Str_toList Str_extract Str_append Str_get bt_nn bt_lt List.length_append take_rest sha_len two_len
set_option maxRecDepth 100000 in
set_option maxHeartbeats 800000 in
theorem pairs_any (A : Option Addr) (c : Nat) (l : List Itm) (hl : l.length ≤ 1000000000) (w : World) (hrd : Rd w A (its l)) :
    Calls Try.prog 9 #[.slice A l.length c] w fun e w' => (∃ v, e = .returned v ∧ w'.ownsRow w.heap.size 63 2 v l.length (its l)) ∧ Below w.heap.size w w' := by
  have H0 := hid hrd
  clear hrd
  go_enter Try.func9, Try.ntmps9
  go_wp2
  go_loopw [3, 8] (fun v i wr => ∃ k : Nat, k ≤ l.length ∧ i = .int .i64 (k : Int) ∧ wr.ownsRow w.heap.size 63 2 v k (its (l.take k)) ∧ Below w.heap.size w wr) (fun _ i _ => l.length - (intOf i).toNat)
  case atStart => exact ⟨0, by omega, rfl, own_nil _ _ _ _, below_rf w⟩
  case round =>
    obtain ⟨k, hk, rfl, hown, hB⟩ := hrel
    by_cases hlt : k < l.length
    · obtain ⟨b, o, rfl, hc1, hc2⟩ := rd_itm (Rd.below H0.out hB) hlt
      obtain ⟨xk, hxk⟩ : ∃ xk, xk = (itm l k).1 := ⟨_, rfl⟩
      obtain ⟨xv, hxv⟩ : ∃ xv, xv = (itm l k).2 := ⟨_, rfl⟩
      rw [← hxk] at hc1
      rw [← hxv] at hc2
      have hal : Below wr.heap.size wr (wr.alloc (Obj.cells #[Value.string (Str xk), Value.string (Str xv)] 51)) := below_al (below_rf wr) _
      have hown6 := own_of_below hown hal
      have hB6 := below_tr hB hal
      have hz5 : (wr.alloc (Obj.cells #[Value.string (Str xk), Value.string (Str xv)] 51)).heap.size = wr.heap.size + 1 := by simp
      have HZ5 := hid hz5
      have HXK := hid hxk
      have HXV := hid hxv
      clear hown hz5 hxk hxv
      go_wp2_with (at_builtin; (refine wpList_appN ti_pair (.tmp 12) (.tmp 18) (by rfl) (by rfl) w.heap.size [.string (Str xk), .string (Str xv)] 63 1 1 (by rfl) (by rw [HZ5.out]; rfl) hown6 (by rfl) (by simp [Value.oneCell']) hB6 hB6.size (by omega) ?_; intro A2 c2 w7 ho7 hg7 hB7 hsz7))
      go_wp2
      go_roundw
      case rel =>
        refine ⟨k + 1, by omega, by go_num, ?_, hB7⟩
        rw [take_itm l k hlt, its_app, its_cons, ← HXK.out, ← HXV.out]
        exact ho7
      case measure => simp [intOf]; omega
    · obtain rfl : k = l.length := by omega
      rw [List.take_length] at hown
      go_wp2
      go_ret
      exact ⟨⟨_, rfl, hown⟩, hB⟩
def FewS (l : List Itm) : Prop := l.length ≤ 200 ∧ ∀ i, i < l.length → (itm l i).1.length ≤ 2000 ∧ (itm l i).2.length ≤ 8000
theorem few_any (A : Option Addr) (c : Nat) (l : List Itm) (hl : l.length ≤ 1000000000000000000) (w : World) (hrd : Rd w A (its l)) (hb : ∀ i, i < l.length → (itm l i).1.length ≤ 140737488355328 ∧ (itm l i).2.length ≤ 140737488355328) :
    Calls Try.prog 7 #[.slice A l.length c] w fun e w' => (∃ r, e = .returned (.bool r) ∧ (r = true → FewS l)) ∧ Below w.heap.size w w' := by
  have H0 := hid hrd
  have HBD := hid hb
  clear hrd hb
  go_enter Try.func7, Try.ntmps7
  by_cases h200 : 200 < l.length
  · have hb1 : decide ((200 : Int) < (l.length : Int)) = true := decide_eq_true (by omega)
    clear h200
    go_wp2
    go_ret
    exact ⟨⟨false, rfl, by intro h; cases h⟩, below_rf w⟩
  · have hb1 : decide ((200 : Int) < (l.length : Int)) = false := decide_eq_false (by omega)
    have h2 : l.length ≤ 200 := by omega
    clear h200 hl
    go_wp2
    go_loopw [3, 11] (fun n i wr => ∃ k s : Nat, k ≤ l.length ∧ i = .int .i64 (k : Int) ∧ n = .int .i64 (s : Int) ∧ s ≤ 20000 ∧ Hid (∀ j, j < k → (itm l j).1.length ≤ 2000 ∧ (itm l j).2.length ≤ 8000) ∧ Below w.heap.size w wr) (fun _ i _ => l.length - (intOf i).toNat)
    case atStart => exact ⟨0, 0, by omega, rfl, rfl, by omega, hid (fun j h => by omega), below_rf w⟩
    case round =>
      obtain ⟨k, s, hk, rfl, rfl, hs, HJ, hB⟩ := hrel
      by_cases hlt : k < l.length
      · obtain ⟨b, o, rfl, hc1, hc2⟩ := rd_itm (Rd.below H0.out hB) hlt
        obtain ⟨hq1, hq2⟩ := HBD.out k hlt
        have hstep : (itm l k).1.length ≤ 2000 → (itm l k).2.length ≤ 8000 → ∀ j, j < k + 1 → (itm l j).1.length ≤ 2000 ∧ (itm l j).2.length ≤ 8000 := by
          intro h1 h2 j hj
          by_cases e : j = k
          · subst e; exact ⟨h1, h2⟩
          · exact HJ.out j (by omega)
        have HST := hid hstep
        clear hstep
        obtain ⟨xk, hxk⟩ : ∃ xk, xk = (itm l k).1 := ⟨_, rfl⟩
        obtain ⟨xv, hxv⟩ : ∃ xv, xv = (itm l k).2 := ⟨_, rfl⟩
        rw [← hxk] at hc1 hq1 HST
        rw [← hxv] at hc2 hq2 HST
        clear hxk hxv
        obtain ⟨a, ha⟩ : ∃ a, a = xk.length := ⟨_, rfl⟩
        obtain ⟨d, hd⟩ : ∃ d, d = xv.length := ⟨_, rfl⟩
        by_cases h20 : 20000 < s + (xk.length + xv.length)
        · have g1 : decide ((20000 : Int) < (s : Int) + ((xk.length : Int) + (xv.length : Int))) = true := decide_eq_true (by omega)
          clear h20 ha hd
          go_wp2
          go_ret
          exact ⟨⟨false, rfl, by intro h; cases h⟩, below_al hB _⟩
        · have g1 : decide ((20000 : Int) < (s : Int) + ((xk.length : Int) + (xv.length : Int))) = false := decide_eq_false (by omega)
          by_cases h3 : 2000 < xk.length
          · have g2 : decide ((2000 : Int) < (xk.length : Int)) = true := decide_eq_true (by omega)
            clear h20 ha hd h3
            go_wp2
            go_ret
            exact ⟨⟨false, rfl, by intro h; cases h⟩, below_al hB _⟩
          · have g2 : decide ((2000 : Int) < (xk.length : Int)) = false := decide_eq_false (by omega)
            by_cases h4 : 8000 < xv.length
            · have g3 : decide ((8000 : Int) < (xv.length : Int)) = true := decide_eq_true (by omega)
              clear h20 ha hd h3 h4
              go_wp2
              go_ret
              exact ⟨⟨false, rfl, by intro h; cases h⟩, below_al hB _⟩
            · have g3 : decide ((8000 : Int) < (xv.length : Int)) = false := decide_eq_false (by omega)
              have HS2 := hid (HST.out (by omega) (by omega))
              have hsum : s + (xk.length + xv.length) ≤ 20000 := by omega
              clear h20 ha hd h3 h4
              go_wp2
              go_roundw
              case rel => exact ⟨k + 1, s + (xk.length + xv.length), by omega, by go_num, by go_num, hsum, HS2, below_al hB _⟩
              case measure => simp [intOf]; omega
      · obtain rfl : k = l.length := by omega
        go_wp2
        go_ret
        exact ⟨⟨true, rfl, fun _ => ⟨h2, HJ.out⟩⟩, hB⟩
end Go.Proofs.Ytoidbgedpakjmaa.W08
