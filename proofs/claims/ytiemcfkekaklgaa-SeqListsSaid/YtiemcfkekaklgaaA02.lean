/- What the statements of layer 2 call: pairs, same, awake. -/
import Derived.Test.YtiemcfkekaklgaaCmp
import Derived.Test.YtiemcfkekaklgaaRunI
set_option linter.unusedVariables false
set_option linter.unusedSimpArgs false
namespace Go.Proofs.Ytiemcfkekaklgaa.W02
open Go.RowKit Go.Shelf Go.Proofs.Ytiemcfkekaklgaa.Lib Go.Proofs.Ytiemcfkekaklgaa.Prs Go.Proofs.Ytiemcfkekaklgaa.Run Go.Proofs.Ytiemcfkekaklgaa.Runs Go.Proofs.Ytiemcfkekaklgaa.Stab Go.Proofs.Ytiemcfkekaklgaa.QTail Go.Proofs.Ytiemcfkekaklgaa.Lt
attribute [local go_sem] Str_toList
set_option maxRecDepth 100000 in
set_option maxHeartbeats 800000 in
theorem pairs_any (A : Option Addr) (c : Nat) (l : List Itm) (hl : l.length ≤ 1000000000) (w : World) (hrd : Rd w A (its l)) :
    Calls Try.prog 10 #[.slice A l.length c] w fun e w' => (∃ v, e = .returned v ∧ w'.ownsRow w.heap.size 49 2 v l.length (its l)) ∧ Below w.heap.size w w' := by
  have H0 := hid hrd
  clear hrd
  go_enter Try.func10, Try.ntmps10
  go_wp2
  go_loopw [3, 8] (fun v i wr => ∃ k : Nat, k ≤ l.length ∧ i = .int .i64 (k : Int) ∧ wr.ownsRow w.heap.size 49 2 v k (its (l.take k)) ∧ Below w.heap.size w wr) (fun _ i _ => l.length - (intOf i).toNat)
  case atStart => exact ⟨0, by omega, rfl, own_nil _ _ _ _, below_rf w⟩
  case round =>
    obtain ⟨k, hk, rfl, hown, hB⟩ := hrel
    by_cases hlt : k < l.length
    · obtain ⟨b, o, rfl, hc1, hc2⟩ := rd_itm (Rd.below H0.out hB) hlt
      obtain ⟨xk, hxk⟩ : ∃ xk, xk = (itm l k).1 := ⟨_, rfl⟩
      obtain ⟨xv, hxv⟩ : ∃ xv, xv = (itm l k).2 := ⟨_, rfl⟩
      rw [← hxk] at hc1
      rw [← hxv] at hc2
      have hal : Below wr.heap.size wr (wr.alloc (Obj.cells #[Value.string (Str xk), Value.int .i64 xv] 52)) := below_al (below_rf wr) _
      have hown6 := own_of_below hown hal
      have hB6 := below_tr hB hal
      have hz5 : (wr.alloc (Obj.cells #[Value.string (Str xk), Value.int .i64 xv] 52)).heap.size = wr.heap.size + 1 := by simp
      have HZ5 := hid hz5
      have HXK := hid hxk
      have HXV := hid hxv
      clear hown hz5 hxk hxv
      go_wp2_with (at_builtin; (refine wpList_appN ti_pairR (.tmp 12) (.tmp 18) (by rfl) (by rfl) w.heap.size [.string (Str xk), .int .i64 xv] 49 1 1 (by rfl) (by rw [HZ5.out]; rfl) hown6 (by rfl) (by simp [Value.oneCell']) hB6 hB6.size (by omega) ?_; intro A2 c2 w7 ho7 hg7 hB7 hsz7))
      go_wp2
      go_roundw
      case rel =>
        refine ⟨k + 1, by omega, by go_num, ?_, hB7⟩
        rw [take_itm l k hlt, its_app, its_cons, ← HXK.out, ← HXV.out]
        exact ho7
      case measure => simp [intOf]; omega
    · obtain rfl : k = l.length := by omega
      rw [List.take_length] at hown
      go_wp2
      go_ret
      exact ⟨⟨_, rfl, hown⟩, hB⟩
set_option maxRecDepth 100000 in
set_option maxHeartbeats 1600000 in
theorem same_any (A B : Option Addr) (c d : Nat) (l m : List Itm) (hl : l.length ≤ 1000000000) (hm : m.length ≤ 1000000000000) (w : World) (hrl : Rd w A (its l)) (hrm : Rd w B (its m)) :
    Calls Try.prog 12 #[.slice A l.length c, .slice B m.length d] w fun e w' => e = .returned (.bool (decide (l = m))) ∧ Below w.heap.size w w' := by
  have HRL := hid hrl
  have HRM := hid hrm
  clear hrl hrm
  go_enter Try.func12, Try.ntmps12
  by_cases hlen : l.length = m.length
  · have hb : ((l.length : Int) == (m.length : Int)) = true := beq_iff_eq.2 (by omega)
    have HLEN := hid hlen
    clear hlen
    go_wp2
    go_loopw [14] (fun i wr => ∃ k : Nat, k ≤ l.length ∧ i = .int .i64 (k : Int) ∧ Hid (l.take k = m.take k) ∧ Below w.heap.size w wr) (fun i _ => l.length - (intOf i).toNat)
    case atStart => exact ⟨0, by omega, rfl, hid rfl, below_rf w⟩
    case round =>
      obtain ⟨k, hk, rfl, HK, hB⟩ := hrel
      by_cases hlt : k < l.length
      · have hlt2 : k < m.length := by have := HLEN.out; omega
        obtain ⟨b, o, rfl, hc1, hc2⟩ := rd_itm (Rd.below HRL.out hB) hlt
        obtain ⟨x, hx⟩ : ∃ x, x = itm l k := ⟨_, rfl⟩
        obtain ⟨y, hy⟩ : ∃ y, y = itm m k := ⟨_, rfl⟩
        rw [← hx] at hc1 hc2
        have hal : Below wr.heap.size wr (wr.alloc (Obj.cells #[Value.string (Str x.1), Value.int .i64 x.2] 49)) := below_al (below_rf wr) _
        obtain ⟨b2, o2, rfl, hd1, hd2⟩ := rd_itm (Rd.below HRM.out (below_tr hB hal)) hlt2
        rw [← hy] at hd1 hd2
        have HX := hid hx
        have HY := hid hy
        have HB := hid (below_tr hB hal)
        clear hx hy hal hB
        by_cases hxy : x.1 = y.1
        · have q1 : (x.1 == y.1) = true := beq_iff_eq.2 hxy
          by_cases hxv : x.2 = y.2
          · have q2 : (x.2 == y.2) = true := beq_iff_eq.2 hxv
            have HE : Hid (x = y) := hid (Prod.ext hxy hxv)
            clear hxy hxv
            go_wp2
            go_quiet (fail)
            go_wp2
            go_roundw
            case rel =>
              refine ⟨k + 1, by omega, by go_num, hid ?_, below_drewN HB.out _⟩
              rw [take_itm l k hlt, take_itm m k hlt2, HK.out, ← HX.out, ← HY.out, HE.out]
            case measure => simp [intOf]; omega
          · have q2 : (x.2 == y.2) = false := beq_eq_false_iff_ne.2 hxv
            have hne : decide (l = m) = false := decide_eq_false (fun e => hxv (by rw [HX.out, HY.out, e]))
            have HNE := hid hne
            clear hne hxy hxv
            go_wp2
            go_quiet (fail)
            go_wp2
            go_ret
            exact ⟨by rw [HNE.out]; rfl, below_drewN HB.out _⟩
        · have q1 : (x.1 == y.1) = false := beq_eq_false_iff_ne.2 hxy
          have hne : decide (l = m) = false := decide_eq_false (fun e => hxy (by rw [HX.out, HY.out, e]))
          have HNE := hid hne
          clear hne hxy
          go_wp2
          go_quiet (fail)
          go_wp2
          go_ret
          exact ⟨by rw [HNE.out]; rfl, below_drewN HB.out _⟩
      · obtain rfl : k = l.length := by omega
        have e : l = m := by
          have := HK.out
          rwa [List.take_length, HLEN.out, List.take_length] at this
        have he : decide (l = m) = true := decide_eq_true e
        have HE := hid he
        clear e he
        go_wp2
        go_ret
        exact ⟨by rw [HE.out]; rfl, hB⟩
  · have hb : ((l.length : Int) == (m.length : Int)) = false := beq_eq_false_iff_ne.2 (by omega)
    have hne : decide (l = m) = false := decide_eq_false (fun e => hlen (by rw [e]))
    have HNE := hid hne
    clear hne hlen
    go_wp2
    go_ret
    exact ⟨by rw [HNE.out]; rfl, below_rf w⟩
end Go.Proofs.Ytiemcfkekaklgaa.W02
