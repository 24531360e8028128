/- The walk of the document's answer of layer 10: the same changes. -/
import Derived.Test.YtoidbgedpakjmaaDif2
import Derived.Test.YtoidbgedpakjmaaMild
set_option linter.unusedVariables false
set_option linter.unusedSimpArgs false
namespace Go.Proofs.Ytoidbgedpakjmaa.Dif
open Go Go.RowKit Go.Proofs.Ytoidbgedpakjmaa.Lib Go.Proofs.Ytoidbgedpakjmaa.Itms Go.Proofs.Ytoidbgedpakjmaa.T08 Go.Proofs.Ytoidbgedpakjmaa.QTail Go.Proofs.Ytoidbgedpakjmaa.WSeq Go.Proofs.Ytoidbgedpakjmaa.Ord Go.Proofs.Ytoidbgedpakjmaa.JoinS Go.Proofs.Ytoidbgedpakjmaa.W08
attribute [local go_sem] Str_size Str_toList Str_extract
theorem five_eq {α β γ : Type} [DecidableEq α] [DecidableEq β] [DecidableEq γ] (x1 y1 : α) (x2 y2 : β) (x3 y3 : γ) (x4 y4 x5 y5 : Bool) (W : World) : (if x1 = y1 then if x2 = y2 then if x3 = y3 then if x4 = y4 then if x5 = y5 then Result.ok (Next.value (Value.bool false)) W else Result.ok (Next.value (Value.bool true)) W else Result.ok (Next.value (Value.bool true)) W else Result.ok (Next.value (Value.bool true)) W else Result.ok (Next.value (Value.bool true)) W else Result.ok (Next.value (Value.bool true)) W : Result Next) = Result.ok (Next.value (Value.bool (!decide ((x1, x2, x3, x4, x5) = (y1, y2, y3, y4, y5))))) W := by
  by_cases h1 : x1 = y1 <;> by_cases h2 : x2 = y2 <;> by_cases h3 : x3 = y3 <;> by_cases h4 : x4 = y4 <;> by_cases h5 : x5 = y5 <;> simp [h1, h2, h3, h4, h5]
set_option maxRecDepth 100000 in
set_option maxHeartbeats 3200000 in
theorem same_any (A B : Option Addr) (c d : Nat) (l m : List Bo) (hl : l.length ≤ 1000000000) (hm : m.length ≤ 1000000000) (w : World) (hrd : Rd w A (bts l)) (hrd2 : Rd w B (bts m)) :
    Calls Try.prog 15 #[.slice A l.length c, .slice B m.length d] w fun e w' => e = .returned (.bool (decide (l = m))) ∧ Below w.heap.size w w' := by
  have H0 := hid hrd
  have H1 := hid hrd2
  clear hrd hrd2
  go_enter Try.func15, Try.ntmps15
  by_cases hlen : l.length = m.length
  · have g1 : ((l.length : Int) == (m.length : Int)) = true := beq_iff_eq.2 (by omega)
    have g1n : ((l.length : Int) != (m.length : Int)) = false := by rw [bne, g1]; rfl
    have HLEN := hid hlen
    clear hlen
    go_wp2
    go_loopw [5] (fun iv wr => ∃ k : Nat, k ≤ l.length ∧ iv = .int .i64 (k : Int) ∧ Hid (l.take k = m.take k) ∧ Hid (Below w.heap.size w wr)) (fun iv _ => l.length - (intOf iv).toNat)
    case atStart => exact ⟨0, by omega, rfl, hid rfl, hid (below_rf w)⟩
    case round =>
      obtain ⟨k, hk, rfl, HT, HB⟩ := hrel
      by_cases hlt : k < l.length
      · obtain ⟨b1, o1, rfl, p1, p2, p3, p4, p5⟩ := rd_btd (H0.out.below HB.out) hlt
        obtain ⟨b2, o2, rfl, q1, q2, q3, q4, q5⟩ := rd_btd (H1.out.below HB.out) (j := k) (by have := HLEN.out; omega)
        obtain ⟨x, hx⟩ : ∃ x, x = btd l k := ⟨_, rfl⟩
        obtain ⟨y, hy⟩ : ∃ y, y = btd m k := ⟨_, rfl⟩
        rw [← hx] at p1 p2 p3 p4 p5
        rw [← hy] at q1 q2 q3 q4 q5
        obtain ⟨x1, x2, x3, x4, x5⟩ := x
        obtain ⟨y1, y2, y3, y4, y5⟩ := y
        dsimp only at p1 p2 p3 p4 p5 q1 q2 q3 q4 q5
        have HX := hid hx
        have HY := hid hy
        have hltm : k < m.length := by have := HLEN.out; omega
        have hltmi : (k : Int) < (m.length : Int) := by omega
        clear hx hy
        go_wp2
        obtain ⟨q, hq⟩ : ∃ q, q = decide ((x1, x2, x3, x4, x5) = (y1, y2, y3, y4, y5)) := ⟨_, rfl⟩
        have HQ := hid hq
        clear hq
        refine wp_region_quiet_lit (by kernel_rfl) (by kernel_rfl) ?_
        repeat (quiet_step (fail))
        refine wpQuiet_step (fun K hK => ?_)
        refine mild_read (by rfl) ?_
        refine ⟨.bool (!q), fun W hW => ?_, hK _ ?_⟩
        · go_simp
          rw [HQ.out]
          exact five_eq x1 y1 x2 y2 x3 y3 x4 y4 x5 y5 W
        clear hK K
        refine wpQuiet_nil ?_
        intro W hW
        obtain ⟨nq, rfl⟩ := hW
        have HB2 := hid (below_drewN HB.out nq)
        by_cases e : (x1, x2, x3, x4, x5) = (y1, y2, y3, y4, y5)
        · have ed : q = true := by rw [HQ.out]; exact decide_eq_true e
          have HT2 := hid (show l.take (k + 1) = m.take (k + 1) by rw [take_btd l k hlt, take_btd m k hltm, HT.out, ← HX.out, ← HY.out, e])
          clear e HQ
          subst ed
          go_wp2
          go_roundw
          case rel => exact ⟨k + 1, by omega, by go_num, HT2, HB2⟩
          case measure => simp [intOf]; omega
        · have ed : q = false := by rw [HQ.out]; exact decide_eq_false e
          have HN := hid (show decide (l = m) = false from decide_eq_false (fun q => e (by rw [HX.out, HY.out, q])))
          clear e HQ
          subst ed
          go_wp2
          go_ret
          exact ⟨by rw [HN.out]; rfl, HB2.out⟩
      · obtain rfl : k = l.length := by omega
        have hh := HT.out
        rw [List.take_length, HLEN.out, List.take_length] at hh
        have HE := hid hh
        clear hh
        go_wp2
        go_ret
        exact ⟨by rw [HE.out]; simp, HB.out⟩
  · have g1 : ((l.length : Int) == (m.length : Int)) = false := beq_eq_false_iff_ne.2 (by omega)
    have g1n : ((l.length : Int) != (m.length : Int)) = true := by rw [bne, g1]; rfl
    have HN := hid (show decide (l = m) = false from decide_eq_false (fun e => hlen (by rw [e])))
    clear hlen
    go_wp2
    go_ret
    exact ⟨by rw [HN.out]; rfl, below_rf w⟩
end Go.Proofs.Ytoidbgedpakjmaa.Dif
