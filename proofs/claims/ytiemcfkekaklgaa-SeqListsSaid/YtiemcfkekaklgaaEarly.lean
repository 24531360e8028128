/- SeqEarly: the first n pairs are asked for, and no more. -/
import Derived.Test.YtiemcfkekaklgaaAw02
import Derived.Test.YtiemcfkekaklgaaOnly
import Derived.Test.YtiemcfkekaklgaaHead
set_option linter.unusedVariables false
set_option linter.unusedSimpArgs false
namespace Go.Proofs.Ytiemcfkekaklgaa.W02
open Go.RowKit Go.Shelf Go.Proofs.Ytiemcfkekaklgaa.Lib Go.Proofs.Ytiemcfkekaklgaa.Prs Go.Proofs.Ytiemcfkekaklgaa.Run Go.Proofs.Ytiemcfkekaklgaa.Runs
attribute [local go_sem] Str_toList
theorem iter_congr {P : Program} {gf : Nat} {lb : Array Value} {encs encs' : Nat → Array Value} {N : Nat} {R : Nat → Prop} {T : Nat → World → Prop} (h : Iter P gf lb encs N R T) (he : ∀ i, i < N → encs' i = encs i) : Iter P gf lb encs' N R T :=
  ⟨h.keeps, fun lp J Jx O W h1 h2 h3 hC h0 => h.calls lp J Jx O W h1 h2 h3 ⟨hC.stable, hC.stablex, fun i O W hi => he i hi ▸ hC.round i O W hi⟩ h0⟩
theorem iter_mono {P : Program} {gf : Nat} {lb : Array Value} {encs : Nat → Array Value} {N : Nat} {R : Nat → Prop} {T T' : Nat → World → Prop} (h : Iter P gf lb encs N R T) (he : ∀ i W, T i W ↔ T' i W) : Iter P gf lb encs N R T' := by
  rw [show T' = T from funext fun i => funext fun W => propext (he i W).symm]; exact h
theorem encI_take (xs : List Itm) (n i : Nat) (h : i < n) : encI (xs.take n) i = encI xs i := by
  unfold encI itm
  simp only [List.getD_eq_getElem?_getD, List.getElem?_take_of_lt h]
theorem boxed_new2 (W : World) (o : Obj) (t : TypeId) (v : Value) : Boxed ((W.alloc o).alloc (.cells #[v] t)) (W.heap.size + 1) t v := by
  have := Boxed.new (W.alloc o) t v
  rwa [World.size_alloc] at this
theorem filter_tt (xs : List Itm) : xs.filter (fun _ => true) = xs := List.filter_eq_self.2 (fun _ _ => rfl)
theorem idx_tt (xs : List Itm) (i : Nat) (h : i ≤ xs.length) : idx (fun _ => true) xs i = i := by
  unfold idx; rw [filter_tt, List.length_take]; omega
set_option maxRecDepth 100000 in
theorem early1_any (Ba i : Nat) (x : Itm) (hi : i < 1000000000) (w : World) (h : Boxed w Ba 3 (.int .i64 (i : Int))) :
    Calls Try.prog 23 #[.string (Str x.1), (.int .i64 (x).2), .pointer (some ⟨Ba, 0, none⟩)] w fun e w' => e = .returned (.bool true) ∧ Boxed w' Ba 3 (.int .i64 ((i + 1 : Nat) : Int)) ∧ Mv (fun k => k = Ba) w w' := by
  have c := h.cell
  have f := h.frozen
  have HB := hid h
  have hw : IntKind.i64.wrap ((i : Int) + 1) = (i : Int) + 1 := by rw [IntKind.wrap_i64]; omega
  clear h
  go_enter Try.func23, Try.ntmps23
  go_wp2
  go_ret
  exact ⟨rfl, HB.out.set _, Mv.setCell _ _ _ rfl⟩
set_option maxRecDepth 100000 in
set_option maxHeartbeats 3200000 in
theorem seqearly_any (A : Option Addr) (c : Nat) (l : List Itm) (n : Int) (hn : -9223372036854775808 ≤ n ∧ n < 9223372036854775808) (hl : l.length ≤ 100000000000000) (w : World) (hrl : Rd w A (its l)) :
    Calls Try.prog 7 #[.slice A l.length c, .int .i64 n] w fun e w' => e = .returned (.bool true) ∧ Below w.heap.size w w' := by
  have HRL := hid hrl
  clear hrl
  go_enter Try.func7, Try.ntmps7
  go_wp2_with fail
  refine (awake_any w).mono ?_; rintro e w0 ⟨rfl, hb0⟩
  have HB0 := hid hb0
  clear hb0
  by_cases h1 : 300 < l.length
  · have q1 : decide ((300 : Int) < (l.length : Int)) = true := decide_eq_true (by omega)
    go_wp2
    go_ret
    exact ⟨rfl, HB0.out⟩
  have q1 : decide ((300 : Int) < (l.length : Int)) = false := decide_eq_false (by omega)
  obtain ⟨w1, hw1⟩ : ∃ w1, w1 = w0.alloc (.cells #[.int .i64 0] 3) := ⟨_, rfl⟩
  have hal1 : Below w0.heap.size w0 w1 := by rw [hw1]; exact below_al (below_rf w0) _
  have bx1 : Boxed w1 w0.heap.size 3 (.int .i64 0) := by rw [hw1]; exact Boxed.new w0 _ _
  have HB1 := hid (below_tr HB0.out hal1)
  have z1 : w1.heap.size = w0.heap.size + 1 := by rw [hw1]; simp
  have Z1 := hid z1
  have HPA := hid (pairs_any A c l (by omega) w1 (HRL.out.below HB1.out))
  have HX1 := hid bx1
  clear hal1 bx1
  clear z1
  go_wp2_with fail
  rw [← hw1]
  clear hw1
  refine HPA.out.mono ?_; rintro e w2 ⟨⟨v2, rfl, hown2⟩, hb2⟩
  have z1 := Z1.out
  obtain ⟨A2, c2, rfl, hcc2, hrd2, hA2, hsp2⟩ := Rd.own' hown2
  have hlt2 : ∀ b o, A2 = some ⟨b, o, none⟩ → w1.heap.size ≤ b ∧ b < w2.heap.size := by
    rintro b o rfl
    exact ⟨own_block_base hown2 b rfl, own_lt' hown2 b rfl⟩
  have s2 := hb2.size
  have HX2 := hid (show Boxed w2 w0.heap.size 3 (.int .i64 0) from (hb2.block _ (by omega)).trans HX1.out)
  have HLT := hid hlt2
  have HRD2 := hid hrd2
  have HB2 := hid (below_tr HB1.out hb2)
  clear hb2 hown2 hrd2 hcc2 hA2 hsp2 hlt2
  clear z1
  go_wp2_with fail
  refine (of_any A2 l.length c2 w2).mono ?_; rintro e w3 ⟨rfl, hw3⟩
  have z1 := Z1.out
  have hal3 : Below w2.heap.size w2 w3 := by rw [hw3]; exact below_al (below_rf w2) _
  have z3 : w3.heap.size = w2.heap.size + 1 := by rw [hw3]; simp
  have Z3 := hid z3
  have c3 : w3.cell? ⟨w2.heap.size, 0, none⟩ = some (.slice A2 l.length c2) := by rw [hw3, World.cell?_alloc_at _ _ _ _ rfl]; rfl
  have HX3 := hid (show Boxed w3 w0.heap.size 3 (.int .i64 0) from (hal3.block _ (by omega)).trans HX2.out)
  have hRl : ∀ k, ROf w2.heap.size A2 k → w1.heap.size ≤ k ∧ k < w3.heap.size := fun k hk => by
    rcases hk with h | ⟨b, o, e, h⟩
    · omega
    · have := HLT.out b o e; omega
  have hit1 := of_iter w2.heap.size A2 c2 l (by omega) w3 c3 (HRD2.out.below hal3) (fun k hk => (hRl k hk).2)
  have HB3 := hid (below_tr HB2.out hal3)
  clear hw3 hal3 c3
  clear z1
  clear z3
  go_wp2_with fail
  refine (only_any 38 23 _ _ w3).mono ?_; rintro e w4 ⟨rfl, hw4⟩
  have z1 := Z1.out
  have z3 := Z3.out
  have hal4 : Below w3.heap.size w3 w4 := by rw [hw4]; exact below_al (below_al (below_rf w3) _) _
  have z4 : w4.heap.size = w3.heap.size + 2 := by rw [hw4]; simp
  have Z4 := hid z4
  have c40 : Boxed w4 w3.heap.size 31 (.func (.func 38) #[] #[.pointer (some ⟨w2.heap.size, 0, none⟩)]) := by rw [hw4]; exact (Boxed.new w3 _ _).alloc _
  have c41 : Boxed w4 (w3.heap.size + 1) 38 (.func (.func 23) #[] #[.pointer (some ⟨w0.heap.size, 0, none⟩)]) := by rw [hw4]; exact boxed_new2 w3 _ _ _
  have hit2 := only_iter 38 #[.pointer (some ⟨w2.heap.size, 0, none⟩)] (enters_of Try.func38 (by kernel_rfl) rfl) l _ _ hit1 23 #[.pointer (some ⟨w0.heap.size, 0, none⟩)] (enters_of Try.func23 (by kernel_rfl) rfl)
    (fun _ => true) (fun k => k = w0.heap.size) (fun i W => Boxed W w0.heap.size 3 (.int .i64 (i : Int))) (fun i W W' h hm => boxed_mv h hm (fun h => h rfl)) (fun i W hi hk => early1_any _ i _ (by omega) W hk) w3.heap.size (w3.heap.size + 1)
    ⟨fun h => by have := hRl _ h; omega, by omega⟩ ⟨fun h => by have := hRl _ h; omega, by omega⟩ (fun k h e => by have := hRl _ h; omega) (fun i W hi h0 hT hk => by
      rw [idx_tt l i hi] at h0; subst h0; exact ⟨hT, hk⟩)
  rw [filter_tt] at hit2
  have HX4 := hid (show Boxed w4 w0.heap.size 3 (.int .i64 0) from (hal4.block _ (by omega)).trans HX3.out)
  have HB4 := hid (below_tr HB3.out hal4)
  have hT4 : onlyT (fun _ => true) l (fun i W => Boxed W w0.heap.size 3 (.int .i64 (i : Int))) (Still (ROf w2.heap.size A2) w3) (OnlyCs w3.heap.size (w3.heap.size + 1) 38 23 #[.pointer (some ⟨w2.heap.size, 0, none⟩)] #[.pointer (some ⟨w0.heap.size, 0, none⟩)]) 0 w4 :=
    ⟨0, Nat.zero_le _, rfl, fun k hk => hal4.block k (hRl k hk).2, HX4.out, c40, c41⟩
  clear hw4 hit1
  clear z1
  clear z3
  clear z4
  go_wp2_with fail
  refine (head_any n 40 _ w4).mono ?_; rintro e w5 ⟨rfl, hw5⟩
  have z1 := Z1.out
  have z3 := Z3.out
  have z4 := Z4.out
  have hal5 : Below w4.heap.size w4 w5 := by rw [hw5]; exact below_al (below_al (below_rf w4) _) _
  have z5 : w5.heap.size = w4.heap.size + 2 := by rw [hw5]; simp
  have Z5 := hid z5
  have c50 : Boxed w5 w4.heap.size 31 (.func (.func 40) #[] #[.pointer (some ⟨w3.heap.size, 0, none⟩), .pointer (some ⟨w3.heap.size + 1, 0, none⟩)]) := by rw [hw5]; exact (Boxed.new w4 _ _).alloc _
  have c51 : Boxed w5 (w4.heap.size + 1) 3 (.int .i64 n) := by rw [hw5]; exact boxed_new2 w4 _ _ _
  have hR4 : ∀ k, ((k = w3.heap.size ∨ k = w3.heap.size + 1) ∨ ROf w2.heap.size A2 k ∨ k = w0.heap.size) → w0.heap.size ≤ k ∧ k < w4.heap.size := fun k hk => by
    rcases hk with h | h | h
    · omega
    · have := hRl _ h; omega
    · omega
  obtain ⟨N, hN⟩ : ∃ N, N = min n.toNat l.length := ⟨_, rfl⟩
  have hit3 := head_iter 40 #[.pointer (some ⟨w3.heap.size, 0, none⟩), .pointer (some ⟨w3.heap.size + 1, 0, none⟩)] (enters_of Try.func40 (by kernel_rfl) rfl) l _ _ hit2 (w4.heap.size + 1) w4.heap.size n
    (fun h => by have := hR4 _ h; omega) (fun h => by have := hR4 _ h; omega) hn N hN
  obtain ⟨ys, hys⟩ : ∃ ys, ys = l.take N := ⟨_, rfl⟩
  have hNl : ys.length = N := by rw [hys, List.length_take]; omega
  have hit4 := iter_congr hit3 (encs' := encI ys) (fun i hi => by rw [hys]; exact encI_take l N i hi)
  rw [← hNl] at hit4
  have hT5 := hit2.keeps _ _ _ hT4 (Mv.of_below hal5)
  have HLI := hid (list_iter 42 #[.pointer (some ⟨w4.heap.size + 1, 0, none⟩), .pointer (some ⟨w4.heap.size, 0, none⟩)] (enters_of Try.func42 (by kernel_rfl) rfl) ys (by omega) _ _ hit4 w5 (fun k hk => by
    rcases hk with h | h | h
    · omega
    · omega
    · have := hR4 _ h; omega) ⟨hT5, c51, c50⟩)
  have HB5 := hid (below_tr HB4.out hal5)
  have HR4 := hid hR4
  have HN := hid hN
  have HNL := hid hNl
  clear hys hw5 hal5 c50 c51 c40 c41 hit2 hit3 hit4 hT5 hT4 hR4 hN hNl hal4
  clear z1
  clear z3
  clear z4
  clear z5
  go_wp2_with fail
  refine HLI.out.mono ?_; rintro e w6 ⟨⟨v6, rfl, hown6⟩, hm6, hT6⟩
  have z1 := Z1.out
  have z3 := Z3.out
  have z4 := Z4.out
  have z5 := Z5.out
  obtain ⟨⟨i, hi, hix, hTi, hKi, hCi⟩, _, _⟩ := hT6
  rw [idx_tt l i hi, HNL.out] at hix
  subst hix
  have hB6 : Below w.heap.size w w6 := HB5.out.trans (hm6.below (by have := HB5.out.size; omega) (fun k hk h => by
    have h0 := HB0.out.size
    rcases h with h | h | h
    · omega
    · omega
    · have := HR4.out _ h; omega))
  have ci := Boxed.cell hKi
  have HB6 := hid hB6
  have hmin : ∀ m : Int, m = max 0 (min n (l.length : Int)) → ((i : Int) == m) = true := fun m hm => beq_iff_eq.2 (by have := HN.out; omega)
  clear hTi hKi hCi hm6 hown6 hB6
  clear z1
  clear z3
  clear z4
  clear z5
  go_wp2
  all_goals
    go_ret
    refine ⟨?_, HB6.out⟩
    refine congrArg (fun b => Ending.returned (Value.bool b)) (hmin _ ?_)
    first | omega | (split at * <;> omega) | (split <;> split at * <;> omega)
end Go.Proofs.Ytiemcfkekaklgaa.W02
