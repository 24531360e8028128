/- SeqLists: a run through a list has its pairs; its beginnings, what is kept and made of it, are the document's. -/
import Derived.Test.YtiemcfkekaklgaaSeqLib
set_option linter.unusedVariables false
set_option linter.unusedSimpArgs false
namespace Go.Proofs.Ytiemcfkekaklgaa.W02
open Go.RowKit Go.Shelf Go.Proofs.Ytiemcfkekaklgaa.Lib Go.Proofs.Ytiemcfkekaklgaa.Prs Go.Proofs.Ytiemcfkekaklgaa.Run Go.Proofs.Ytiemcfkekaklgaa.Runs Go.Proofs.Ytiemcfkekaklgaa.Lt Go.Proofs.Ytiemcfkekaklgaa.Sp
attribute [local go_sem] Str_toList
def isEven (x : Itm) : Bool := x.2.tmod 2 == 0
def xorLen (x : Itm) : Int := bits .xor .i64 x.2 ((Str x.1).size : Int)
set_option maxRecDepth 100000 in
theorem lists1_any (x : Itm) (w : World) :
    Calls Try.prog 25 #[.string (Str x.1), (.int .i64 (x).2)] w fun e w' => e = .returned (.bool (isEven x)) ∧ w' = w := by
  go_enter Try.func25, Try.ntmps25
  go_wp2
  go_ret
  exact ⟨rfl, rfl⟩
set_option maxRecDepth 100000 in
theorem lists2_any (x : Itm) (w : World) :
    Calls Try.prog 27 #[.string (Str x.1), (.int .i64 (x).2)] w fun e w' => e = .returned (.int .i64 (xorLen x)) ∧ w' = w := by
  go_enter Try.func27, Try.ntmps27
  go_wp2
  go_ret
  exact ⟨rfl, rfl⟩
theorem rl_to {f : Nat} {args : Array Value} {W : World} {ys : List Itm} (h : Calls Try.prog f args W (RL W ys)) : Calls Try.prog f args W fun e W' => ∃ A c, e = .returned (.slice A ys.length c) ∧ Hid (Rd W' A (its ys) ∧ Below W.heap.size W W') :=
  h.mono fun e W' ⟨⟨v, he, ho⟩, hb⟩ => by
    obtain ⟨A, c, rfl, _, hr, _, _⟩ := Rd.own' ho
    exact ⟨A, c, he, hid ⟨hr, hb⟩⟩
theorem same_yes (A B : Option Addr) (c d : Nat) (l : List Itm) (hl : l.length ≤ 1000000000) (w : World) (h1 : Rd w A (its l)) (h2 : Rd w B (its l)) :
    Calls Try.prog 12 #[.slice A l.length c, .slice B l.length d] w fun e w' => e = .returned (.bool true) ∧ Below w.heap.size w w' :=
  (same_any A B c d l l hl (by omega) w h1 h2).mono fun e w' h => ⟨by rw [h.1, decide_eq_true rfl], h.2⟩
theorem made_take (f : Itm → Int) (l : List Itm) (k : Nat) (h : k < l.length) : madeL f (l.take (k + 1)) = madeL f (l.take k) ++ [((itm l k).1, f (itm l k))] := by
  rw [take_itm l k h]; simp [madeL]
/-- two rows of the law's own, side by side -/
structure Two (w0 : Nat) (W : World) (u v : Value) (K M : List Itm) : Prop where
  k : W.ownsRow w0 52 2 u K.length (its K)
  m : W.ownsRow w0 52 2 v M.length (its M)
  ne : ∀ j, u.ownBlock = some j → v.ownBlock ≠ some j
theorem Two.mv {O : Nat → Prop} {w0 : Nat} {W W' : World} {u v : Value} {K M : List Itm} (h : Two w0 W u v K M) (hm : Mv O W W') (hO : ∀ j, O j → W.heap.size ≤ j) : Two w0 W' u v K M :=
  ⟨own_mv h.k hm (fun j hj e => by have := own_lt' h.k j hj; have := hO j e; omega), own_mv h.m hm (fun j hj e => by have := own_lt' h.m j hj; have := hO j e; omega), h.ne⟩
theorem Two.alloc {w0 : Nat} {W : World} {u v : Value} {K M : List Itm} (h : Two w0 W u v K M) (o : Obj) : Two w0 (W.alloc o) u v K M := h.mv (Mv.alloc (O := fun _ => False) W o) (fun _ h => False.elim h)
theorem Two.growK {w0 : Nat} {W W' : World} {u v u' : Value} {K M : List Itm} {x : Itm} (h : Two w0 W u v K M) (ho : W'.ownsRow w0 52 2 u' (K.length + 1) (its K ++ [.string (Str x.1), (.int .i64 (x).2)])) (hg : W.grownBy W' u.ownBlock) (hv : u'.ownBlock = u.ownBlock ∨ u'.ownBlock = some W.heap.size) : Two w0 W' u' v (K ++ [x]) M := by
  refine ⟨by rw [its_app, List.length_append]; exact ho, own_mv h.m (Mv.grown (O := fun k => u.ownBlock = some k) hg (fun k hk _ => hk)) (fun j hj e => h.ne j e hj), fun j hj e => ?_⟩
  rcases hv with hv | hv
  · exact h.ne j (hv ▸ hj) e
  · rw [hv] at hj; injection hj with hj; have := own_lt' h.m j e; omega
theorem Two.growM {w0 : Nat} {W W' : World} {u v v' : Value} {K M : List Itm} {x : Itm} (h : Two w0 W u v K M) (ho : W'.ownsRow w0 52 2 v' (M.length + 1) (its M ++ [.string (Str x.1), (.int .i64 (x).2)])) (hg : W.grownBy W' v.ownBlock) (hv : v'.ownBlock = v.ownBlock ∨ v'.ownBlock = some W.heap.size) : Two w0 W' u v' K (M ++ [x]) := by
  refine ⟨own_mv h.k (Mv.grown (O := fun k => v.ownBlock = some k) hg (fun k hk _ => hk)) (fun j hj e => h.ne j hj e), by rw [its_app, List.length_append]; exact ho, fun j hj e => ?_⟩
  rcases hv with hv | hv
  · exact h.ne j hj (hv ▸ e)
  · rw [hv] at e; injection e with e; have := own_lt' h.k j hj; omega
theorem rd_new (W : World) (cs : List Value) (t : TypeId) : Rd (W.alloc (.cells cs.toArray t)) (some ⟨W.heap.size, 0, none⟩) cs := by
  refine .inr ⟨_, _, rfl, fun j y hj => ?_⟩
  rw [World.cell?_alloc_at _ _ _ _ rfl, Nat.zero_add, ← hj]
  simp
theorem ti_P2 : TI Try.prog 22 52 2 24 := TI.of (by kernel_rfl) (by kernel_rfl) (by decide) (by decide)
set_option maxRecDepth 100000 in
set_option maxHeartbeats 6400000 in
theorem seqlists_any (A : Option Addr) (c : Nat) (l : List Itm) (n : Int) (hn : -9223372036854775808 ≤ n ∧ n < 9223372036854775808) (hl : l.length ≤ 100000000000000) (w : World) (hrl : Rd w A (its l)) :
    Calls Try.prog 8 #[.slice A l.length c, .int .i64 n] w fun e w' => e = .returned (.bool true) ∧ Below w.heap.size w w' := by
  have HRL := hid hrl
  clear hrl
  go_enter Try.func8, Try.ntmps8
  go_wp2_with fail
  refine (awake_any w).mono ?_; rintro e w0 ⟨rfl, hb0⟩
  have HB0 := hid hb0
  clear hb0
  by_cases h1 : 300 < l.length
  · have q1 : decide ((300 : Int) < (l.length : Int)) = true := decide_eq_true (by omega)
    go_wp2
    go_ret
    exact ⟨rfl, HB0.out⟩
  have q1 : decide ((300 : Int) < (l.length : Int)) = false := decide_eq_false (by omega)
  have HPA := hid (pairs_any A c l (by omega) w0 (HRL.out.below HB0.out))
  go_wp2_with fail
  refine HPA.out.mono ?_; rintro e w1 ⟨⟨va, rfl, hown1⟩, hb1⟩
  obtain ⟨Aa, ca, rfl, hca, hrda, hAa, hspa⟩ := Rd.own' hown1
  have HB1 := hid (below_tr HB0.out hb1)
  have HOF := hid (of_new Aa ca l w1 hrda (fun b o e => by subst e; exact own_lt' hown1 b rfl))
  clear hb1 hown1 hrda hAa hspa hca
  go_wp2_with fail
  refine HOF.out.mono ?_; rintro e w2 ⟨rfl, hof2, hb2⟩
  obtain ⟨Bs, hBs⟩ : ∃ Bs, Bs = w1.heap.size := ⟨_, rfl⟩
  rw [← hBs] at hof2 ⊢
  have HB2 := hid (below_tr HB1.out hb2)
  have HO2 := hid hof2
  have HLT2 := hid hof2.rlt
  obtain ⟨N, hN⟩ : ∃ N, N = l.length := ⟨_, rfl⟩
  rw [← hN]
  have HN := hid hN
  have hNs : N ≤ 300 := by omega
  clear hb2 hof2 hBs hN
  go_wp2
  go_loopw [6, 7, 22] (fun u v i wr => ∃ k : Nat, k ≤ N ∧ i = .int .i64 (k : Int) ∧ Hid (Two w2.heap.size wr u v ((l.take k).filter isEven) (madeL xorLen (l.take k))) ∧ Below w2.heap.size w2 wr) (fun _ _ i _ => N - (intOf i).toNat)
  case atStart => exact ⟨0, Nat.zero_le _, rfl, hid ⟨own_nil _ _ _ _, own_nil _ _ _ _, fun j h => by cases h⟩, below_rf w2⟩
  case round =>
    obtain ⟨k, hk, rfl, HT, hB⟩ := hrel
    obtain ⟨Au, cu, rfl⟩ := own_succ HT.out.k
    obtain ⟨Av, cv, rfl⟩ := own_succ HT.out.m
    by_cases hlt : k < N
    · obtain ⟨b, o, rfl, hc1, hc2⟩ := rd_itm (Rd.below HRL.out (HB2.out.trans (hB.mono HB2.out.size))) (j := k) (by rw [← HN.out]; exact hlt)
      have hft := R02.filter_take isEven l k (by rw [← HN.out]; exact hlt)
      have hmt := made_take xorLen l k (by rw [← HN.out]; exact hlt)
      have hfl := R02.filter_le isEven l k
      have hml : (madeL xorLen (l.take k)).length = k := by unfold madeL; rw [List.length_map, List.length_take, ← HN.out]; omega
      obtain ⟨x, hx⟩ : ∃ x, x = itm l k := ⟨_, rfl⟩
      obtain ⟨K, hK⟩ : ∃ K, K = (l.take k).filter isEven := ⟨_, rfl⟩
      obtain ⟨M, hM⟩ : ∃ M, M = madeL xorLen (l.take k) := ⟨_, rfl⟩
      rw [← hx] at hc1 hc2 hft hmt
      rw [← hK] at hft HT hfl ⊢
      rw [← hM] at hmt HT hml ⊢
      have HFT := hid hft
      have HMT := hid hmt
      have HML := hid hml
      have hml2 : M.length ≤ 300 := by omega
      clear hx hK hM hft hmt hml
      -- the pair's copy
      obtain ⟨Wa, hWa⟩ : ∃ Wa, Wa = wr.alloc (Obj.cells #[.string (Str x.1), .int .i64 x.2] 52) := ⟨_, rfl⟩
      have hbA : Below w2.heap.size w2 Wa := by rw [hWa]; exact hB.alloc hB.size _
      have HTA : Hid (Two w2.heap.size Wa _ _ K M) := hid (by rw [hWa]; exact HT.out.alloc _)
      have ca1 : Wa.cell? ⟨wr.heap.size, 0, none⟩ = some (.string (Str x.1)) := by rw [hWa, World.cell?_alloc_at _ _ _ _ rfl]; rfl
      have ca2 : Wa.cell? ⟨wr.heap.size, 1, none⟩ = some (.int .i64 x.2) := by rw [hWa, World.cell?_alloc_at _ _ _ _ rfl]; rfl
      have za : Wa.heap.size = wr.heap.size + 1 := by rw [hWa]; simp
      have HZA := hid za
      clear za
      cases he : isEven x with
      | false =>
        have he' : (x.2.tmod 2 == 0) = false := he
        rw [he, if_neg (by decide)] at HFT
        have HB8 := hid hbA
        have HT8 := HTA
        obtain ⟨W8, hW8⟩ : ∃ W8, W8 = Wa := ⟨_, rfl⟩
        rw [← hW8] at HT8 HB8
        have HZ8 : Hid (W8.heap.size = wr.heap.size + 1) := hid (by rw [hW8]; exact HZA.out)
        rw [hWa] at hW8
        clear he hbA
        go_wp2_with (at_builtin; rw [← hW8]; (refine wpList_appS (w0 := W8.alloc (.cells [Value.string (Str x.1), .int .i64 (xorLen x)].toArray 52)) ti_P2 (.tmp 34) (.tmp 44) (by rfl) (by rfl) w2.heap.size (some ⟨W8.heap.size, 0, none⟩) 1 1 [.string (Str x.1), .int .i64 (xorLen x)] (by rfl) (by rw [HZ8.out]; rfl) (HT8.out.alloc _).m (by rfl) (rd_new _ _ _) (by intro h; cases h) (by intro a h; injection h with h; subst h; rfl) (by simp [Value.oneCell']) (Below.refl _ _) (HB8.out.alloc HB8.out.size _).size (by omega) ?_; intro v9 w9 ho9 hg9 hv9 hB9 hs9; have HT9 := hid ((HT8.out.alloc _).growM (x := (x.1, xorLen x)) ho9 hg9 hv9); have HB9 := hid ((HB8.out.alloc HB8.out.size _).trans hB9)))
        go_wp2
        go_roundw
        case rel => exact ⟨k + 1, by omega, by simp, hid (by rw [HFT.out, HMT.out]; exact HT9.out), HB9.out⟩
        case measure => simp [intOf]; omega
      | true =>
        have he' : (x.2.tmod 2 == 0) = true := he
        rw [he, if_pos rfl] at HFT
        clear he
        obtain ⟨Wb, hWb⟩ : ∃ Wb, Wb = Wa.alloc (.cells [Value.string (Str x.1), .int .i64 x.2].toArray 52) := ⟨_, rfl⟩
        have hrb := rd_new Wa [Value.string (Str x.1), .int .i64 x.2] 52
        rw [← hWb] at hrb
        have HTB : Hid (Two w2.heap.size Wb _ _ K M) := hid (by rw [hWb]; exact HTA.out.alloc _)
        have hbB : Below w2.heap.size w2 Wb := by rw [hWb]; exact hbA.alloc hbA.size _
        have HRB := hid hrb
        clear hrb
        rw [hWa] at hWb
        have hkk := HTB.out.k
        have HKEEP : Hid (∀ w8, Wb.grownBy w8 (Value.slice Au K.length cu).ownBlock → w8.cell? ⟨wr.heap.size, 0, none⟩ = some (.string (Str x.1)) ∧ w8.cell? ⟨wr.heap.size, 1, none⟩ = some (.int .i64 x.2)) := hid (fun w8 hg => by
          have hm : Mv (fun k => (Value.slice Au K.length cu).ownBlock = some k) Wa w8 := (show Mv _ Wa Wb by rw [hWb, hWa]; exact Mv.alloc _ _).trans (Mv.grown (O := fun k => (Value.slice Au K.length cu).ownBlock = some k) hg (fun k hk _ => hk)) (fun _ h => h) (fun _ _ h => h)
          have hne : ¬ (Value.slice Au K.length cu).ownBlock = some wr.heap.size := fun e => absurd (own_lt' HT.out.k _ e) (by omega)
          exact ⟨hm.cell ca1 hne, hm.cell ca2 hne⟩)
        have HBW := hid hbB
        clear ca1 ca2 hbA hbB
        go_wp2_with (first
          | (at_builtin; rw [← hWb]; (refine wpList_appS (w0 := Wb) ti_P2 (.tmp 30) (.tmp 32) (by rfl) (by rfl) w2.heap.size (some ⟨Wa.heap.size, 0, none⟩) 1 1 [.string (Str x.1), .int .i64 x.2] (by rfl) (by rw [HZA.out]; rfl) hkk (by rfl) HRB.out (by intro h; cases h) (by intro a h; injection h with h; subst h; rfl) (by simp [Value.oneCell']) (Below.refl _ _) HBW.out.size (by omega) ?_; intro v8 W8 ho8 hg8 hv8 hB8 hs8; have HT8 := hid (HTB.out.growK ho8 hg8 hv8); obtain ⟨A8, c8, rfl⟩ := own_succ ho8; obtain ⟨cb1, cb2⟩ := HKEEP.out _ hg8; have HB8 : Hid (Below w2.heap.size w2 W8) := hid (HBW.out.trans hB8); clear ho8 hg8 hv8 hB8 hs8))
          | (at_builtin; (refine wpList_appS (w0 := W8.alloc (.cells [Value.string (Str x.1), .int .i64 (xorLen x)].toArray 52)) ti_P2 (.tmp 34) (.tmp 44) (by rfl) (by rfl) w2.heap.size (some ⟨W8.heap.size, 0, none⟩) 1 1 [.string (Str x.1), .int .i64 (xorLen x)] (by rfl) (by rfl) (HT8.out.alloc _).m (by rfl) (rd_new _ _ _) (by intro h; cases h) (by intro a h; injection h with h; subst h; rfl) (by simp [Value.oneCell']) (Below.refl _ _) (HB8.out.alloc HB8.out.size _).size (by omega) ?_; intro v9 w9 ho9 hg9 hv9 hB9 hs9; have HT9 := hid ((HT8.out.alloc _).growM (x := (x.1, xorLen x)) ho9 hg9 hv9); have HB9 := hid ((HB8.out.alloc HB8.out.size _).trans hB9))))
        go_wp2
        go_roundw
        case rel => exact ⟨k + 1, by omega, by simp, hid (by rw [HFT.out, HMT.out]; exact HT9.out), HB9.out⟩
        case measure => simp [intOf]; omega
    · obtain rfl : k = N := by omega
      have htl : l.take k = l := List.take_of_length_le (by rw [HN.out]; exact Nat.le_refl _)
      rw [htl] at HT ⊢
      obtain ⟨_, _, e8, _, hrK, _, _⟩ := Rd.own' HT.out.k
      injection e8 with e81 e82 e83
      subst e81
      obtain ⟨_, _, e9, _, hrM, _, _⟩ := Rd.own' HT.out.m
      injection e9 with e91 e92 e93
      subst e91
      have HRK := hid hrK
      have HRM := hid hrM
      have hK3 : (l.filter isEven).length ≤ 300 := by have := List.length_filter_le isEven l; have := HN.out; omega
      have hM3 : (madeL xorLen l).length ≤ 300 := by unfold madeL; rw [List.length_map]; have := HN.out; omega
      have hH3 : (l.take n.toNat).length ≤ 300 := by rw [List.length_take]; have := HN.out; omega
      have hl3 : l.length ≤ 300 := by have := HN.out; omega
      have HBr := hid hB
      have HLT : Hid (∀ W, Below w2.heap.size w2 W → ∀ j, ROf Bs Aa j → j < W.heap.size) := hid (fun W hW j hj => Nat.lt_of_lt_of_le (HLT2.out j hj) hW.size)
      obtain ⟨K, hK⟩ : ∃ K, K = l.filter isEven := ⟨_, rfl⟩
      obtain ⟨M, hM⟩ : ∃ M, M = madeL xorLen l := ⟨_, rfl⟩
      obtain ⟨H, hH⟩ : ∃ H, H = l.take n.toNat := ⟨_, rfl⟩
      rw [← hK] at hK3 HRK ⊢
      rw [← hM] at hM3 HRM ⊢
      rw [← hH] at hH3
      have HKE := hid hK
      have HME := hid hM
      have HHE := hid hH
      have HON := hid (only_new Bs 25 #[] wr)
      clear htl e82 e83 e92 e93 hrK hrM hK hM hH hB HT
      have HLL := hid hl3
      rw [HN.out] at *
      clear hl3
      go_wp2_with fail
      (with_reducible refine HON.out.mono ?_)
      rintro e w3 ⟨rfl, hon3, hb3⟩
      have HB3 := hid (HBr.out.trans (hb3.mono HBr.out.size))
      have HON3 := hid hon3
      have HRK3 := hid (HRK.out.below hb3)
      have HRM3 := hid (HRM.out.below hb3)
      have HMN := hid (made_new Bs 27 w3)
      have hqr := HLT.out wr HBr.out
      have HQ3 := hid hqr
      have HQM := hid (HLT.out w3 HB3.out)
      clear hb3 hon3 hqr
      go_wp2_with fail
      (with_reducible refine HMN.out.mono ?_)
      rintro e w4 ⟨rfl, hmn4, hb4⟩
      have HB4 := hid (HB3.out.trans (hb4.mono HB3.out.size))
      have HON4 := hid (HON3.out.below hb4)
      have HMN4 := hid hmn4
      have HRK4 := hid (HRK3.out.below hb4)
      have HRM4 := hid (HRM3.out.below hb4)
      clear hb4 hmn4
      have HC4 := hid (below_rf w4)
      have HF4 : Hid (∀ W, Below w4.heap.size w4 W → Below w2.heap.size w2 W) := hid (fun W hW => HB4.out.trans (hW.mono HB4.out.size))
      have HRL4 : Hid (∀ W, Below w4.heap.size w4 W → Rd W A (its l)) := hid (fun W hW => HRL.out.below (HB2.out.trans ((HF4.out W hW).mono HB2.out.size)))
      have hll := HLL.out
      have HL5 := hid (rl_to (list_of (HO2.out.below (HF4.out _ HC4.out)) (by omega)))
      go_wp2_with fail
      (with_reducible refine HL5.out.mono ?_)
      rintro e w5 ⟨A5, c5, rfl, H5⟩
      have HC5 := hid (below_tr HC4.out H5.out.2)
      have HS6 := hid (same_yes A5 A c5 c l (by omega) w5 H5.out.1 (HRL4.out _ HC5.out))
      go_wp2_with fail
      (with_reducible refine HS6.out.mono ?_)
      rintro e w6 ⟨rfl, hb⟩
      have HC6 := hid (below_tr HC5.out hb)
      clear hb
      have HL7 := hid (rl_to (list_of (HO2.out.below (HF4.out _ HC6.out)) (by omega)))
      go_wp2_with fail
      (with_reducible refine HL7.out.mono ?_)
      rintro e w7 ⟨A7, c7, rfl, H7⟩
      have HC7 := hid (below_tr HC6.out H7.out.2)
      have HS8 := hid (same_yes A7 A c7 c l (by omega) w7 H7.out.1 (HRL4.out _ HC7.out))
      go_wp2_with fail
      (with_reducible refine HS8.out.mono ?_)
      rintro e w8 ⟨rfl, hb⟩
      have HC8 := hid (below_tr HC7.out hb)
      clear hb
      have HHN := hid (head_new Bs n w8)
      have HQ8 := hid (HLT.out w8 (HF4.out _ HC8.out))
      go_wp2_with fail
      (with_reducible refine HHN.out.mono ?_)
      rintro e w9 ⟨rfl, hh9, hb⟩
      have HC9 := hid (below_tr HC8.out hb)
      have HH9 := hid hh9
      clear hb hh9
      have hlh := list_head hn (HO2.out.below (HF4.out _ HC9.out)) (by omega) HH9.out HQ8.out
      rw [← HHE.out] at hlh
      have HLH := hid hlh
      clear hlh
      have HL10 := hid (rl_to HLH.out)
      go_wp2_with fail
      (with_reducible refine HL10.out.mono ?_)
      rintro e w10 ⟨A10, c10, rfl, H10⟩
      have HC10 := hid (below_tr HC9.out H10.out.2)
      have hrh := R02.rhead_any A c l n (by omega) w10 (HRL4.out _ HC10.out)
      rw [← HHE.out] at hrh
      have HRH := hid hrh
      clear hrh
      go_wp2_with fail
      (with_reducible refine HRH.out.mono ?_)
      rintro e w11 ⟨⟨v11, rfl, ho11⟩, hb⟩
      obtain ⟨A11, c11, rfl, _, hr11, _, _⟩ := Rd.own' ho11
      have HC11 := hid (below_tr HC10.out hb)
      have HR11 := hid hr11
      have H10b := hid (⟨H10.out.1.below hb, trivial⟩ : Rd w11 A10 (its H) ∧ True)
      clear hb ho11 hr11
      have HS12 := hid (same_yes A10 A11 c10 c11 H (by omega) w11 H10b.out.1 HR11.out)
      go_wp2_with fail
      (with_reducible refine HS12.out.mono ?_)
      rintro e w12 ⟨rfl, hb⟩
      have HC12 := hid (below_tr HC11.out hb)
      clear hb
      have hlo := list_only (enters_of Try.func25 (by kernel_rfl) rfl) isEven (fun _ => False) (fun k hk => hk.elim) (fun i W' hi hs => lists1_any (itm l i) W') (HO2.out.below (HF4.out _ HC12.out)) (by omega) (HON4.out.below HC12.out) HQ3.out
      rw [← HKE.out] at hlo
      have HLO := hid hlo
      clear hlo
      have HL13 := hid (rl_to HLO.out)
      go_wp2_with fail
      (with_reducible refine HL13.out.mono ?_)
      rintro e w13 ⟨A13, c13, rfl, H13⟩
      have HC13 := hid (below_tr HC12.out H13.out.2)
      have HS14 := hid (same_yes A13 _ c13 cu K (by omega) w13 H13.out.1 (HRK4.out.below HC13.out))
      go_wp2_with fail
      (with_reducible refine HS14.out.mono ?_)
      rintro e w14 ⟨rfl, hb⟩
      have HC14 := hid (below_tr HC13.out hb)
      clear hb
      have hlm := list_made (enters_of Try.func27 (by kernel_rfl) rfl) xorLen (fun x W => lists2_any x W) (HO2.out.below (HF4.out _ HC14.out)) (by omega) (HMN4.out.below HC14.out) HQM.out
      rw [← HME.out] at hlm
      have HLM := hid hlm
      clear hlm
      have HL15 := hid (rl_to HLM.out)
      go_wp2_with fail
      (with_reducible refine HL15.out.mono ?_)
      rintro e w15 ⟨A15, c15, rfl, H15⟩
      have HC15 := hid (below_tr HC14.out H15.out.2)
      have HS16 := hid (same_yes A15 _ c15 cv M (by omega) w15 H15.out.1 (HRM4.out.below HC15.out))
      go_wp2_with fail
      (with_reducible refine HS16.out.mono ?_)
      rintro e w16 ⟨rfl, hb⟩
      have HC16 := hid (below_tr HC15.out hb)
      clear hb
      have hri := rises_of (HO2.out.below (HF4.out _ HC16.out)) (by omega)
      have hrr : ∀ W, Below w4.heap.size w4 W → _ := fun W hW => R02.rrises_any A c l (by omega) W (HRL4.out _ hW)
      obtain ⟨rb, hrb⟩ : ∃ rb, rb = risesP l := ⟨_, rfl⟩
      rw [← hrb] at hri
      have HRI := hid hri
      have HRR := hid hrr
      have HRB := hid hrb
      clear hri hrr hrb
      go_wp2_with fail
      (with_reducible refine HRI.out.mono ?_)
      rintro e w17 ⟨rfl, hb⟩
      have HC17 := hid (below_tr HC16.out hb)
      clear hb
      have hr17 := HRR.out w17 HC17.out
      rw [← HRB.out] at hr17
      have HR17 := hid hr17
      clear hr17
      go_wp2_with fail
      (with_reducible refine HR17.out.mono ?_)
      rintro e w18 ⟨rfl, hb⟩
      have HC18 := hid (below_tr HC17.out hb)
      clear hb
      cases rb
      all_goals
        go_wp2
        go_ret
        exact ⟨rfl, HB2.out.trans ((HF4.out _ HC18.out).mono HB2.out.size)⟩
end Go.Proofs.Ytiemcfkekaklgaa.W02
