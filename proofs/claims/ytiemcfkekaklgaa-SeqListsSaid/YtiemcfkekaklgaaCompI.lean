/- slices.CompactFunc over pairs of a text and a number. -/
import Derived.Test.YtiemcfkekaklgaaStabI
import Derived.Test.YtiemcfkekaklgaaBlk
set_option linter.unusedVariables false
set_option linter.unusedSimpArgs false
namespace Go.Proofs.Ytiemcfkekaklgaa.StabI
open Go.RowKit Go.Shelf Go.Proofs.Ytiemcfkekaklgaa.Lib Go.Proofs.Ytiemcfkekaklgaa.Prs Go.Proofs.Ytiemcfkekaklgaa.Run Go.Proofs.Ytiemcfkekaklgaa.Stab Go.Proofs.Ytiemcfkekaklgaa.QTail
def cpA (e : Itm → Itm → Bool) (L : List Itm) (k : Nat) : Nat := if k < L.length then (if e (itm L k) (itm L (k - 1)) then k else cpA e L (k + 1)) else L.length
termination_by L.length - k
/-- from k0 on, all behind the first two that are equal -/
def cpB (e : Itm → Itm → Bool) (M : List Itm) (k0 k j : Nat) : List Itm :=
  if k0 + j < M.length then (if e (itm M (k0 + j)) (itm M (k0 + j - 1)) then cpB e M k0 k (j + 1) else cpB e (M.set k (itm M (k0 + j))) k0 (k + 1) (j + 1)) else M.take k
termination_by M.length - j
decreasing_by all_goals (try simp only [List.length_set]); all_goals omega
/-- as slices.CompactFunc goes -/
def compactL (e : Itm → Itm → Bool) (L : List Itm) : List Itm := if L.length < 2 then L else if cpA e L 1 < L.length then cpB e L (cpA e L 1) (cpA e L 1) 1 else L
def EqOk (ef : Nat) (e : Itm → Itm → Bool) : Prop := ∀ (x y : Itm) (W : World), Calls Try.prog ef #[.agg #[(.string (Str (x).1)), (.int .i64 (x).2)], .agg #[(.string (Str (y).1)), (.int .i64 (y).2)]] W fun r w' => r = .returned (.bool (e x y)) ∧ Below W.heap.size W w'
theorem EqOk.at {ef : Nat} {e : Itm → Itm → Bool} (h : EqOk ef e) (x y : Itm) {w W : World} (hW : Below w.heap.size w W) : Calls Try.prog ef #[.agg #[(.string (Str (x).1)), (.int .i64 (x).2)], .agg #[(.string (Str (y).1)), (.int .i64 (y).2)]] W fun r w' => r = .returned (.bool (e x y)) ∧ Below w.heap.size w w' :=
  (h x y W).mono fun r w' ⟨he, hb⟩ => ⟨he, hW.trans (hb.mono hW.size)⟩
theorem RowL.cap_le {W : World} {base g cap : Nat} {L : List Itm} (h : RowL W base g cap L) : L.length ≤ cap ∧ cap ≤ maxLen := by
  rcases h.2 with ⟨e, _⟩ | ⟨g', cap', cur, e, hb, hh, h1, h2, _⟩
  · cases e
  · injection e with e1 e2 e3
    subst e3; exact ⟨h1, h2⟩
theorem its_take2 (L : List Itm) (k : Nat) : (its L).take (k * 2) = its (L.take k) := by rw [Nat.mul_comm, its_take]
theorem clear_tail (W : World) (base g cap k : Nat) (L : List Itm) (h : RowL W base g cap L) (hk : k < L.length) :
    ∃ W', (∀ ty, (Builtin.clear_ #[24] ty #[.slice (some ⟨g, k * 2, none⟩) (L.length - k) (cap - k)]).run Try.prog W = .ok (.tuple #[]) W') ∧ W'.ownsRow base 49 2 (.slice (some ⟨g, 0, none⟩) k cap) k (its (L.take k)) ∧ Mv (fun j => j = g) W W' := by
  have hu : Try.prog.underlying 24 = some (.slice 49) := by kernel_rfl
  have hz : ∀ w, (zeroValue 49).run Try.prog w = .ok (.agg #[.string ⟨#[]⟩, .int .i64 0]) w := fun w => by kernel_rfl
  rcases h.2 with ⟨e, _⟩ | ⟨g', cap', cur, e, hb, hh, h1, h2, h3, h4⟩
  · cases e
  injection e with e1 e2 e3
  injection e1 with e1; injection e1 with e1
  subst e1 e3
  obtain ⟨zs, hzs⟩ : ∃ zs, zs = (Builtin.zeroCells (Value.agg #[.string ⟨#[]⟩, .int .i64 0]).cells (L.length - k)).toList := ⟨_, rfl⟩
  have hzl : zs.length = (L.length - k) * 2 := by rw [hzs]; simp [Builtin.zeroCells, Value.cells]
  have hz1 : ∀ v ∈ zs, v.oneCell' = true := by
    intro v hv
    rw [hzs] at hv
    simp [Builtin.zeroCells, Value.cells] at hv
    obtain ⟨i, _, rfl⟩ := hv
    rcases Nat.mod_two_eq_zero_or_one i with h | h <;> simp [h, Value.oneCell']
  have hst := storeCells_B Try.prog g (k * 2) 49 (0, 0) zs 0 cur W hh (.inl rfl) (by rw [hzl]; omega) hz1
  obtain ⟨RR, hRR⟩ : ∃ RR, RR = (cur.toList.take (k * 2 + 0) ++ zs ++ cur.toList.drop (k * 2 + 0 + zs.length)).toArray := ⟨_, rfl⟩
  rw [← hRR] at hst
  obtain ⟨m, hm⟩ : ∃ m, L.length - k = m + 1 := ⟨L.length - k - 1, by omega⟩
  refine ⟨W.setRow g RR, ?_, ⟨?_, .inr ⟨g, cap, RR, rfl, hb, setRow_heap W g cur _ _ _ hh, by omega, h2, ?_, ?_⟩⟩, ?_⟩
  · intro ty
    rw [hm] at hzs ⊢
    simp [Builtin.clear_, run_underlying hu, hz, ← hzs, hst]
  · rw [its_len]; simp; omega
  · rw [hRR]; simp [hzl]; omega
  · rw [hRR]
    show List.take (k * 2) (cur.toList.take (k * 2 + 0) ++ zs ++ cur.toList.drop (k * 2 + 0 + zs.length)) = _
    rw [List.append_assoc, List.take_append_of_le_length (by simp; omega)]
    rw [← its_take2, ← h4, List.take_take, List.take_take]
    congr 1; omega
  · exact ⟨rfl, rfl, rfl, by simp, fun j hj hne => setRow_other W g j _ (fun e => hne e)⟩
theorem cpA_pos (e : Itm → Itm → Bool) (L : List Itm) (n : Nat) : ∀ k, L.length - k = n → 1 ≤ k → 1 ≤ L.length → 1 ≤ cpA e L k := by
  induction n with
  | zero => intro k h1 h2 h3; rw [cpA, if_neg (by omega)]; exact h3
  | succ n ih =>
    intro k h1 h2 h3; rw [cpA]; split
    · split
      · exact h2
      · exact ih _ (by omega) (by omega) h3
    · exact h3
set_option maxRecDepth 100000 in
set_option maxHeartbeats 3200000 in
theorem compact_any (base g cap ef : Nat) (e : Itm → Itm → Bool) (hef : EqOk ef e) (eg : ∀ args w, (callFunc ef args).run Try.prog w = .ok (.enter ef args) w) (L : List Itm) (hl : L.length ≤ 1000000000) (w : World) (h : RowL w base g cap L) :
    Calls Try.prog 36 #[.slice (some ⟨g, 0, none⟩) L.length cap, .func (.func ef) #[] #[]] w fun r w' => (∃ v, r = .returned v ∧ w'.ownsRow base 49 2 v (compactL e L).length (its (compactL e L))) ∧ Mv (fun k => k = g) w w' := by
  obtain ⟨n, hn⟩ : ∃ n, n = L.length := ⟨_, rfl⟩
  obtain ⟨hcap, hcm⟩ := h.cap_le
  have HN := hid hn
  rw [← hn] at hcap hl ⊢
  clear hn
  go_enter Try.func36, Try.ntmps36
  by_cases hn2 : n < 2
  · have q1 : decide ((n : Int) < 2) = true := decide_eq_true (by omega)
    go_wp2
    refine bodyPost_ret (results_tmp rfl _ _ _) rfl ?_
    have hc : compactL e L = L := by unfold compactL; rw [← HN.out, if_pos hn2]
    rw [hc]
    exact ⟨⟨_, rfl, by rw [HN.out]; exact h⟩, Mv.refl _ _⟩
  · have q1 : decide ((n : Int) < 2) = false := decide_eq_false (by omega)
    have HCO : Hid (compactL e L = if cpA e L 1 < n then cpB e L (cpA e L 1) (cpA e L 1) 1 else L) := hid (by unfold compactL; rw [← HN.out, if_neg hn2])
    go_wp2
    go_loopw [5] (fun k wr => ∃ k' : Nat, 1 ≤ k' ∧ k' ≤ n ∧ k = .int .i64 (k' : Int) ∧ RowL wr base g cap L ∧ Hid (cpA e L k' = cpA e L 1) ∧ Hid (Mv (fun j => j = g) w wr)) (fun k _ => n + 1 - (intOf k).toNat)
    case atStart => exact ⟨1, by omega, by omega, rfl, h, hid rfl, hid (Mv.refl _ _)⟩
    case round =>
      clear h
      obtain ⟨k, hk1, hkn, rfl, hrow, HE, HM⟩ := hrel
      by_cases hlt : k < n
      · obtain ⟨km, hkm⟩ : ∃ km, km = k - 1 := ⟨_, rfl⟩
        have hL2 : km < n := by omega
        have hkm2 : (k : Int) - 1 = (km : Int) := by omega
        have hwk : IntKind.i64.wrap (km : Int) = (km : Int) := by rw [IntKind.wrap_i64]; omega
        have hwk2 : IntKind.i64.wrap (k : Int) = (k : Int) := by rw [IntKind.wrap_i64]; omega
        obtain ⟨x, hx⟩ : ∃ x, x = itm L k := ⟨_, rfl⟩
        obtain ⟨y, hy⟩ : ∃ y, y = itm L km := ⟨_, rfl⟩
        have hc1 := fun W (hW : Below wr.heap.size wr W) => hrow.bcells hW (i := k) (by rw [← HN.out]; exact hlt)
        have hc2 := fun W (hW : Below wr.heap.size wr W) => hrow.bcells hW (i := km) (by rw [← HN.out]; exact hL2)
        rw [← hx] at hc1
        rw [← hy] at hc2
        have hcm := fun W (hW : Below wr.heap.size wr W) => hef.at x y hW
        obtain ⟨r, hr⟩ : ∃ r, r = e x y := ⟨_, rfl⟩
        rw [← hr] at hcm
        have HST : Hid (cpA e L k = if r then k else cpA e L (k + 1)) := hid (by rw [cpA.eq_1, ← HN.out, if_pos hlt, ← hkm, ← hx, ← hy, ← hr])
        clear hx hy hr hkm
        go_wp2
        refine wp_region_mild wr.heap.size (by kernel_rfl) (by kernel_rfl) ?_
        repeat (
          refine wpQuiet_step (fun K hK => ?_)
          first
            | (refine mild_skip (by rfl) (hK _ ?_)
               clear hK K)
            | (refine mild_read (by rfl) ?_
               apply Exists.intro
               refine ⟨fun W hW => ?_, hK _ ?_⟩
               (go_simp; first | rfl | (rw [if_neg (by omega)]) | (rw [if_pos (by omega)]))
               clear hK K)
            | (refine mild_call (by rfl) ?_
               apply Exists.intro
               apply Exists.intro
               refine ⟨fun W hW => ?_, ?_⟩
               (go_simp; exact ⟨rfl, rfl⟩)
               apply Exists.intro
               refine ⟨fun W hW => ?_, hK _ ?_⟩
               (with_reducible exact (hcm W hW))
               clear hK K)
          go_simp)
        refine wpQuiet_nil ?_
        intro W2 hW2
        have hr2 := hrow.mv (Mv.of_below (O := fun _ => False) hW2) (fun h => h)
        have HM2 := hid (HM.out.trans (Mv.of_below (O := fun j => j = g) hW2) (O := fun j => j = g) (fun _ h => h) (fun _ _ h => h))
        clear hc1 hc2 hcm hrow hW2 HM
        cases r with
        | false =>
          go_wp2
          go_roundw
          case rel => exact ⟨k + 1, by omega, by omega, by simp, hr2, hid (HST.out.symm.trans HE.out), HM2⟩
          case measure => simp [intOf]; omega
        | true =>
          have HK0 : Hid (k = cpA e L 1) := hid (by rw [← HE.out, HST.out]; rfl)
          have hne : ¬ cap = k := by omega
          have HCO2 : Hid (compactL e L = cpB e L k k 1) := hid (by rw [HCO.out, ← HK0.out, if_pos hlt])
          have HLL : Hid (L.length = n) := hid HN.out.symm
          clear HE HST hL2 hwk HCO
          go_wp2
          go_loopw [5, 7] (fun i j wr => ∃ k' t : Nat, k ≤ k' ∧ k' + 1 ≤ k + t ∧ k + t ≤ n ∧ i = .int .i64 (k' : Int) ∧ j = .int .i64 (t : Int) ∧ ∃ M : List Itm, Hid (M.length = n) ∧ RowL wr base g cap M ∧ Hid (cpB e M k k' t = cpB e L k k 1) ∧ Hid (Mv (fun j => j = g) w wr)) (fun _ j _ => n + 1 - (intOf j).toNat)
          case atStart => exact ⟨k, 1, Nat.le_refl _, by omega, by omega, rfl, rfl, L, HLL, hr2, hid rfl, HM2⟩
          case round =>
            clear hr2 HM2 hkm2
            obtain ⟨k', t, hk2, hkt, htn, rfl, rfl, M, HMl, hrow, HE, HM⟩ := hrel
            by_cases hlt2 : k + t < n
            · have q2 : decide ((t : Int) < ((n - k : Nat) : Int)) = true := decide_eq_true (by omega)
              obtain ⟨tm, htm⟩ : ∃ tm, tm = t - 1 := ⟨_, rfl⟩
              have htm2 : (t : Int) - 1 = (tm : Int) := by omega
              have hb1 : t < n - k := by omega
              have hb2 : tm < n - k := by omega
              have hb3 : k' < n := by omega
              have hwk : IntKind.i64.wrap (tm : Int) = (tm : Int) := by rw [IntKind.wrap_i64]; omega
              have hwk3 : IntKind.i64.wrap (t : Int) = (t : Int) := by rw [IntKind.wrap_i64]; omega
              have hwk4 : IntKind.i64.wrap (k' : Int) = (k' : Int) := by rw [IntKind.wrap_i64]; omega
              obtain ⟨x, hx⟩ : ∃ x, x = itm M (k + t) := ⟨_, rfl⟩
              obtain ⟨y, hy⟩ : ∃ y, y = itm M (k + tm) := ⟨_, rfl⟩
              have hc1 := fun W (hW : Below wr.heap.size wr W) => hrow.bcells hW (i := k + t) (by rw [HMl.out]; exact hlt2)
              have hc2 := fun W (hW : Below wr.heap.size wr W) => hrow.bcells hW (i := k + tm) (by rw [HMl.out]; omega)
              rw [← hx, Nat.add_mul] at hc1
              rw [← hy, Nat.add_mul] at hc2
              have hcm := fun W (hW : Below wr.heap.size wr W) => hef.at x y hW
              obtain ⟨r, hr⟩ : ∃ r, r = e x y := ⟨_, rfl⟩
              rw [← hr] at hcm
              have HST : Hid (cpB e M k k' t = if r then cpB e M k k' (t + 1) else cpB e (M.set k' x) k (k' + 1) (t + 1)) := hid (by
                rw [cpB.eq_1, HMl.out, if_pos hlt2, show k + t - 1 = k + tm by omega, ← hx, ← hy, ← hr])
              have HX := hid hx
              clear hx hy hr htm
              go_wp2
              refine wp_region_mild wr.heap.size (by kernel_rfl) (by kernel_rfl) ?_
              repeat (
                refine wpQuiet_step (fun K hK => ?_)
                first
                  | (refine mild_skip (by rfl) (hK _ ?_)
                     clear hK K)
                  | (refine mild_read (by rfl) ?_
                     apply Exists.intro
                     refine ⟨fun W hW => ?_, hK _ ?_⟩
                     (go_simp; first | rfl | (rw [if_neg (by omega)]) | (rw [if_pos (by omega)]))
                     clear hK K)
                  | (refine mild_call (by rfl) ?_
                     apply Exists.intro
                     apply Exists.intro
                     refine ⟨fun W hW => ?_, ?_⟩
                     (go_simp; exact ⟨rfl, rfl⟩)
                     apply Exists.intro
                     refine ⟨fun W hW => ?_, hK _ ?_⟩
                     (with_reducible exact (hcm W hW))
                     clear hK K)
                go_simp)
              refine wpQuiet_nil ?_
              intro W2 hW2
              have hr2 := hrow.mv (Mv.of_below (O := fun _ => False) hW2) (fun h => h)
              have HM2 := hid (HM.out.trans (Mv.of_below (O := fun j => j = g) hW2) (O := fun j => j = g) (fun _ h => h) (fun _ _ h => h))
              clear hc1 hc2 hcm hrow hW2 HM
              cases r with
              | true =>
                go_wp2
                go_roundw
                case rel => exact ⟨k', t + 1, by omega, by omega, by omega, rfl, by simp, M, HMl, hr2, hid (HST.out.symm.trans HE.out), HM2⟩
                case measure => simp [intOf]; omega
              | false =>
                obtain ⟨a1, a2⟩ := hr2.cells (i := k + t) (by rw [HMl.out]; exact hlt2)
                rw [← HX.out, Nat.add_mul] at a1 a2
                obtain ⟨b1, b2⟩ := hr2.cells (i := k') (by rw [HMl.out]; exact hb3)
                have f1 := hr2.fro (k' * 2)
                have f2 := hr2.fro (k' * 2 + 1)
                have P2 := hid (hr2.put (i := k') (by rw [HMl.out]; exact hb3) x)
                clear hr2
                go_wp2
                go_roundw
                case rel =>
                  refine ⟨k' + 1, t + 1, by omega, by omega, by omega, by simp, by simp, M.set k' x, hid (by rw [List.length_set]; exact HMl.out), P2.out, hid (HST.out.symm.trans HE.out), hid ?_⟩
                  exact (HM2.out.trans (Mv.setCell (O := fun j => j = g) W2 ⟨g, k' * 2, none⟩ _ rfl) (O := fun j => j = g) (fun _ h => h) (fun _ _ h => h)).trans (Mv.setCell (O := fun j => j = g) _ ⟨g, k' * 2 + 1, none⟩ _ rfl) (fun _ h => h) (fun _ _ h => h)
                case measure => simp [intOf]; omega
            · have q2 : decide ((t : Int) < ((n - k : Nat) : Int)) = false := decide_eq_false (by omega)
              have hb3 : k' < n := by omega
              have hne2 : ¬ cap = k' := by omega
              have hkc : k' ≤ cap := by omega
              have HRES : Hid (compactL e L = M.take k') := hid (by rw [HCO2.out, ← HE.out, cpB.eq_1, HMl.out, if_neg hlt2])
              have hcl := clear_tail wr base g cap k' M hrow (by rw [HMl.out]; exact hb3)
              rw [HMl.out] at hcl
              obtain ⟨W4, hW4, hown4, hm4⟩ := hcl
              have HOW := hid hown4
              have HM4 := hid (HM.out.trans hm4 (O := fun j => j = g) (fun _ h => h) (fun _ _ h => h))
              have HLE : Hid ((M.take k').length = k') := hid (by rw [List.length_take, HMl.out]; omega)
              have hkn4 : k' ≤ n := by omega
              clear hown4 hm4 hrow
              go_wp2
              refine bodyPost_ret (results_tmp rfl _ _ _) rfl ?_
              rw [HRES.out, HLE.out]
              exact ⟨⟨_, rfl, HOW.out⟩, HM4.out⟩
      · have HEND : Hid (compactL e L = L) := hid (by
          have : k = n := by omega
          rw [HCO.out, ← HE.out, cpA.eq_1, ← HN.out, if_neg hlt, if_neg (by omega)])
        go_wp2
        refine bodyPost_ret (results_tmp rfl _ _ _) rfl ?_
        rw [HEND.out]
        exact ⟨⟨_, rfl, by rw [HN.out] at *; exact hrow⟩, HM.out⟩
end Go.Proofs.Ytiemcfkekaklgaa.StabI
