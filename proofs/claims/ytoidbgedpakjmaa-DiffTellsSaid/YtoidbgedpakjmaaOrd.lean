/- Rows of pairs of texts. Runs over pairs: seq.Of, seq.Rises. The order of texts; where a key stands among pairs that rise. Layer 8 in plain words: what bytes are read as a node. -/
import Derived.Test.YtoidbgedpakjmaaBlk
import Derived.Test.YtoidbgedpakjmaaT08
import Derived.RangeFuncNested
import Derived.RangeFuncBound
import Derived.RangeFuncCalls
import Derived.RangeFuncLeaves
import Derived.Shelf.Abstract
import Derived.Shelf.RegionOpen
import Derived.WalkKit
import Derived.OwnWalkIn
import Derived.TacticsInMore
import Derived.LoopNIn
import Derived.LoopIn
import Derived.Test.YtoidbgedpakjmaaProg
import Derived.Lib.Bytealg
set_option linter.unusedVariables false
set_option linter.unusedSimpArgs false
namespace Go.Proofs.Ytoidbgedpakjmaa.Itms
open Go.RowKit Go.Proofs.Ytoidbgedpakjmaa.Lib Go.Proofs.Ytoidbgedpakjmaa.T08
def its (l : List Itm) : List Value := l.flatMap fun x => [.string (Str x.1), .string (Str x.2)]
theorem its_cons (x : Itm) (l : List Itm) : its (x :: l) = .string (Str x.1) :: .string (Str x.2) :: its l := rfl
theorem its_app (l m : List Itm) : its (l ++ m) = its l ++ its m := by simp [its]
theorem its_len (l : List Itm) : (its l).length = 2 * l.length := by
  induction l with
  | nil => rfl
  | cons x l ih => rw [its_cons]; simp only [List.length_cons, ih]; omega
def itm (l : List Itm) (i : Nat) : Itm := l.getD i ([], [])
theorem itm_eq (l : List Itm) (i : Nat) (h : i < l.length) : itm l i = l[i] := by simp [itm, List.getD_eq_getElem?_getD, List.getElem?_eq_getElem h]
theorem take_itm (l : List Itm) (k : Nat) (h : k < l.length) : l.take (k + 1) = l.take k ++ [itm l k] := by
  rw [itm_eq l k h, List.take_add_one, List.getElem?_eq_getElem h]; rfl
theorem its_get (l : List Itm) : ∀ i, i < l.length → (its l)[2 * i]? = some (.string (Str (itm l i).1)) ∧ (its l)[2 * i + 1]? = some (.string (Str (itm l i).2)) := by
  induction l with
  | nil => intro i h; simp at h
  | cons x l ih =>
    intro i h
    rw [its_cons]
    cases i with
    | zero => exact ⟨rfl, rfl⟩
    | succ i =>
      have := ih i (by simpa using h)
      rw [show 2 * (i + 1) = 2 * i + 2 by omega]
      simpa [itm] using this
theorem its_drop (l : List Itm) : ∀ k, its (l.drop k) = (its l).drop (2 * k) := by
  induction l with
  | nil => intro k; simp [its]
  | cons x l ih =>
    intro k
    cases k with
    | zero => simp
    | succ k => rw [List.drop_succ_cons, ih, its_cons, show 2 * (k + 1) = 2 * k + 2 by omega]; rfl
theorem its_take (l : List Itm) : ∀ k, its (l.take k) = (its l).take (2 * k) := by
  induction l with
  | nil => intro k; simp [its]
  | cons x l ih =>
    intro k
    cases k with
    | zero => simp [its]
    | succ k => rw [List.take_succ_cons, its_cons, ih, its_cons, show 2 * (k + 1) = 2 * k + 2 by omega]; rfl
theorem its_one (l : List Itm) : ∀ u ∈ its l, u.oneCell' = true := by
  induction l with
  | nil => intro u h; simp [its] at h
  | cons x l ih =>
    intro u h
    rw [its_cons] at h
    rcases List.mem_cons.1 h with rfl | h
    · rfl
    · rcases List.mem_cons.1 h with rfl | h
      · rfl
      · exact ih u h
theorem rd_itm {w : World} {A : Option Addr} {l : List Itm} (h : Rd w A (its l)) {j : Nat} (hj : j < l.length) : ∃ b o, A = some ⟨b, o, none⟩ ∧ w.cell? ⟨b, o + j * 2, none⟩ = some (.string (Str (itm l j).1)) ∧ w.cell? ⟨b, o + j * 2 + 1, none⟩ = some (.string (Str (itm l j).2)) := by
  obtain ⟨g1, g2⟩ := its_get l j hj
  rcases h with h | ⟨b, o, rfl, h⟩
  · rw [h] at g1; simp at g1
  · exact ⟨b, o, rfl, by rw [Nat.mul_comm j 2]; exact h _ _ g1, by rw [Nat.mul_comm j 2, Nat.add_assoc]; exact h _ _ g2⟩
theorem rd_dropN {w : World} {b o : Nat} {xs : List Value} (h : Rd w (some ⟨b, o, none⟩) xs) (n : Nat) : Rd w (some ⟨b, o + n, none⟩) (xs.drop n) := by
  rcases h with h | ⟨b', o', e, h⟩
  · exact .inl (by rw [h, List.drop_nil])
  · injection e with e; injection e with e1 e2; subst e1; subst e2
    refine .inr ⟨_, _, rfl, fun j x hj => ?_⟩
    rw [List.getElem?_drop] at hj
    rw [Nat.add_assoc]
    exact h _ _ hj
end Go.Proofs.Ytoidbgedpakjmaa.Itms
namespace Go.Proofs.Ytoidbgedpakjmaa.WSeq
open Go.RowKit Go.Shelf Go.Proofs.Ytoidbgedpakjmaa.Lib Go.Proofs.Ytoidbgedpakjmaa.T08 Go.Proofs.Ytoidbgedpakjmaa.Itms
attribute [local go_sem] Oper.semAt_some
set_option maxRecDepth 100000 in
set_option maxHeartbeats 2000000 in
/-- seq.Of's closure: every pair in turn. -/
theorem of1_in (F : Fence) (n : Nat) (h68 : F.fn 48) (hro : F.round = none) (hn : 1 ≤ n) (lp Bs n₀ : Nat) (A : Option Addr) (c : Nat) (l : List Itm) (hl : l.length ≤ 1000000000) (hlow : ∀ b o, A = some ⟨b, o, none⟩ → b < n₀) (J Jx : List Itm → World → Prop)
    (W : World) (hn0 : n₀ ≤ W.heap.size) (hJ : AbidesFrom W.heap.size J)
    (hY : ∀ pre x W, J pre W → pre.length < l.length → YieldAt F (n - 1) Try.prog lp #[.string (Str x.1), .string (Str x.2)] W fun e W' =>
      (e = .returned (.bool true) ∧ J (pre ++ [x]) W' ∧ Below n₀ W W') ∨ (e = .returned (.bool false) ∧ Jx (pre ++ [x]) W'))
    (hBs : W.cell? ⟨Bs, 0, none⟩ = some (.slice A l.length c)) (hrd : Rd W A (its l)) (h0 : J [] W) :
    CallsIn F n Try.prog 48 #[.func (.yield lp) #[] #[], .pointer (some ⟨Bs, 0, none⟩)] W fun e W' => (∃ v, e = .returned v) ∧
      ((∃ ys, ys = l ∧ J ys W') ∨ (∃ pre, pre <+: l ∧ Jx pre W')) := by
  refine callsIn_of_wp Try.func48 rfl h68 ?_ hro
  simp only [Try.ntmps48, List.size_toArray, List.length_cons, List.length_nil, Nat.reduceAdd, Nat.reduceSub, Array.replicate_succ, Array.replicate_zero, List.push_toArray, List.append_toArray, List.nil_append, List.cons_append]
  gi_wp2
  gi_loopw [7] (fun i wr => ∃ k : Nat, k ≤ l.length ∧ i = .int .i64 k ∧ J (l.take k) wr ∧ Below n₀ W wr)
    (fun i _ => l.length - (intOf i).toNat)
  case atStart => exact ⟨0, Nat.zero_le _, rfl, h0, Below.refl _ _⟩
  case round =>
    obtain ⟨k, hk, rfl, hJs, hnx⟩ := hrel
    by_cases hlt : k < l.length
    · obtain ⟨b, o, rfl, hc1, hc2⟩ := rd_itm hrd hlt
      have hb := hlow b o rfl
      have q1 := (hnx.cell (p := ⟨b, o + k * 2, none⟩) hb).trans hc1
      have q2 := (hnx.cell (p := ⟨b, o + k * 2 + 1, none⟩) hb).trans hc2
      have hJ1 : J (l.take k) (wr.alloc (Obj.cells #[.string (Str (itm l k).1), .string (Str (itm l k).2)] 63)) := hJ _ _ _ none hJs (World.grownBy_alloc _ _ none) (fun r e => by cases e)
      have hal : Below n₀ wr (wr.alloc (Obj.cells #[.string (Str (itm l k).1), .string (Str (itm l k).2)] 63)) := (Below.refl n₀ wr).alloc (Nat.le_trans hn0 hnx.size) _
      obtain ⟨fn, tmps, assign, body, hy, hR⟩ := hY _ (itm l k) _ hJ1 (by simp; omega)
      gi_wp2
      refine hR.mono ?_
      rintro e W3 (⟨rfl, hJ3, hk3⟩ | ⟨rfl, hJx3⟩)
      · gi_wp2
        go_roundw
        case rel => exact ⟨k + 1, by omega, by simp, by rw [take_itm l k hlt]; exact hJ3, hnx.trans (hal.trans hk3)⟩
        case measure => simp [intOf]; omega
      · gi_wp2
        refine bodyPost_ret (results_none rfl _ _ _) rfl ?_
        exact ⟨⟨_, rfl⟩, .inr ⟨_, by rw [← take_itm l k hlt]; exact List.take_prefix _ _, hJx3⟩⟩
    · obtain rfl : k = l.length := by omega
      rw [List.take_length] at hJs
      gi_wp2
      go_end0
      exact ⟨⟨_, rfl⟩, .inl ⟨_, rfl, hJs⟩⟩
theorem of_any (A : Option Addr) (n c : Nat) (w : World) :
    Calls Try.prog 29 #[.slice A n c] w fun e w' => e = .returned (.func (.func 48) #[] #[.pointer (some ⟨w.heap.size, 0, none⟩)]) ∧ w' = w.alloc (.cells #[.slice A n c] 28) := by
  go_enter Try.func29, Try.ntmps29
  go_wp2
  go_ret
  exact ⟨rfl, rfl⟩
def encP (x : Itm) : Array Value := #[.string (Str x.1), .string (Str x.2)]
theorem of_stops (F : Fence) (n : Nat) (h68 : F.fn 48) (hro : F.round = none) (hn : 1 ≤ n) (Bs n₀ : Nat) (A : Option Addr) (c : Nat) (l : List Itm) (hl : l.length ≤ 1000000000) (hlow : ∀ b o, A = some ⟨b, o, none⟩ → b < n₀) (w : World) (hBs : Bs < w.heap.size) (hn₀ : n₀ ≤ w.heap.size)
    (hc : w.cell? ⟨Bs, 0, none⟩ = some (.slice A l.length c)) (hrd : Rd w A (its l)) :
    SeqStopsK F n Try.prog 48 #[.pointer (some ⟨Bs, 0, none⟩)] (fun x : Itm => #[.string (Str x.1), .string (Str x.2)]) (Below n₀) (fun ys => ys = l) (fun pre => pre <+: l) l.length w := fun lp J Jx W hW hJ hJx hY h0 =>
  of1_in F n h68 hro hn lp Bs n₀ A c l hl hlow J Jx W (Nat.le_trans hn₀ hW.size) hJ hY ((hW.cell (p := ⟨Bs, 0, none⟩) hBs).trans hc) (hrd.below hW) h0
def ltS (a b : List UInt8) : Bool := Op.bytesLess a b
def stepS (s : Option (List UInt8) × Bool) (x : Itm) : Option (List UInt8) × Bool := (some x.1, s.2 && match s.1 with | none => true | some p => ltS p x.1)
def okS (l : List Itm) : Bool := (l.foldl stepS (none, true)).2
def lastS (l : List Itm) : List UInt8 := match l.getLast? with | none => [] | some x => x.1
theorem isEmpty_snoc (q : List Itm) (y : Itm) : (q ++ [y]).isEmpty = false := by cases q <;> rfl
theorem stepS_fst (pre : List Itm) : (pre.foldl stepS (none, true)).1 = pre.getLast?.map (·.1) := by
  rcases List.eq_nil_or_concat pre with rfl | ⟨q, y, rfl⟩
  · rfl
  · rw [List.concat_eq_append, List.foldl_append]; simp [stepS]
theorem okS_snoc (pre : List Itm) (x : Itm) : okS (pre ++ [x]) = (okS pre && (pre.isEmpty || ltS (lastS pre) x.1)) := by
  unfold okS
  rw [List.foldl_append]
  simp only [List.foldl_cons, List.foldl_nil, stepS, stepS_fst]
  rcases List.eq_nil_or_concat pre with rfl | ⟨q, y, rfl⟩
  · rfl
  · rw [List.concat_eq_append, isEmpty_snoc]; simp [lastS]
theorem step_false (t : List Itm) : ∀ o, (t.foldl stepS (o, false)).2 = false := by
  induction t with
  | nil => intro o; rfl
  | cons x t ih => intro o; exact ih _
theorem okS_prefix {pre l : List Itm} (h : pre <+: l) (hf : okS pre = false) : okS l = false := by
  obtain ⟨t, rfl⟩ := h
  unfold okS at hf ⊢
  rw [List.foldl_append]
  rcases hq : pre.foldl stepS (none, true) with ⟨a, b⟩
  rw [hq] at hf
  dsimp only at hf
  subst hf
  exact step_false t a
theorem lastS_snoc (pre : List Itm) (x : Itm) : lastS (pre ++ [x]) = x.1 := by simp [lastS]
attribute [local go_sem] Str_toList
set_option maxRecDepth 100000 in
set_option maxHeartbeats 2000000 in
theorem rises_in (F : Fence) (n : Nat) (h41 : F.fn 33) (h68 : F.fn 48) (hro : F.round = none) (hn : 3 ≤ n) (Bs : Nat) (A : Option Addr) (c : Nat) (l : List Itm) (hl : l.length ≤ 1000000000) (w : World) (hBs : Bs < w.heap.size) (hlow : ∀ b o, A = some ⟨b, o, none⟩ → b < w.heap.size)
    (hc : w.cell? ⟨Bs, 0, none⟩ = some (.slice A l.length c)) (hrd : Rd w A (its l)) :
    CallsIn F n Try.prog 33 #[.func (.func 48) #[] #[.pointer (some ⟨Bs, 0, none⟩)]] w fun e W' => e = .returned (.bool (okS l)) ∧ Below w.heap.size w W' := by
  have h1 : 1 ≤ n := by omega
  refine callsIn_of_wp_marks Try.func33 rfl h41 ?_ hro
  simp only [Try.ntmps33, List.size_toArray, List.length_cons, List.length_nil, Nat.reduceAdd, Nat.reduceSub, Array.replicate_succ, Array.replicate_zero, List.push_toArray, List.append_toArray, List.nil_append, List.cons_append]
  gi_wp2
  obtain ⟨w3, hw3⟩ : ∃ w3, w3 = ((w.alloc (Obj.cells #[Value.bool false] 4)).alloc (Obj.cells #[Value.string ⟨#[]⟩] 9)).alloc (Obj.cells #[Value.bool true] 4) := ⟨_, rfl⟩
  have z3 : w3.heap.size = w.heap.size + 3 := by rw [hw3]; simp
  have hB0 : Below w.heap.size w w3 := by rw [hw3]; exact below_al (below_al (below_al (below_rf w) _) _) _
  have b0 : Boxed w3 w.heap.size 4 (.bool false) := by rw [hw3]; exact ((Boxed.new w _ _).alloc _).alloc _
  have b1 : Boxed w3 (w.heap.size + 1) 9 (.string (Str [])) := by
    rw [hw3, Str_nil]
    have := Boxed.new (w.alloc (Obj.cells #[Value.bool false] 4)) 9 (.string ⟨#[]⟩)
    rw [World.size_alloc] at this
    exact this.alloc _
  have b2 : Boxed w3 (w.heap.size + 2) 4 (.bool true) := by
    rw [hw3]
    have := Boxed.new ((w.alloc (Obj.cells #[Value.bool false] 4)).alloc (Obj.cells #[Value.string ⟨#[]⟩] 9)) 4 (.bool true)
    rw [World.size_alloc, World.size_alloc] at this
    exact this
  rw [← hw3]
  refine wpIn_rangeFunc_ownG hro h1 (gf := 48) (lb := #[.pointer (some ⟨Bs, 0, none⟩)]) rfl h68 (enters_of Try.func48 (by kernel_rfl) rfl)
    (of_stops F (n - 1) h68 hro (by omega) Bs w.heap.size A c l hl hlow w3 (by rw [z3]; omega) (by rw [z3]; omega) ((hB0.cell (p := ⟨Bs, 0, none⟩) hBs).trans hc) (hrd.below hB0)) belowK_t (belowK_b (by rw [z3]; omega)) (Below.refl _ _) (fun _ => rfl)
    (fun pre W => (okS pre = true ∧ Boxed W w.heap.size 4 (.bool false) ∧ Boxed W (w.heap.size + 1) 9 (.string (Str (lastS pre))) ∧ Boxed W (w.heap.size + 2) 4 (.bool pre.isEmpty)) ∧ Below w.heap.size w W)
    (fun c pre W => (c = .ret ∧ okS pre = false ∧ Boxed W w.heap.size 4 (.bool false)) ∧ Below w.heap.size w W)
    (OwnFrom.and (OwnFrom.and (ownFrom_pure _ _) (OwnFrom.and (Own.from (boxed_own _ _ _) _) (OwnFrom.and (Own.from (boxed_own _ _ _) _) (Own.from (boxed_own _ _ _) _)))) (ownFrom_below (Nat.le_refl _) (by rw [z3]; omega)))
    (fun c => OwnFrom.and (OwnFrom.and (ownFrom_pure _ _) (OwnFrom.and (ownFrom_pure _ _) (Own.from (boxed_own _ _ _) _))) (ownFrom_below (Nat.le_refl _) (by rw [z3]; omega)))
    ⟨⟨rfl, b0, b1, b2⟩, hB0⟩
    (fun x => { tmps := #[.func (.func 48) #[] #[.pointer (some ⟨Bs, 0, none⟩)], undef, .pointer (some ⟨w.heap.size, 0, none⟩), .pointer (some ⟨w.heap.size + 1, 0, none⟩), .pointer (some ⟨w.heap.size + 2, 0, none⟩), .string (Str x.1), .func (.func 48) #[] #[.pointer (some ⟨Bs, 0, none⟩)], .string (Str x.1), .string (Str x.2), undef, undef, undef, undef, undef, undef, undef, undef], defers := [] }) ?assign ?body ?done ?stop
  case assign =>
    intro l x W K hK
    gi_wp2
    exact hK
  case body =>
    rintro lp pre x W ⟨⟨hok, hb0, hb1, hb2⟩, hB⟩ _
    have c0 := hb0.cell; have c1 := hb1.cell; have c2 := hb2.cell
    have f0 := hb0.frozen; have f1 := hb1.frozen; have f2 := hb2.frozen
    have hgo : okS (pre ++ [x]) = true → ownPostG w3.heap.size (Below w.heap.size) (fun pre W => (okS pre = true ∧ Boxed W w.heap.size 4 (.bool false) ∧ Boxed W (w.heap.size + 1) 9 (.string (Str (lastS pre))) ∧ Boxed W (w.heap.size + 2) 4 (.bool pre.isEmpty)) ∧ Below w.heap.size w W) (fun c pre W => (c = .ret ∧ okS pre = false ∧ Boxed W w.heap.size 4 (.bool false)) ∧ Below w.heap.size w W) (pre ++ [x]) W .normal ⟨#[], []⟩ ((W.setCell ⟨w.heap.size + 1, 0, none⟩ (.string (Str x.1))).setCell ⟨w.heap.size + 2, 0, none⟩ (.bool false)) := by
      intro hk
      refine ⟨((KeepsOthers.setCell _ _ _).trans (KeepsOthers.setCell _ _ _)).from _, ((Below.refl w.heap.size W).setCell (p := ⟨w.heap.size + 1, 0, none⟩) (Nat.le_succ _) _).setCell (p := ⟨w.heap.size + 2, 0, none⟩) (by simp) _, ⟨hk, (hb0.other (by omega) _).other (by omega) _, ?_, ?_⟩, (hB.setCell (p := ⟨w.heap.size + 1, 0, none⟩) (Nat.le_succ _) _).setCell (p := ⟨w.heap.size + 2, 0, none⟩) (by simp) _⟩
      · rw [lastS_snoc]; exact (hb1.set _).other (by omega) _
      · have := (hb2.other (B' := w.heap.size + 1) (by omega) (.string (Str x.1))).set (.bool false)
        rw [isEmpty_snoc]; exact this
    rcases List.eq_nil_or_concat pre with rfl | ⟨q, y, hq⟩
    · gi_wp2
      exact hgo rfl
    · have he : pre.isEmpty = false := by rw [hq, List.concat_eq_append, isEmpty_snoc]
      rw [he] at c2
      have hsn := okS_snoc pre x
      rw [hok, he] at hsn
      cases hlt : ltS (lastS pre) x.1 with
      | true =>
        rw [hlt] at hsn
        have hlt' : Op.bytesLess (lastS pre) x.1 = true := hlt
        have HQ := hid hq
        have HSN := hid hsn
        clear hq hsn
        gi_wp2
        exact hgo HSN.out
      | false =>
        rw [hlt] at hsn
        have hlt' : Op.bytesLess (lastS pre) x.1 = false := hlt
        have HQ := hid hq
        have HSN := hid hsn
        clear hq hsn
        gi_wp2
        exact ⟨(KeepsOthers.setCell _ _ _).from _, ⟨rfl, HSN.out, hb0.set _⟩, hB.setCell (p := ⟨w.heap.size, 0, none⟩) (Nat.le_refl _) _⟩
  case done =>
    rintro D ys W hD rfl ⟨⟨hok, hb0, hb1, hb2⟩, hB⟩ hK
    have c0 := hb0.cell
    have f0 := hb0.frozen
    gi_wp2
    have hK' := (KeepsOthers.setCell W ⟨w.heap.size, 0, none⟩ (.bool true)).same D _ hK rfl
    refine ⟨by simp, .inl ⟨_, _, rfl, run_takeDeferred hK', ?_⟩⟩
    have hc5 := cell_kept (hb0.set (.bool true)).cell (grownBy_putObj' _ D (.deferred none)) (fun r e => by cases e; exact ⟨_, hK', rfl⟩)
    refine ⟨.bool true, ?_, by rw [hok], (hB.setCell (p := ⟨w.heap.size, 0, none⟩) (Nat.le_refl _) _).trans (belowK_b (w := w) (Nat.le_refl _) _ D _ _ (by rw [z3] at hD; omega) hK' rfl rfl)⟩
    simp [results, Try.f33, go_sem, hc5]
  case stop =>
    rintro D c pre W hD hpre ⟨⟨rfl, hok, hb0⟩, hB⟩ hK
    gi_wp2
    refine ⟨by simp, .inl ⟨_, _, rfl, run_takeDeferred hK, ?_⟩⟩
    have hc5 := cell_kept hb0.cell (grownBy_putObj' _ D (.deferred none)) (fun r e => by cases e; exact ⟨_, hK, rfl⟩)
    refine ⟨.bool false, ?_, by rw [okS_prefix hpre hok], hB.trans (belowK_b (w := w) (Nat.le_refl _) W D _ _ (by rw [z3] at hD; omega) hK rfl rfl)⟩
    simp [results, Try.f33, go_sem, hc5]
theorem rises_any (Bs : Nat) (A : Option Addr) (c : Nat) (l : List Itm) (hl : l.length ≤ 1000000000) (w : World) (hBs : Bs < w.heap.size) (hlow : ∀ b o, A = some ⟨b, o, none⟩ → b < w.heap.size)
    (hc : w.cell? ⟨Bs, 0, none⟩ = some (.slice A l.length c)) (hrd : Rd w A (its l)) :
    Calls Try.prog 33 #[.func (.func 48) #[] #[.pointer (some ⟨Bs, 0, none⟩)]] w fun e W' => e = .returned (.bool (okS l)) ∧ Below w.heap.size w W' :=
  (callsIn_wide (n := 3)).1 (rises_in Fence.wide 3 trivial trivial rfl (by omega) Bs A c l hl w hBs hlow hc hrd)
end Go.Proofs.Ytoidbgedpakjmaa.WSeq
namespace Go.Proofs.Ytoidbgedpakjmaa.Ord
open Go.Proofs.Ytoidbgedpakjmaa.Lib Go.Proofs.Ytoidbgedpakjmaa.T08 Go.Proofs.Ytoidbgedpakjmaa.Itms Go.Proofs.Ytoidbgedpakjmaa.WSeq
theorem less_cons (a b : UInt8) (x y : List UInt8) : Op.bytesLess (a :: x) (b :: y) = (decide (a < b) || (a == b && Op.bytesLess x y)) := rfl
theorem lt_trans : ∀ (x y z : List UInt8), ltS x y = true → ltS y z = true → ltS x z = true
  | _, _, [], _, h => by simp [ltS, Op.bytesLess] at h
  | _, [], _ :: _, h, _ => by simp [ltS, Op.bytesLess] at h
  | [], _ :: _, _ :: _, _, _ => rfl
  | a :: x, b :: y, c :: z, h1, h2 => by
    unfold ltS at *
    rw [less_cons, Bool.or_eq_true, Bool.and_eq_true, decide_eq_true_eq, beq_iff_eq] at *
    rcases h1 with h1 | ⟨rfl, h1⟩
    · rcases h2 with h2 | ⟨rfl, h2⟩
      · exact .inl (UInt8.lt_trans h1 h2)
      · exact .inl h1
    · rcases h2 with h2 | ⟨rfl, h2⟩
      · exact .inl h2
      · exact .inr ⟨rfl, lt_trans x y z h1 h2⟩
theorem lt_irrefl : ∀ (x : List UInt8), ltS x x = false
  | [] => rfl
  | a :: x => by
    have := lt_irrefl x
    unfold ltS at *
    rw [less_cons, this]; simp
theorem cmp_neg : ∀ (x y : List UInt8), decide (Go.Lib.compareBytes x y < 0) = ltS x y
  | [], [] => rfl
  | [], _ :: _ => rfl
  | _ :: _, [] => rfl
  | a :: x, b :: y => by
    have ih := cmp_neg x y
    unfold ltS at *
    rw [less_cons, Go.Lib.compareBytes, ← ih]
    by_cases h1 : a < b
    · rw [if_pos h1, decide_eq_true h1]; rfl
    · rw [if_neg h1, decide_eq_false h1]
      by_cases h2 : b < a
      · have hne : (a == b) = false := beq_eq_false_iff_ne.2 (fun e => by subst e; exact UInt8.lt_irrefl _ h2)
        rw [if_pos h2, hne]; rfl
      · have he : a = b := UInt8.le_antisymm (UInt8.not_lt.1 h2) (UInt8.not_lt.1 h1)
        subst he
        rw [if_neg h2]; simp
theorem okS_take (l : List Itm) (k : Nat) (h : okS l = true) : okS (l.take k) = true := by
  cases hq : okS (l.take k) with
  | true => rfl
  | false => rw [okS_prefix (List.take_prefix k l) hq] at h; cases h
theorem okS_adj (l : List Itm) (h : okS l = true) (i : Nat) (hi : i + 1 < l.length) : ltS (itm l i).1 (itm l (i + 1)).1 = true := by
  have h1 := okS_take l (i + 2) h
  rw [take_itm l (i + 1) hi, okS_snoc, take_itm l i (by omega), isEmpty_snoc, lastS_snoc] at h1
  simp only [Bool.and_eq_true, Bool.false_or] at h1
  exact h1.2
theorem okS_lt (l : List Itm) (h : okS l = true) (i : Nat) : ∀ d, i + d + 1 < l.length → ltS (itm l i).1 (itm l (i + d + 1)).1 = true
  | 0, hd => okS_adj l h i hd
  | d + 1, hd => lt_trans _ _ _ (okS_lt l h i d (by omega)) (okS_adj l h (i + d + 1) (by omega))
/-- before i all keys are less than key; from i on none is -/
def PlaceAt (l : List Itm) (key : List UInt8) (i : Nat) : Prop := i ≤ l.length ∧ (∀ t, t < i → ltS (itm l t).1 key = true) ∧ ∀ t, i ≤ t → t < l.length → ltS (itm l t).1 key = false
theorem place_lo (l : List Itm) (key : List UInt8) (h : okS l = true) (m t : Nat) (hm : m < l.length) (ht : t ≤ m) (hl : ltS (itm l m).1 key = true) : ltS (itm l t).1 key = true := by
  rcases Nat.lt_or_ge t m with h1 | h1
  · have := okS_lt l h t (m - t - 1) (by omega)
    rw [show t + (m - t - 1) + 1 = m by omega] at this
    exact lt_trans _ _ _ this hl
  · obtain rfl : t = m := by omega
    exact hl
theorem place_hi (l : List Itm) (key : List UInt8) (h : okS l = true) (m t : Nat) (hm : m ≤ t) (ht : t < l.length) (hl : ltS (itm l m).1 key = false) : ltS (itm l t).1 key = false := by
  cases hq : ltS (itm l t).1 key with
  | false => rfl
  | true => rw [place_lo l key h t m ht hm hq] at hl; cases hl
theorem place_one (l : List Itm) (key : List UInt8) (i j : Nat) (hi : PlaceAt l key i) (hj : PlaceAt l key j) : i = j := by
  rcases Nat.lt_trichotomy i j with h | h | h
  · have h1 := hj.2.1 i h
    have h2 := hi.2.2 i (Nat.le_refl _) (Nat.lt_of_lt_of_le h hj.1)
    rw [h1] at h2; cases h2
  · exact h
  · have h1 := hi.2.1 j h
    have h2 := hj.2.2 j (Nat.le_refl _) (Nat.lt_of_lt_of_le h hi.1)
    rw [h1] at h2; cases h2
end Go.Proofs.Ytoidbgedpakjmaa.Ord
namespace Go.Proofs.Ytoidbgedpakjmaa.T08
open Go.Proofs.Ytoidbgedpakjmaa.Lib Go.Proofs.Ytoidbgedpakjmaa.Sha Go.Proofs.Ytoidbgedpakjmaa.T07 Go.Proofs.Ytoidbgedpakjmaa.WSeq
def n2 (s : List UInt8) : Nat := (bat s 0).toNat * 256 + (bat s 1).toNat
def fieldS (s : List UInt8) : Option (List UInt8 × List UInt8) :=
  if s.length < 2 then none else if s.length - 2 < n2 s then none else some ((s.drop 2).take (n2 s), (s.drop 2).drop (n2 s))
theorem field_rest {s a b : List UInt8} (h : fieldS s = some (a, b)) : b.length + 2 ≤ s.length ∧ a.length ≤ s.length := by
  unfold fieldS at h
  split at h
  · cases h
  · split at h
    · cases h
    · injection h with h; injection h with h1 h2
      subst h1; subst h2
      simp only [List.length_drop, List.length_take]; omega
def okVal (level : Nat) (v : List UInt8) : Bool := decide (level = 0) || (decide (v.length = 40) && decide (1 ≤ told v) && decide (told v ≤ 1099511627776))
def parseGo (level : Nat) : Nat → List UInt8 → Option (List Itm × List UInt8)
  | 0, r => some ([], r)
  | n + 1, r => match fieldS r with
    | none => none
    | some (k, r1) => match fieldS r1 with
      | none => none
      | some (v, r2) => if okVal level v = true then (match parseGo level n r2 with | none => none | some (l, r3) => some ((k, v) :: l, r3)) else none
end Go.Proofs.Ytoidbgedpakjmaa.T08
