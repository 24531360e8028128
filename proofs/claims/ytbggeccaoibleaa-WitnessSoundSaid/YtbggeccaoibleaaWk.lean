/- The walks of layer 8: a run over a tree of any height. -/
import Derived.Test.YtbggeccaoibleaaW08m
import Derived.Test.YtbggeccaoibleaaMixed
set_option linter.unusedVariables false
set_option linter.unusedSimpArgs false
namespace Go.Proofs.Ytbggeccaoibleaa.W08
open Go Go.RowKit Go.Shelf Go.Proofs.Ytbggeccaoibleaa.Lib Go.Proofs.Ytbggeccaoibleaa.Sha Go.Proofs.Ytbggeccaoibleaa.T08 Go.Proofs.Ytbggeccaoibleaa.QTail Go.Proofs.Ytbggeccaoibleaa.Itms Go.Proofs.Ytbggeccaoibleaa.WSeq Go.Proofs.Ytbggeccaoibleaa.Mp Go.Proofs.Ytbggeccaoibleaa.Ord Go.Proofs.Ytbggeccaoibleaa.Tree Go.Proofs.Ytbggeccaoibleaa.Run Go.Proofs.Ytbggeccaoibleaa.Inj
attribute [local go_sem] Oper.semAt_some
attribute [local go_sem] Str_size Str_toList Str_extract
theorem HeapT.mv {W W1 : World} {O : Nat → Prop} {hb mb n : Nat} {f} (h : HeapT W hb mb n f) (hm : Mv O W W1) (h1 : ¬ O hb) (h2 : ¬ O mb) : HeapT W1 hb mb n f := by
  refine ⟨(hm.block hb (Array.getElem?_eq_some_iff.1 h.1).1 h1).trans h.1, ?_⟩
  have hlt := h.2.lt
  obtain ⟨D, ⟨es, clock, g1, F, hs, hD⟩, h3⟩ := h.2
  exact ⟨D, ⟨es, clock, (hm.block mb hlt h2).trans g1, F, hs, hD⟩, h3⟩
theorem rdt_mv {O : Nat → Prop} {W W' : World} {A : Option Addr} {xs : List Value} (h : Rd W A xs) (hm : Mv O W W') (hn : ∀ b o, A = some ⟨b, o, none⟩ → ¬ O b) : Rd W' A xs := by
  rcases h with h | ⟨b, o, rfl, h⟩
  · exact .inl h
  · exact .inr ⟨b, o, rfl, fun j x hj => hm.cell (h j x hj) (hn b o rfl)⟩
theorem own_shape {W : World} {base n : Nat} {e : TypeId} {size : Nat} {v : Value} {xs : List Value} (h : W.ownsRow base e size v n xs) : ∃ A c, v = .slice A n c ∧ n ≤ c ∧ Rd W A xs ∧ (A = none → c = 0) ∧ ∀ a, A = some a → a.spot = none ∧ base ≤ a.block ∧ a.block < W.heap.size := by
  obtain ⟨A, c, rfl, hc, hr, _, hs⟩ := Rd.own' h
  refine ⟨A, c, rfl, hc, hr, ?_, fun a ha => ?_⟩
  · rintro rfl
    rcases h.2 with ⟨e, _⟩ | ⟨g, cap, cur, e, _⟩
    · injection e
    · injection e with e _ _; cases e
  · subst ha
    exact ⟨hs a rfl, own_block_base h a.block rfl, own_lt h a.block rfl⟩
/-- how a walk below a node ends -/
def WalkOut (J Jx : Nat → (Nat → Prop) → World → Prop) (off n : Nat) (ok : Bool) (O : Nat → Prop) (w : World) (e : Ending) (w' : World) : Prop :=
  ∃ O', Mv O w w' ∧ (∀ k, O' k → O k ∨ w.heap.size ≤ k) ∧ ((e = .returned (.bool ok) ∧ J (off + n) O' w') ∨ (e = .returned (.bool false) ∧ ∃ i, off ≤ i ∧ i < off + n ∧ Jx (i + 1) O' w'))
/-- what prolly.Node.walk owes at a node of level lv -/
def WalkC (lp hb mb n : Nat) (f : Src) (key : List UInt8) (encs : Nat → Array Value) (N : Nat) (R : Nat → Prop) (B : Nat) (J Jx : Nat → (Nat → Prop) → World → Prop) (lv : Nat) : Prop :=
  ∀ (l : List Itm) (A : Option Addr) (c off : Nat) (O : Nat → Prop) (w : World), okS l = true → l.length ≤ 16 → l.length ≤ c → (A = none → c = 0) → (0 < lv → ∀ x ∈ l, x.2.length = 40) → Rd w A (its l) → (∀ b o, A = some ⟨b, o, none⟩ → ¬ O b) → (∀ a, A = some a → a.spot = none ∧ a.block < w.heap.size) →
    HeapT w hb mb n f → (∀ k, O k → ¬ R k) → B ≤ w.heap.size → EncAt encs off (walkP f key lv l).1 → off + (walkP f key lv l).1.length ≤ N → J off O w →
    Calls Try.prog 82 #[.agg #[.int .i64 (lv : Int), .slice A l.length c], .iface 32 (.pointer (some ⟨hb, 0, none⟩)), .string (Str key), .func (.yield lp) #[] #[]] w (WalkOut J Jx off (walkP f key lv l).1.length (walkP f key lv l).2 O w)
set_option maxRecDepth 100000 in
set_option maxHeartbeats 8000000 in
theorem walk_step (lp hb mb n : Nat) (f : Src) (hf : ∀ k s, f k = some s → s.length ≤ 1000000000) (key : List UInt8) (encs : Nat → Array Value) (N : Nat) (R : Nat → Prop) (B : Nat) (J Jx : Nat → (Nat → Prop) → World → Prop) (hR1 : R hb) (hR2 : R mb) (hRB : ∀ k, R k → k < B) (hC : Cons Try.prog lp encs N R B J Jx) (lv : Nat) (hlv : lv ≤ 32)
    (ih : ∀ m, m + 1 = lv → WalkC lp hb mb n f key encs N R B J Jx m) : WalkC lp hb mb n f key encs N R B J Jx lv := by
  intro l A c off O w hok hll hcc hnc hv hrd hnA hsp hH hOR hBw hE hN h0
  obtain ⟨i, hi⟩ : ∃ i, i = placeS l key := ⟨_, rfl⟩
  have hp : PlaceAt l key i := hi ▸ place_s l key hok
  have hil := hp.1
  have hwp : walkP f key lv l = goP (gP f key lv) (l.drop i) := by rw [hi]; rfl
  rw [hwp] at hE hN ⊢
  rcases hG : goP (gP f key lv) (l.drop i) with ⟨L0, ok0⟩
  rw [hG] at hE hN
  dsimp only at hE hN ⊢
  have hOlt := hC.stable.1 _ _ _ h0
  obtain ⟨W1, hW1⟩ : ∃ W1, W1 = w.alloc (Obj.cells #[.int .i64 (lv : Int), .slice A l.length c] 79) := ⟨_, rfl⟩
  have hal : Below w.heap.size w W1 := by rw [hW1]; exact below_al (below_rf w) _
  have hz1 : W1.heap.size = w.heap.size + 1 := by rw [hW1]; simp
  have hnod : W1.heap[w.heap.size]? = some (Obj.cells #[.int .i64 (lv : Int), .slice A l.length c] 79 (0, 0)) := by rw [hW1]; exact heap_new w _
  have hcn0 : ∀ W', Below W1.heap.size W1 W' → W'.cell? ⟨w.heap.size, 0, none⟩ = some (.int .i64 (lv : Int)) := fun W' h => by
    rw [h.cell (p := ⟨w.heap.size, 0, none⟩) (by rw [hz1]; exact Nat.lt_succ_self _), Go.Lib.cell_of_heap hnod]; rfl
  have hcn1 : ∀ W', Below W1.heap.size W1 W' → W'.cell? ⟨w.heap.size, 1, none⟩ = some (.slice A l.length c) := fun W' h => by
    rw [h.cell (p := ⟨w.heap.size, 1, none⟩) (by rw [hz1]; exact Nat.lt_succ_self _), Go.Lib.cell_of_heap hnod]; rfl
  have hpl : ∀ W', Below W1.heap.size W1 W' → Calls Try.prog 70 #[.agg #[.int .i64 (lv : Int), .slice A l.length c], .string (Str key)] W' fun e w' => e = .returned (.int .i64 (i : Int)) ∧ Below W1.heap.size W1 w' := fun W' hW' => by
    refine (place_any (lv : Int) A c l key (by omega) hok W' ((hrd.below hal).below hW')).mono ?_
    rintro e w2 ⟨⟨j, rfl, hj⟩, hb2⟩
    rw [place_one l key j i hj hp]
    exact ⟨rfl, hW'.trans (hb2.mono hW'.size)⟩
  have HAL := hid hal
  have HZ1 := hid hz1
  have HNOD := hid hnod
  have HRD := hid hrd
  have HC := hid hC
  have HIH := hid ih
  have HV := hid hv
  have HP := hid hp
  have HH := hid hH
  have HOR := hid hOR
  have HNA := hid hnA
  have HOLT := hid hOlt
  have HRB := hid hRB
  have HE := hid hE
  have HN := hid hN
  have HG := hid hG
  have HF := hid hf
  clear hp hok hrd hnod hz1 hal hC ih hv hH hOR hnA hOlt hRB hE hN hG hf hi hwp
  refine (callsIn_wide (n := 1)).1 (callsIn_of_wp Try.func82 rfl trivial ?_ rfl)
  simp only [Try.ntmps82, List.size_toArray, List.length_cons, List.length_nil, Nat.reduceAdd, Nat.reduceSub, Array.replicate_succ, Array.replicate_zero, List.push_toArray, List.append_toArray, List.nil_append, List.cons_append]
  gi_wp2
  rw [← hW1]
  clear hW1
  -- the node's place: nothing is left
  have hend : i = l.length → ∀ W2, Below W1.heap.size W1 W2 → WalkOut J Jx off L0.length ok0 O w (.returned (.bool true)) W2 := fun e W2 h2 => by
    have hq := HG.out
    rw [e, List.drop_length, goP] at hq
    injection hq with q1 q2
    rw [← q1, ← q2]
    have hB02 := below_tr HAL.out h2
    exact ⟨O, Mv.of_below hB02, fun k hk => .inl hk, .inl ⟨rfl, HC.out.stable.2 _ _ _ _ h0 (Mv.of_below hB02)⟩⟩
  have HEND := hid hend
  clear hend
  rcases A with _ | ⟨b, o, sp⟩
  · obtain rfl := hnc rfl
    obtain rfl : l = [] := List.eq_nil_of_length_eq_zero (by omega)
    obtain rfl : i = 0 := Nat.le_zero.1 hil
    clear hil hcc hll
    simp only [List.length_nil] at hpl hcn1
    refine wpIn_wide.2 ?_
    refine wp_region_mild W1.heap.size (by kernel_rfl) (by kernel_rfl) ?_
    repeat (
      refine wpQuiet_step (fun K hK => ?_)
      first
        | (refine mild_skip (by rfl) (hK _ ?_)
           clear hK K)
        | (refine mild_read (by rfl) ?_
           apply Exists.intro
           refine ⟨fun W hW => ?_, hK _ ?_⟩
           (go_simp; first | rfl | (rw [if_neg (by omega)]) | (rw [if_pos (by omega)]))
           clear hK K)
        | (refine mild_call (by rfl) ?_
           apply Exists.intro
           apply Exists.intro
           refine ⟨fun W hW => ?_, ?_⟩
           (go_simp; exact ⟨rfl, rfl⟩)
           apply Exists.intro
           refine ⟨fun W hW => ?_, hK _ ?_⟩
           (with_reducible exact (hpl W hW))
           clear hK K)
      go_simp)
    refine wpQuiet_nil ?_
    intro W2 hW2
    have HO := hid (HEND.out rfl W2 hW2)
    clear hcn0 hcn1 hpl
    gi_wp2
    gi_loopw [20] (fun ix wr => ix = .int .i64 0 ∧ wr = W2) (fun _ _ => 0)
    case atStart => exact ⟨rfl, rfl⟩
    case round =>
      obtain ⟨rfl, rfl⟩ := hrel
      gi_wp2
      go_ret
      exact HO.out
  · obtain ⟨rfl, hblt⟩ := hsp _ rfl
    by_cases hci : c = i
    · obtain rfl : i = l.length := by omega
      subst hci
      clear hil hcc hll
      refine wpIn_wide.2 ?_
      refine wp_region_mild W1.heap.size (by kernel_rfl) (by kernel_rfl) ?_
      repeat (
        refine wpQuiet_step (fun K hK => ?_)
        first
          | (refine mild_skip (by rfl) (hK _ ?_)
             clear hK K)
          | (refine mild_read (by rfl) ?_
             apply Exists.intro
             refine ⟨fun W hW => ?_, hK _ ?_⟩
             (go_simp; first | rfl | (rw [if_neg (by omega)]) | (rw [if_pos (by omega)]))
             clear hK K)
          | (refine mild_call (by rfl) ?_
             apply Exists.intro
             apply Exists.intro
             refine ⟨fun W hW => ?_, ?_⟩
             (go_simp; exact ⟨rfl, rfl⟩)
             apply Exists.intro
             refine ⟨fun W hW => ?_, hK _ ?_⟩
             (with_reducible exact (hpl W hW))
             clear hK K)
        go_simp)
      refine wpQuiet_nil ?_
      intro W2 hW2
      have HO := hid (HEND.out rfl W2 hW2)
      clear hcn0 hcn1 hpl
      gi_wp2
      gi_loopw [20] (fun ix wr => ix = .int .i64 0 ∧ wr = W2) (fun _ _ => 0)
      case atStart => exact ⟨rfl, rfl⟩
      case round =>
        obtain ⟨rfl, rfl⟩ := hrel
        gi_wp2
        go_ret
        exact HO.out
    · refine wpIn_wide.2 ?_
      refine wp_region_mild W1.heap.size (by kernel_rfl) (by kernel_rfl) ?_
      repeat (
        refine wpQuiet_step (fun K hK => ?_)
        first
          | (refine mild_skip (by rfl) (hK _ ?_)
             clear hK K)
          | (refine mild_read (by rfl) ?_
             apply Exists.intro
             refine ⟨fun W hW => ?_, hK _ ?_⟩
             (go_simp; first | rfl | (rw [if_neg (by omega)]) | (rw [if_pos (by omega)]))
             clear hK K)
          | (refine mild_call (by rfl) ?_
             apply Exists.intro
             apply Exists.intro
             refine ⟨fun W hW => ?_, ?_⟩
             (go_simp; exact ⟨rfl, rfl⟩)
             apply Exists.intro
             refine ⟨fun W hW => ?_, hK _ ?_⟩
             (with_reducible exact (hpl W hW))
             clear hK K)
        go_simp)
      refine wpQuiet_nil ?_
      intro W2 hW2
      have hB02 : Below w.heap.size w W2 := below_tr HAL.out hW2
      have hz2 : w.heap.size < W2.heap.size := by have := HZ1.out; have := hW2.size; omega
      have hJ2 := HC.out.stable.2 _ _ _ _ h0 (Mv.of_below hB02)
      have HND2 := hid ((hW2.block w.heap.size (by have := HZ1.out; omega)).trans HNOD.out)
      have HRD2 := hid (HRD.out.below hB02)
      have HH2 := hid (HH.out.below hB02)
      have HB02 := hid hB02
      clear hcn0 hcn1 hpl hB02 HEND
      gi_wp2
      gi_loopw [20] (fun ix wr => ∃ (k : Nat) (Q : List Itm) (offk : Nat) (O' : Nat → Prop), k ≤ l.length - i ∧ ix = .int .i64 (k : Int) ∧ J offk O' wr ∧ Hid (goP (gP f key lv) (l.drop (i + k)) = (Q, ok0)) ∧ Hid (EncAt encs offk Q) ∧ Hid (offk + Q.length = off + L0.length) ∧ off ≤ offk ∧ Hid (Mv O W2 wr) ∧ Hid (∀ j, O' j → O j ∨ W2.heap.size ≤ j)) (fun ix _ => l.length - i - (intOf ix).toNat)
      case atStart => exact ⟨0, L0, off, O, Nat.zero_le _, rfl, hJ2, HG, HE, hid rfl, Nat.le_refl _, hid (Mv.refl _ _), hid (fun j h => .inl h)⟩
      case round =>
        clear hJ2 hW2
        obtain ⟨k, Q, offk, O', hk, rfl, hJs, HQ, HEQ, HOF, hoff, HM, HS⟩ := hrel
        by_cases hlt : k < l.length - i
        · have hnd : wr.heap[w.heap.size]? = some (Obj.cells #[.int .i64 (lv : Int), .slice (some ⟨b, o, none⟩) l.length c] 79 (0, 0)) := (HM.out.block w.heap.size hz2 (fun h => by have := HOLT.out _ h; omega)).trans HND2.out
          have n0 : wr.cell? ⟨w.heap.size, 0, none⟩ = some (.int .i64 (lv : Int)) := by rw [Go.Lib.cell_of_heap hnd]; rfl
          have n1 : wr.cell? ⟨w.heap.size, 1, none⟩ = some (.slice (some ⟨b, o, none⟩) l.length c) := by rw [Go.Lib.cell_of_heap hnd]; rfl
          have hrd3 : Rd wr (some ⟨b, o, none⟩) (its l) := rdt_mv HRD2.out HM.out HNA.out
          obtain ⟨b', o', e, hc1, hc2⟩ := rd_itm hrd3 (j := i + k) (by omega)
          injection e with e; injection e with e1 e2; subst e1; subst e2
          rw [show o + (i + k) * 2 = o + i * 2 + k * 2 by omega] at hc1 hc2
          obtain ⟨xk, hxk⟩ : ∃ xk, xk = (itm l (i + k)).1 := ⟨_, rfl⟩
          obtain ⟨xv, hxv⟩ : ∃ xv, xv = (itm l (i + k)).2 := ⟨_, rfl⟩
          have hxx : itm l (i + k) = (xk, xv) := by rw [hxk, hxv]
          have hgo := goP_at (gP f key lv) l (i + k) (by omega)
          rw [hxx] at hgo
          rw [← hxk] at hc1
          rw [← hxv] at hc2
          obtain ⟨wa, hwa⟩ : ∃ wa, wa = wr.alloc (Obj.cells #[.string (Str xk), .string (Str xv)] 75) := ⟨_, rfl⟩
          have hal3 : Below wr.heap.size wr wa := by rw [hwa]; exact below_al (below_rf wr) _
          have hxb : wa.heap[wr.heap.size]? = some (Obj.cells #[.string (Str xk), .string (Str xv)] 75 (0, 0)) := by rw [hwa]; exact heap_new wr _
          have hza : wa.heap.size = wr.heap.size + 1 := by rw [hwa]; simp
          have hJ1 : J offk O' wa := HC.out.stable.2 _ _ _ _ hJs (Mv.of_below hal3)
          have hBa : B ≤ wa.heap.size := by have := HM.out.size; have := HB02.out.size; omega
          have HMA : Hid (Mv O W2 wa) := hid (HM.out.trans (Mv.of_below (O := O) hal3) (fun _ h => h) (fun _ _ h => h))
          have HSR : Hid (∀ j, O' j → ¬ R j) := hid (fun j hj hr => by
            rcases HS.out j hj with h | h
            · exact HOR.out j h hr
            · have := HRB.out j hr; have := HB02.out.size; omega)
          have HAL3 := hid hal3
          have HXB := hid hxb
          have HZA := hid hza
          have HJ1 := hid hJ1
          have HXX := hid hxx
          have HGO := hid hgo
          have HBA := hid hBa
          have HND := hid hnd
          have HN1 := hid n1
          have hws : W2.heap.size ≤ wr.heap.size := HM.out.size
          have HFIN : ∀ (O3 : Nat → Prop) (W3 : World), Mv O' wa W3 → (∀ j, O3 j → O' j ∨ wa.heap.size ≤ j) → Mv O W2 W3 ∧ ∀ j, O3 j → O j ∨ W2.heap.size ≤ j := fun O3 W3 hm hs => by
            refine ⟨HMA.out.trans hm (fun _ h => h) (fun j hj h => (HS.out j h).resolve_right (by omega)), fun j hj => ?_⟩
            rcases hs j hj with h | h
            · exact HS.out j h
            · have := HMA.out.size; exact .inr (by omega)
          have HFI := hid HFIN
          have HRET : Hid (∀ (O3 : Nat → Prop) (W3 : World) (q : Nat), Mv O' wa W3 → (∀ j, O3 j → O' j ∨ wa.heap.size ≤ j) → off ≤ q → q < off + L0.length → Jx (q + 1) O3 W3 → WalkOut J Jx off L0.length ok0 O w (.returned (.bool false)) W3) := hid (fun O3 W3 q hm hs h1 h2 h3 => by
            obtain ⟨m1, m2⟩ := HFI.out O3 W3 hm hs
            refine ⟨O3, (Mv.of_below HB02.out).trans m1 (fun _ h => h) (fun _ _ h => h), fun j hj => ?_, .inr ⟨rfl, q, h1, h2, h3⟩⟩
            rcases m2 j hj with h | h
            · exact .inl h
            · exact .inr (by omega))
          have n0' := (hal3.cell (p := ⟨w.heap.size, 0, none⟩) (by show w.heap.size < _; omega)).trans n0
          have n1' := (hal3.cell (p := ⟨w.heap.size, 1, none⟩) (by show w.heap.size < _; omega)).trans n1
          rw [hwa] at n0' n1'
          clear HFIN hal3 hxb hza hJ1 hxx hgo hBa hnd hrd3 hxk hxv hJs n1
          have hcase : lv = 0 ∨ ∃ m, m + 1 = lv := by rcases Nat.eq_zero_or_pos lv with h | h; exact .inl h; exact .inr ⟨lv - 1, by omega⟩
          rcases hcase with h0 | ⟨m, hm⟩
          · have c0 : ((lv : Int) == 0) = true := beq_iff_eq.2 (by omega)
            have hq := HQ.out
            have hgo := HGO.out
            have hg0 : gP f key lv (xk, xv) = some ([(xk, xv)], true) := by rw [h0]; rfl
            rw [hg0, hq] at hgo
            dsimp only at hgo
            injection hgo with q1 q2
            obtain ⟨Q2, hQ2⟩ : ∃ Q2, Q2 = (goP (gP f key lv) (l.drop (i + k + 1))).1 := ⟨_, rfl⟩
            rw [← hQ2] at q1
            have hen := HEQ.out
            have hof := HOF.out
            rw [q1] at hen hof
            rw [List.length_append, List.length_singleton] at hof
            have h00 := hen 0 (by simp)
            obtain ⟨fn, tmps, assign, body, hy, hR⟩ := yield_any rfl 0 (HC.out.round offk O' wa (by have := HN.out; omega) HJ1.out HBA.out)
            rw [show encs offk = #[.string (Str xk), .string (Str xv)] from h00] at hy
            have HQ2 : Hid (goP (gP f key lv) (l.drop (i + (k + 1))) = (Q2, ok0)) := hid (by rw [show i + (k + 1) = i + k + 1 by omega, hQ2, q2])
            have HE2 : Hid (EncAt encs (offk + 1) Q2) := hid (enc_right (a := [(xk, xv)]) hen)
            have HO2 : Hid (offk + 1 + Q2.length = off + L0.length) := hid (by omega)
            have HLE : Hid (offk < off + L0.length) := hid (by omega)
            have HWA := hid hwa
            have HL0 := hid h0
            rw [hwa] at hy hR
            clear h0 hq hg0 q1 q2 hQ2 hen hof h00 hwa
            gi_wp2
            refine (round_any rfl hR).mono ?_
            rintro e W3 ⟨O3, hm3, hs3, (⟨rfl, hJ3⟩ | ⟨rfl, hJx3⟩)⟩
            · have HJ3 := hid hJ3
              have HM3 := hid (HFI.out O3 W3 (by rw [HWA.out]; exact hm3) (by rw [HWA.out]; exact hs3))
              clear hm3 hs3 hJ3
              gi_wp2
              go_roundw
              case rel => exact ⟨k + 1, _, offk + 1, O3, by omega, by simp, HJ3.out, HQ2, HE2, HO2, by omega, hid HM3.out.1, hid HM3.out.2⟩
              case measure => simp [intOf]; omega
            · have HJ3 := hid (HRET.out O3 W3 offk (by rw [HWA.out]; exact hm3) (by rw [HWA.out]; exact hs3) hoff HLE.out hJx3)
              clear hm3 hs3 hJx3
              gi_wp2
              go_ret
              exact HJ3.out
          · have c0 : ((lv : Int) == 0) = false := beq_eq_false_iff_ne.2 (by omega)
            have hq := HQ.out
            have hgo := HGO.out
            rw [hq] at hgo
            have hx40 : xv.length = 40 := by
              have := HV.out (by omega) (itm l (i + k)) (by rw [itm_eq l (i + k) (by omega)]; exact List.getElem_mem _)
              rwa [HXX.out] at this
            have HHA := hid (HH2.out.mv HMA.out (fun h => HOR.out _ h hR1) (fun h => HOR.out _ h hR2))
            have HCALL := hid (callsIn_wide (n := 0) |>.2 (below_any hb mb n f HF.out lv (some ⟨b, o, none⟩) l.length c (xk, xv) (by omega) hx40 wa HHA.out))
            have HWA := hid hwa
            have hgl : gP f key lv (xk, xv) = match belowP f lv (xk, xv) with
              | none => none
              | some p => some (goP (gP f key m) (p.2.drop (placeS p.2 key))) := by rw [← hm]; rfl
            have HLM := hid hm
            cases hbel : belowP f lv (xk, xv) with
            | none =>
              rw [hgl, hbel] at hgo
              dsimp only at hgo
              injection hgo with q1 q2
              have HEND2 : Hid (∀ W, Below wa.heap.size wa W → WalkOut J Jx off L0.length ok0 O w (.returned (.bool false)) W) := hid (fun W hW => by
                obtain ⟨m1, m2⟩ := HFI.out O' W (Mv.of_below hW) (fun j h => .inl h)
                refine ⟨O', (Mv.of_below HB02.out).trans m1 (fun _ h => h) (fun _ _ h => h), fun j hj => ?_, .inl ⟨by rw [q2], ?_⟩⟩
                · rcases HS.out j hj with h | h
                  · exact .inl h
                  · exact .inr (by omega)
                · have h1 := HOF.out
                  rw [q1] at h1
                  have h2 : offk = off + L0.length := h1
                  rw [← h2]
                  exact HC.out.stable.2 _ _ _ _ HJ1.out (Mv.of_below hW))
              have HBEL := hid hbel
              clear hq hx40 hwa hgl hm hbel q1 q2
              gi_wp2
              first | refine ⟨trivial, fun h => (by simp [Fence.wide] at h), ?_⟩ | refine ⟨trivial, ?_⟩
              rw [← HWA.out]
              refine HCALL.out.mono ?_
              rintro e w4 ⟨ho, hb4⟩
              rcases ho with ⟨_, k', A', n', c', rfl⟩ | ⟨lv', l', v, h1, _⟩
              · have HB4 := hid hb4
                clear hb4
                gi_wp2
                refine ⟨trivial, ?_⟩
                gi_wp2
                go_ret
                refine HEND2.out _ ?_
                exact below_al HB4.out _
              · rw [HBEL.out] at h1; cases h1
            | some p =>
              obtain ⟨pm, ys⟩ := p
              rw [hgl, hbel] at hgo
              obtain ⟨hpm, hys0, _, _, hat⟩ := below_lv hbel
              dsimp only at hpm hys0 hgo
              obtain rfl : pm = m := by omega
              obtain ⟨_, hy16, hyv, hyr, _⟩ := at_facts hat
              rcases hsub : goP (gP f key pm) (ys.drop (placeS ys key)) with ⟨a, oka⟩
              rw [hsub] at hgo
              have hwk : walkP f key pm ys = (a, oka) := hsub
              have HWK := hid hwk
              have HYR := hid (show okS ys = true from right_ok hyr)
              have HYV : Hid (0 < pm → ∀ x ∈ ys, x.2.length = 40) := hid (fun h x hx => okVal_len (hyv x hx) h)
              have HBEL := hid hbel
              have hen := HEQ.out
              have hof := HOF.out
              obtain ⟨Q2, hQ2⟩ : ∃ Q2, Q2 = (goP (gP f key lv) (l.drop (i + k + 1))).1 := ⟨_, rfl⟩
              have hnx : EncAt encs offk a ∧ (oka = true → goP (gP f key lv) (l.drop (i + (k + 1))) = (Q2, ok0) ∧ EncAt encs (offk + a.length) Q2 ∧ offk + a.length + Q2.length = off + L0.length) ∧ (oka = false → ok0 = false ∧ offk + a.length = off + L0.length) ∧ offk + a.length ≤ off + L0.length := by
                cases oka with
                | true =>
                  dsimp only at hgo
                  injection hgo with q1 q2
                  rw [q1, ← hQ2] at hen hof
                  rw [List.length_append] at hof
                  exact ⟨enc_left hen, fun _ => ⟨by rw [show i + (k + 1) = i + k + 1 by omega, hQ2, q2], enc_right hen, by omega⟩, fun h => (by cases h), by omega⟩
                | false =>
                  dsimp only at hgo
                  injection hgo with q1 q2
                  rw [q1] at hen hof
                  exact ⟨hen, fun h => (by cases h), fun _ => ⟨q2, hof⟩, by omega⟩
              have HNX := hid hnx
              clear hq hgo hx40 hwa hgl hm hbel hsub hwk hen hof hQ2 hnx hpm hys0 hat hyv hyr
              gi_wp2
              first | refine ⟨trivial, fun h => (by simp [Fence.wide] at h), ?_⟩ | refine ⟨trivial, ?_⟩
              rw [← HWA.out]
              refine HCALL.out.mono ?_
              rintro e w4 ⟨ho, hb4⟩
              rcases ho with ⟨h1, _⟩ | ⟨lv', l', v, h1, rfl, hown⟩
              · rw [HBEL.out] at h1; cases h1
              · rw [HBEL.out] at h1
                injection h1 with h1; injection h1 with e1 e2
                subst e1; subst e2
                obtain ⟨A', c', rfl, hcc', hrd', hnc', hsp'⟩ := own_shape hown
                obtain ⟨w5, hw5⟩ : ∃ w5, w5 = w4.alloc (Obj.cells #[.int .i64 (pm : Int), .slice A' ys.length c'] 79) := ⟨_, rfl⟩
                have hb5 : Below w4.heap.size w4 w5 := by rw [hw5]; exact below_al (below_rf w4) _
                have hba5 : Below wa.heap.size wa w5 := below_tr hb4 hb5
                have hz5 := hba5.size
                have hJ5 : J offk O' w5 := HC.out.stable.2 _ _ _ _ HJ1.out (Mv.of_below hba5)
                have hih := HIH.out pm HLM.out ys A' c' offk O' w5 HYR.out hy16 hcc' hnc' HYV.out (hrd'.below hb5)
                  (fun b o e h => by
                    have h1 := (hsp' _ e).2.1
                    have h2 := HC.out.stable.1 _ _ _ HJ1.out _ h
                    have : b < wa.heap.size := h2
                    have : wa.heap.size ≤ b := h1
                    omega)
                  (fun a e => ⟨(hsp' a e).1, by have := (hsp' a e).2.2; have := hb5.size; omega⟩) (HHA.out.below hba5) HSR.out (by have := HBA.out; omega)
                rw [HWK.out] at hih
                have hih := hih HNX.out.1 (by have := HNX.out.2.2.2; have := HN.out; dsimp only; omega) hJ5
                have HI2 := hid (callsIn_wide (n := 0) |>.2 hih)
                have HBA5 := hid hba5
                have m0 : w5.cell? ⟨w4.heap.size, 0, none⟩ = some (.int .i64 (pm : Int)) := by rw [hw5]; simp [World.cell?_alloc_at]
                have m1 : w5.cell? ⟨w4.heap.size, 1, none⟩ = some (.slice A' ys.length c') := by rw [hw5]; simp [World.cell?_alloc_at]
                have HW5 := hid hw5
                rw [hw5] at m0 m1
                clear hown hrd' hb5 hb4 hba5 hz5 hJ5 hih hw5 hnc' hsp' hcc'
                gi_wp2
                first | refine ⟨trivial, fun h => (by simp [Fence.wide] at h), ?_⟩ | refine ⟨trivial, ?_⟩
                rw [← HW5.out]
                refine HI2.out.mono ?_
                rintro e W3 ⟨O3, hm3, hs3, (⟨rfl, hJ3⟩ | ⟨rfl, q, hq1, hq2, hJx3⟩)⟩
                · have HJ3 := hid hJ3
                  have HMS : Hid (Mv O' wa W3 ∧ ∀ j, O3 j → O' j ∨ wa.heap.size ≤ j) := hid ⟨(Mv.of_below HBA5.out).trans hm3 (fun _ h => h) (fun _ _ h => h), fun j hj => by
                    rcases hs3 j hj with h | h
                    · exact .inl h
                    · have := HBA5.out.size; exact .inr (by omega)⟩
                  have HM3 := hid (HFI.out O3 W3 HMS.out.1 HMS.out.2)
                  clear hm3 hs3 hJ3
                  cases oka with
                  | true =>
                    have HN2 := hid (HNX.out.2.1 rfl)
                    gi_wp2
                    go_roundw
                    case rel => exact ⟨k + 1, Q2, offk + a.length, O3, by omega, by simp, HJ3.out, hid HN2.out.1, hid HN2.out.2.1, hid HN2.out.2.2, by omega, hid HM3.out.1, hid HM3.out.2⟩
                    case measure => simp [intOf]; omega
                  | false =>
                    have HN2 := hid (HNX.out.2.2.1 rfl)
                    gi_wp2
                    go_ret
                    refine ⟨O3, (Mv.of_below HB02.out).trans HM3.out.1 (fun _ h => h) (fun _ _ h => h), fun j hj => ?_, .inl ⟨by rw [HN2.out.1]; rfl, ?_⟩⟩
                    · rcases HM3.out.2 j hj with h | h
                      · exact .inl h
                      · exact .inr (by omega)
                    · rw [← HN2.out.2]; exact HJ3.out
                · have HJ3 := hid (HRET.out O3 W3 q ((Mv.of_below HBA5.out).trans hm3 (fun _ h => h) (fun _ _ h => h)) (fun j hj => by
                    rcases hs3 j hj with h | h
                    · exact .inl h
                    · have := HBA5.out.size; exact .inr (by omega)) (by omega) (by have := HNX.out.2.2.2; omega) hJx3)
                  clear hm3 hs3 hJx3
                  gi_wp2
                  go_ret
                  exact HJ3.out
        · obtain rfl : k = l.length - i := by omega
          have hq := HQ.out
          rw [show i + (l.length - i) = l.length by omega, List.drop_length, goP] at hq
          injection hq with q1 q2
          have HF : Hid (offk = off + L0.length) := hid (by have := HOF.out; rw [← q1] at this; exact this)
          have HOK0 : Hid (ok0 = true) := hid q2.symm
          clear q1 q2
          gi_wp2
          go_ret
          refine ⟨O', (Mv.of_below HB02.out).trans HM.out (fun _ h => h) (fun _ _ h => h), fun j hj => ?_, .inl ⟨by rw [HOK0.out]; rfl, HF.out ▸ hJs⟩⟩
          rcases HS.out j hj with h | h
          · exact .inl h
          · exact .inr (by omega)
end Go.Proofs.Ytbggeccaoibleaa.W08
