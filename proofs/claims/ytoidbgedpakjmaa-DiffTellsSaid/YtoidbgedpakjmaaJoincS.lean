/- seq.Joined over pairs of texts: the whole. -/
import Derived.Test.YtoidbgedpakjmaaJoinS
set_option linter.unusedVariables false
set_option linter.unusedSimpArgs false
namespace Go.Proofs.Ytoidbgedpakjmaa.JoinS
open Go.RowKit Go.Shelf Go.Proofs.Ytoidbgedpakjmaa.Lib Go.Proofs.Ytoidbgedpakjmaa.Itms Go.Proofs.Ytoidbgedpakjmaa.T08 Go.Proofs.Ytoidbgedpakjmaa.Run Go.Proofs.Ytoidbgedpakjmaa.RunsS Go.Proofs.Ytoidbgedpakjmaa.QTail Go.Proofs.Ytoidbgedpakjmaa.WSeq Go.Proofs.Ytoidbgedpakjmaa.Ord
attribute [local go_sem] Oper.semAt_some Str_emp
def rgt (x : Itm) : Bo := (x.1, [], x.2, false, true)
def jlow (b : List Itm) (k : List UInt8) (out : List Bo) (j : Nat) : List Bo × Nat := if j < b.length then (if ltS (itm b j).1 k then jlow b k (out ++ [rgt (itm b j)]) (j + 1) else (out, j)) else (out, j)
termination_by b.length - j
def stepJ (b : List Itm) (s : List Bo × Nat) (x : Itm) : List Bo × Nat :=
  let r := jlow b x.1 s.1 s.2
  if r.2 < b.length ∧ (itm b r.2).1 = x.1 then (r.1 ++ [(x.1, x.2, (itm b r.2).2, true, true)], r.2 + 1) else (r.1 ++ [(x.1, x.2, [], true, false)], r.2)
def joinL (a : List Itm) (b : List Itm) : List Bo × Nat := a.foldl (stepJ b) ([], 0)
/-- seq.Joined, plainly -/
def joinP (a : List Itm) (b : List Itm) : List Bo := (joinL a b).1 ++ (b.drop (joinL a b).2).map rgt
/-- what is left of b, in the variable's block -/
structure Rest (W : World) (B : Nat) (G : Nat → Prop) (b : List Itm) (j : Nat) (A : Option Addr) (c : Nat) : Prop where
  box : Boxed W B 28 (.slice A (b.length - j) c)
  le : j ≤ b.length
  cap : b.length - j ≤ c
  rd : Rd W A (its (b.drop j))
  blk : ∀ bb oo, A = some ⟨bb, oo, none⟩ → G bb
  nil : A = none → b.length - j = 0
  spot : ∀ a, A = some a → a.spot = none
theorem Rest.mv {O : Nat → Prop} {W W' : World} {B : Nat} {G : Nat → Prop} {b : List Itm} {j : Nat} {A : Option Addr} {c : Nat} (h : Rest W B G b j A c) (hm : Mv O W W') (hB : ¬ O B) (hg : ∀ k, G k → ¬ O k) : Rest W' B G b j A c :=
  ⟨boxed_mv h.box hm hB, h.le, h.cap, rd_mv h.rd hm (fun bb oo e => hg bb (h.blk bb oo e)), h.blk, h.nil, h.spot⟩
/-- the loop's state -/
def IJ (B1 B2 : Nat) (G : Nat → Prop) (a : List Itm) (b : List Itm) (i : Nat) (O : Nat → Prop) (W : World) : Prop :=
  ∃ v A c, OutB W B1 (joinL (a.take i) b).1 v ∧ Rest W B2 G b (joinL (a.take i) b).2 A c ∧ ∀ k, O k ↔ (k = B1 ∨ k = B2 ∨ v.ownBlock = some k)
theorem IJ_stable (R : Nat → Prop) (B0 B1 B2 : Nat) (G : Nat → Prop) (a : List Itm) (b : List Itm) (hg : ∀ k, G k → ¬ R k) (hg2 : ∀ k, G k → k < B0) : Stable R B0 (IJ B1 B2 G a b) := by
  refine ⟨?_, ?_⟩
  · rintro i O W ⟨v, A, c, h1, h2, hO⟩ k hk
    rcases (hO k).1 hk with rfl | rfl | h
    · exact h1.1.lt
    · exact h2.box.lt
    · exact own_lt' h1.2 k h
  · rintro i O W W' ⟨v, A, c, h1, h2, hO⟩ hm
    refine ⟨v, A, c, h1.mv hm (fun h => h.2 ((hO _).2 (.inl rfl))) (fun k hk h => h.2 ((hO _).2 (.inr (.inr hk)))), h2.mv hm (fun h => h.2 ((hO _).2 (.inr (.inl rfl)))) (fun k hk h => ?_), hO⟩
    rcases h.1 with h | h
    · exact hg k hk h
    · have := hg2 k hk; omega
theorem own_mono' {w : World} {base base' n : Nat} {e : TypeId} {size : Nat} {v : Value} {xs : List Value} (h : w.ownsRow base e size v n xs) (hb : base' ≤ base) : w.ownsRow base' e size v n xs := by
  refine ⟨h.1, ?_⟩
  rcases h.2 with h | ⟨g, cap, cur, h1, h2, h3⟩
  · exact .inl h
  · exact .inr ⟨g, cap, cur, h1, Nat.le_trans hb h2, h3⟩
def blen (B : Nat) (W : World) : Nat := match W.cell? ⟨B, 0, none⟩ with | some (.slice _ n _) => n | _ => 0
theorem joinL_snoc (a : List Itm) (b : List Itm) (i : Nat) (h : i < a.length) : joinL (a.take (i + 1)) b = stepJ b (joinL (a.take i) b) (itm a i) := by
  unfold joinL
  rw [take_itm a i h, List.foldl_append]; rfl
theorem blen_of {W : World} {B : Nat} {A : Option Addr} {n c : Nat} (h : W.cell? ⟨B, 0, none⟩ = some (.slice A n c)) : blen B W = n := by unfold blen; rw [h]
theorem Rest.tail {W : World} {B gg oo j c n : Nat} {G : Nat → Prop} {b : List Itm} (h : Rest W B G b j (some ⟨gg, oo, none⟩) c) (hn : n = b.length - j) (hj : 0 < n) (hne : ∀ k, G k → k ≠ B) :
    Rest (W.setCell ⟨B, 0, none⟩ (.slice (if c = 1 then some ⟨gg, oo, none⟩ else some ⟨gg, oo + 2, none⟩) (n - 1) (c - 1))) B G b (j + 1) (if c = 1 then some ⟨gg, oo, none⟩ else some ⟨gg, oo + 2, none⟩) (c - 1) := by
  have hgg := h.blk gg oo rfl
  have hcap := h.cap
  have hd : Rd W (if c = 1 then some ⟨gg, oo, none⟩ else some ⟨gg, oo + 2, none⟩) (its (b.drop (j + 1))) := by
    by_cases hc : c = 1
    · rw [List.drop_eq_nil_of_le (by omega)]; exact .inl rfl
    · rw [if_neg hc]
      have := rd_dropN h.rd 2
      rw [show (its (b.drop j)).drop 2 = its (b.drop (j + 1)) by rw [show 2 = 2 * 1 from rfl, ← its_drop, List.drop_drop]] at this
      exact this
  have hm : Mv (fun k => k = B) W (W.setCell ⟨B, 0, none⟩ (.slice (if c = 1 then some ⟨gg, oo, none⟩ else some ⟨gg, oo + 2, none⟩) (n - 1) (c - 1))) := Mv.setCell _ _ _ rfl
  refine ⟨?_, by omega, by omega, rd_mv hd hm (fun bb o e => ?_), fun bb o e => ?_, fun e => ?_, fun a e => ?_⟩
  · rw [show b.length - (j + 1) = n - 1 by omega]; exact h.box.set _
  · split at e <;> (injection e with e; injection e with e1 e2; subst e1; exact hne _ hgg)
  · split at e <;> (injection e with e; injection e with e1 e2; subst e1; exact hgg)
  · split at e <;> cases e
  · split at e <;> (injection e with e; subst e; rfl)
theorem jlow_len (b : List Itm) (k : List UInt8) (m : Nat) : ∀ (out : List Bo) (j : Nat), b.length - j = m → (jlow b k out j).1.length + j = out.length + (jlow b k out j).2 ∧ j ≤ (jlow b k out j).2 ∧ (j ≤ b.length → (jlow b k out j).2 ≤ b.length) := by
  induction m with
  | zero => intro out j h; rw [jlow, if_neg (by omega)]; exact ⟨rfl, Nat.le_refl _, fun h => h⟩
  | succ m ih =>
    intro out j h
    rw [jlow, if_pos (by omega)]
    split
    · obtain ⟨h1, h2, h3⟩ := ih (out ++ [rgt (itm b j)]) (j + 1) (by omega)
      rw [List.length_append, List.length_singleton] at h1
      exact ⟨by omega, by omega, fun _ => h3 (by omega)⟩
    · exact ⟨rfl, Nat.le_refl _, fun h => h⟩
theorem joinL_len (a : List Itm) (b : List Itm) : (joinL a b).1.length ≤ a.length + (joinL a b).2 ∧ (joinL a b).2 ≤ b.length := by
  have key : ∀ (a : List Itm) (s : List Bo × Nat) (n : Nat), s.1.length ≤ n + s.2 → s.2 ≤ b.length → (a.foldl (stepJ b) s).1.length ≤ n + a.length + (a.foldl (stepJ b) s).2 ∧ (a.foldl (stepJ b) s).2 ≤ b.length := by
    intro a
    induction a with
    | nil => intro s n h1 h2; exact ⟨h1, h2⟩
    | cons x a ih =>
      intro s n h1 h2
      obtain ⟨e1, e2, e3⟩ := jlow_len b x.1 _ s.1 s.2 rfl
      have e3 := e3 h2
      rw [List.foldl_cons]
      have := ih (stepJ b s x) (n + 1) (by
        unfold stepJ; dsimp only
        split
        · rw [List.length_append, List.length_singleton]; dsimp only; omega
        · rw [List.length_append, List.length_singleton]; dsimp only; omega) (by
        unfold stepJ; dsimp only
        split
        · dsimp only; omega
        · dsimp only; omega)
      rw [List.length_cons]
      exact ⟨by omega, this.2⟩
  have := key a ([], 0) 0 (by simp) (Nat.zero_le _)
  unfold joinL
  simpa using this
theorem IJ_end {W Wn w2 : World} {B1 B2 i : Nat} {G : Nat → Prop} {a : List Itm} {b : List Itm} {O : Nat → Prop} {out : List Bo} {v v2 : Value} {j : Nat} {A : Option Addr} {c : Nat} {z : Bo} (hout : OutB Wn B1 out v) (hrest : Rest Wn B2 G b j A c) (hmv : Mv O W Wn) (hV : ∀ k, v.ownBlock = some k → O k ∨ W.heap.size ≤ k)
    (hg : Wn.grownBy w2 v.ownBlock) (ho2 : w2.ownsRow B1 82 5 v2 (out.length + 1) (bts out ++ bts [z])) (hv2 : v2.ownBlock = v.ownBlock ∨ v2.ownBlock = some Wn.heap.size) (hO1 : O B1) (hO2 : O B2) (hne : B1 ≠ B2) (hgb : ∀ k, G k → k < W.heap.size) (hgO : ∀ k, G k → ¬ O k) (hstep : joinL (a.take (i + 1)) b = (out ++ [z], j)) :
    ∃ O', Mv O W (w2.setCell ⟨B1, 0, none⟩ v2) ∧ (∀ k, O' k → O k ∨ W.heap.size ≤ k) ∧ IJ B1 B2 G a b (i + 1) O' (w2.setCell ⟨B1, 0, none⟩ v2) := by
  have hbx2 : Boxed w2 B1 76 v := hout.1.kept hg (hout.1.not_row (by decide) hout.2)
  have hn1 : v2.ownBlock ≠ some B1 := fun e => hbx2.not_row (by decide) ho2 e.symm
  have hmg : Mv (fun k => v.ownBlock = some k) Wn w2 := Mv.grown hg (fun k hk _ => hk)
  have hgs := hmv.size
  have hr2 : Rest w2 B2 G b j A c := hrest.mv hmg (fun h => hrest.box.not_row (by decide) hout.2 h.symm) (fun k hk h => by
    rcases hV _ h with h | h
    · exact hgO k hk h
    · have := hgb k hk; omega)
  have hms : Mv (fun k => k = B1) w2 (w2.setCell ⟨B1, 0, none⟩ v2) := Mv.setCell _ _ _ rfl
  refine ⟨fun k => k = B1 ∨ k = B2 ∨ v2.ownBlock = some k, ?_, ?_, v2, A, c, ?_, ?_, fun _ => Iff.rfl⟩
  · refine (hmv.trans hmg (O := O) (fun _ h => h) (fun k hk h => (hV k h).resolve_right (by omega))).trans hms (fun _ h => h) (fun k _ h => by subst h; exact hO1)
  · rintro k (rfl | rfl | h)
    · exact .inl hO1
    · exact .inl hO2
    · rcases hv2 with h2 | h2
      · exact hV k (h2 ▸ h)
      · rw [h2] at h; injection h with h; exact .inr (by omega)
  · rw [hstep]
    refine ⟨hbx2.set _, ?_⟩
    dsimp only
    rw [bts_app, List.length_append, List.length_singleton]
    exact own_mv ho2 hms (fun k hk e => hn1 (e ▸ hk))
  · rw [hstep]
    exact hr2.mv hms (fun h => hne h.symm) (fun k hk h => by subst h; exact hgO _ hk hO1)
theorem low_rel {W wr w1 : World} {B1 B2 gg oo c n i j : Nat} {G : Nat → Prop} {b : List Itm} {O : Nat → Prop} {out : List Bo} {v v2 : Value} {y : Itm} {k : List UInt8} {Z : List Bo × Nat} (hout2 : OutB w1 B1 (out ++ [rgt y]) v2) (hre2 : Rest w1 B2 G b j (some ⟨gg, oo, none⟩) c) (hn : n = b.length - j) (hlt : 0 < n) (hgb : ∀ k, G k → k ≠ B2) (hne : B1 ≠ B2) (hol : out.length ≤ i + j)
    (hst : jlow b k (out ++ [rgt y]) (j + 1) = Z) (hM : Mv O W wr) (hm2 : Mv (fun k => k = B1 ∨ v.ownBlock = some k) wr.drew w1) (hv2 : v2.ownBlock = v.ownBlock ∨ ∃ k, v2.ownBlock = some k ∧ wr.drew.heap.size ≤ k) (hV : ∀ k, v.ownBlock = some k → O k ∨ W.heap.size ≤ k) (hO1 : O B1) (hO2 : O B2) :
    ∃ v' A' c' out' j', OutB (w1.setCell ⟨B2, 0, none⟩ (.slice (if c = 1 then some ⟨gg, oo, none⟩ else some ⟨gg, oo + 2, none⟩) (n - 1) (c - 1))) B1 out' v' ∧ Rest (w1.setCell ⟨B2, 0, none⟩ (.slice (if c = 1 then some ⟨gg, oo, none⟩ else some ⟨gg, oo + 2, none⟩) (n - 1) (c - 1))) B2 G b j' A' c' ∧ out'.length ≤ i + j' ∧ Hid (jlow b k out' j' = Z) ∧
      Hid (Mv O W (w1.setCell ⟨B2, 0, none⟩ (.slice (if c = 1 then some ⟨gg, oo, none⟩ else some ⟨gg, oo + 2, none⟩) (n - 1) (c - 1)))) ∧ Hid (∀ k, v'.ownBlock = some k → O k ∨ W.heap.size ≤ k) := by
  have hmB : Mv (fun k => k = B2) w1 (w1.setCell ⟨B2, 0, none⟩ (.slice (if c = 1 then some ⟨gg, oo, none⟩ else some ⟨gg, oo + 2, none⟩) (n - 1) (c - 1))) := Mv.setCell _ _ _ rfl
  have hws := hM.size
  have hdr : Mv (fun _ => False) wr wr.drew := Mv.of_below (below_drewN (below_rf wr) 1)
  refine ⟨v2, _, _, out ++ [rgt y], j + 1, hout2.mv hmB hne (fun k hk e => Boxed.not_row hre2.box (by decide) hout2.2 (e ▸ hk).symm), hre2.tail hn hlt hgb, by rw [List.length_append, List.length_singleton]; omega, hid hst, hid ?_, hid ?_⟩
  · refine ((hM.trans hdr (O := O) (fun _ h => h) (fun _ _ h => h.elim)).trans hm2 (O := O) (fun _ h => h) (fun k hk h => ?_)).trans hmB (fun _ h => h) (fun k _ h => by subst h; exact hO2)
    rcases h with h | h
    · subst h; exact hO1
    · exact (hV k h).resolve_right (by omega)
  · intro k hk
    rcases hv2 with h | ⟨k2, h, h2⟩
    · exact hV k (h ▸ hk)
    · rw [h] at hk; injection hk with hk; subst hk
      exact .inr (Nat.le_trans hws h2)
attribute [local go_sem] Str_toList
theorem run_store_fn {P : Program} (w : World) (p : Addr) (f : Fn) (x y : Array Value) (m : Mode) : (store p (.func f x y) m).run P w = match w.cell? p with
      | some _ => if w.frozen? p then .halt (.unsupported (.unsafePointer "a write to bytes that a string shares")) w else .ok () (w.setCell p (.func f x y))
      | none => match w.farStore P p (.func f x y) (m == .atomic) with
        | .ok (w', _) => .ok () w'
        | .error h => .halt h w := run_store P w p _ m rfl
attribute [local go_sem] run_store_fn
set_option maxRecDepth 100000 in
set_option maxHeartbeats 3200000 in
theorem joined_any (gf : Nat) (lb : Array Value) (eg : ∀ args w, (callFunc gf args).run Try.prog w = .ok (.enter gf args) w) (a : List Itm) (b : List Itm) (hla : a.length ≤ 1000000) (hlb : b.length ≤ 1000000) (R : Nat → Prop) (T : Nat → World → Prop)
    (hit : Iter Try.prog gf lb (encI a) a.length R T) (w : World) (hR : ∀ k, R k → k < w.heap.size) (hT : T 0 w) (G : Nat → Prop) (hgR : ∀ k, G k → ¬ R k) (hgw : ∀ k, G k → k < w.heap.size) (A : Option Addr) (c : Nat) (hc : b.length ≤ c) (hrd : Rd w A (its b)) (hA : A = none → b.length = 0) (hsp : ∀ a, A = some a → a.spot = none) (hblk : ∀ bb oo, A = some ⟨bb, oo, none⟩ → G bb) :
    Calls Try.prog 28 #[.func (.func gf) #[] lb, .slice A b.length c] w fun e w' => (∃ v, e = .returned v ∧ w'.ownsRow w.heap.size 82 5 v (joinP a b).length (bts (joinP a b))) ∧ Mv R w w' ∧ T a.length w' := by
  refine (callsIn_wide (n := 5)).1 ?_
  refine callsIn_of_wp_marks Try.func28 rfl trivial ?_ rfl
  simp only [Try.ntmps28, List.size_toArray, List.length_cons, List.length_nil, Nat.reduceAdd, Nat.reduceSub, Array.replicate_succ, Array.replicate_zero, List.push_toArray, List.append_toArray, List.nil_append, List.cons_append]
  obtain ⟨B2, hB2⟩ : ∃ B2, B2 = w.heap.size := ⟨_, rfl⟩
  obtain ⟨w3, hw3⟩ : ∃ w3, w3 = ((w.alloc (Obj.cells #[.slice A b.length c] 28)).alloc (Obj.cells #[.slice none 0 0] 76)).alloc (Obj.cells #[.func (.func 47) #[] #[.pointer (some ⟨w.heap.size + 1, 0, none⟩)]] 120) := ⟨_, rfl⟩
  have hz3 : w3.heap.size = w.heap.size + 3 := by rw [hw3]; simp
  have hm3 : ∀ X, Mv X w w3 := fun X => by rw [hw3]; exact Mv.of_below (below_al (below_al (below_al (below_rf w) _) _) _)
  have bx2 : Boxed w3 w.heap.size 28 (.slice A b.length c) := by rw [hw3]; exact ((Boxed.new w _ _).alloc _).alloc _
  have bx1 : Boxed w3 (w.heap.size + 1) 76 (.slice none 0 0) := by
    rw [hw3]
    have := Boxed.new (w.alloc (Obj.cells #[.slice A b.length c] 28)) 76 (.slice none 0 0)
    rw [World.size_alloc] at this
    exact this.alloc _
  have bx3 : Boxed w3 (w.heap.size + 1 + 1) 120 (.func (.func 47) #[] #[.pointer (some ⟨w.heap.size + 1, 0, none⟩)]) := by
    rw [hw3]
    have := Boxed.new ((w.alloc (Obj.cells #[.slice A b.length c] 28)).alloc (Obj.cells #[.slice none 0 0] 76)) 120 (.func (.func 47) #[] #[.pointer (some ⟨w.heap.size + 1, 0, none⟩)])
    rw [World.size_alloc, World.size_alloc] at this
    exact this
  have HM0 := hid hm3
  have HIT := hid hit
  have hrd3 := rd_mv hrd (hm3 (fun _ => False)) (fun _ _ _ h => h)
  have h0 : IJ (w.heap.size + 1) w.heap.size G a b 0 (fun k => k = w.heap.size + 1 ∨ k = w.heap.size) w3 :=
    ⟨.slice none 0 0, A, c, ⟨bx1, own_nil _ _ _ _⟩, ⟨bx2, Nat.zero_le _, hc, hrd3, hblk, hA, hsp⟩, fun k => by simp [Value.ownBlock]⟩
  have H0 := hid h0
  have HB3 := hid bx3
  clear hm3 hit hrd hrd3 h0 bx1 bx2 bx3
  gi_wp2
  rw [← hw3]
  clear hw3
  refine wpIn_range (gf := gf) (lb := lb) rfl eg HIT.out (fun _ => rfl) (IJ (w.heap.size + 1) w.heap.size G a b) (fun _ _ _ _ => False) (fun k => k = w.heap.size + 1 ∨ k = w.heap.size) (IJ_stable _ _ _ _ _ _ _ hgR (fun k hk => by have := hgw k hk; omega)) (fun _ => ⟨fun _ _ _ h => h.elim, fun _ _ _ _ h _ => h.elim⟩)
    H0.out (fun k hk => by have := hR k hk; omega) (fun k e h => by have := hR k h; omega) (HIT.out.keeps _ _ _ hT (HM0.out _)) ?a1 ?assign ?body ?done ?stop
  case assign =>
    intro l i W K hK
    simp only [encI]
    gi_wp2
    exact hK
  case body =>
    rintro lp i O W hi ⟨v, A1, c1, hout, hrest, hO⟩ hsz hOs hmw
    have hB3 := boxed_mv HB3.out hmw (fun h => by
      rcases h with h | h
      · omega
      · have := hR _ h; omega)
    obtain ⟨x, hx⟩ : ∃ x, x = itm a i := ⟨_, rfl⟩
    obtain ⟨out0, hout0⟩ : ∃ o, o = (joinL (a.take i) b).1 := ⟨_, rfl⟩
    obtain ⟨j0, hj0⟩ : ∃ o, o = (joinL (a.take i) b).2 := ⟨_, rfl⟩
    have HJ := hid (joinL_snoc a b i hi)
    rw [← hx] at HJ ⊢
    rw [← hout0] at hout
    rw [← hj0] at hrest
    have HE0 := hid hout0
    have HE1 := hid hj0
    have HO := hid hO
    have HMW := hid hmw
    have HOS := hid hOs
    clear hx hout0 hj0 hO hmw hOs
    have hoB3 : ¬ O (w.heap.size + 1 + 1) := fun h => by
      rcases (HO.out _).1 h with h | h | h
      · omega
      · omega
      · exact Boxed.not_row hB3 (by decide) hout.2 h.symm
    have HOB3 := hid hoB3
    have HC3 := hid hB3
    have hout' : OutB W (w.heap.size + 1) out0 v := hout
    have hoo := joinL_len (a.take i) b
    rw [← HE0.out, ← HE1.out, List.length_take] at hoo
    have hgO : ∀ k, G k → ¬ O k := fun k hk h => by
      have := hgw k hk
      rcases HOS.out _ h with h | h
      · omega
      · omega
    have hO1 : O (w.heap.size + 1) := (HO.out _).2 (.inl rfl)
    have hO2 : O w.heap.size := (HO.out _).2 (.inr (.inl rfl))
    have HG := hid (⟨hgO, hO1, hO2⟩ : (∀ k, G k → ¬ O k) ∧ O (w.heap.size + 1) ∧ O w.heap.size)
    have hgW : Hid (∀ k, G k → k < W.heap.size) := hid (fun k hk => by have := hgw k hk; omega)
    have HGW := hid hgw
    have hoo2 : out0.length ≤ i + j0 := by omega
    clear hoB3 hB3 hgO hO1 hO2 hoo
    gi_wp2
    gi_loopw [] (fun wr => ∃ v' A' c' out' j', OutB wr (w.heap.size + 1) out' v' ∧ Rest wr w.heap.size G b j' A' c' ∧ out'.length ≤ i + j' ∧ Hid (jlow b x.1 out' j' = jlow b x.1 out0 j0) ∧ Hid (Mv O W wr) ∧ Hid (∀ k, v'.ownBlock = some k → O k ∨ W.heap.size ≤ k)) (fun wr => blen w.heap.size wr)
    case atStart => exact ⟨v, A1, c1, out0, j0, hout, hrest, hoo2, hid rfl, hid (Mv.refl _ _), hid (fun k hk => .inl ((HO.out k).2 (.inr (.inr hk))))⟩
    case round =>
      clear hout hrest hout' hoo2
      obtain ⟨v', A', c', out', j', hout, hrest, hol, HE, HM, HV⟩ := hrel
      obtain ⟨n, hn⟩ : ∃ n, n = b.length - j' := ⟨_, rfl⟩
      have hbx := hrest.box
      have hcap := hrest.cap
      have hjb := hrest.le
      have hol2 : out'.length ≤ 5000000 := by omega
      rw [← hn] at hbx hcap
      have q0 := hbx.cell
      have q1 := hbx.frozen
      have p0 := hout.1.cell
      have p1 := hout.1.frozen
      have r0 := (boxed_mv HC3.out HM.out HOB3.out).cell
      have HN := hid hn
      have hnb : n ≤ 1000000 := by omega
      have hws : W.heap.size ≤ wr.heap.size := HM.out.size
      have hb1 : w.heap.size + 1 < wr.heap.size := hout.1.lt
      have HOUT := hid hout
      have HRE := hid hrest
      have HOL := hid hol
      clear hn hol hjb
      -- the block of the pair that is made
      obtain ⟨wx, hwx⟩ : ∃ wx, wx = wr.alloc (Obj.cells #[.string (Str x.1), (.string (Str (x).2)), .string (Str []), .bool true, .bool false] 82) := ⟨_, rfl⟩
      have hzx : wx.heap.size = wr.heap.size + 1 := by rw [hwx]; simp
      have hmx : Mv (fun _ => False) wr wx := by rw [hwx]; exact Mv.alloc _ _
      by_cases hlt : 0 < n
      · obtain ⟨gg, oo, rfl, hc1, hc2⟩ := rd_itm hrest.rd (j := 0) (by rw [List.length_drop]; have := HN.out; omega)
        obtain ⟨y, hy⟩ : ∃ y, y = itm b j' := ⟨_, rfl⟩
        rw [show itm (b.drop j') 0 = y by rw [hy]; simp [itm, List.getD_eq_getElem?_getD]] at hc1 hc2
        rw [show oo + 0 * 2 = oo by omega] at hc1 hc2
        have HY := hid hy
        clear hy
        cases hlo : ltS y.1 x.1 with
        | true =>
          have hlo' : Op.bytesLess y.1 x.1 = true := hlo
          have HLO := hid hlo
          have hri := callsIn_wide (n := 0) |>.2 (right_any (w.heap.size + 1) out' v' y (by omega) wr.drew hout)
          have HRI := hid hri
          have HNX : Hid (∀ w1, Mv (fun k => k = w.heap.size + 1 ∨ v'.ownBlock = some k) wr.drew w1 → Rest w1 w.heap.size G b j' (some ⟨gg, oo, none⟩) c') := hid (fun w1 hm => by
            refine Rest.mv (W := wr.drew) ⟨hrest.box, hrest.le, hrest.cap, hrest.rd, hrest.blk, hrest.nil, hrest.spot⟩ hm (fun h => ?_) (fun k hk h => ?_)
            · rcases h with h | h
              · omega
              · exact Boxed.not_row hrest.box (by decide) hout.2 h.symm
            · have := HGW.out k hk
              rcases h with h | h
              · omega
              · rcases HV.out _ h with h | h
                · exact HG.out.1 k hk h
                · omega)
          have HST : Hid (jlow b x.1 out' j' = jlow b x.1 (out' ++ [rgt y]) (j' + 1)) := hid (by
            rw [jlow.eq_1, if_pos (by have := HN.out; omega), ← HY.out, if_pos HLO.out])
          have hmix : Try.prog.follows .mixedOrders = true := by kernel_rfl
          clear hlo hri hwx hzx hmx hout hrest
          gi_wp2
          gi_region_with_o (refine ⟨trivial, rfl, ?_⟩; refine (CallsIn.inRound lp HRI.out).mono ?_; rintro e w1 ⟨⟨u, rfl⟩, v2, hout2, hmv2, hv2⟩)
          all_goals
            have hre2 := HNX.out w1 hmv2
            have d0 := hre2.box.cell
            have d1 := hre2.box.frozen
            rw [← HN.out] at d0
            have HRE2 := hid hre2
            have HOUT2 := hid hout2
            have HMV2 := hid hmv2
            have HV2 := hid hv2
            clear hre2 hout2 hmv2 hv2
            gi_wp2
            go_roundw
          all_goals
            first
              | (exact low_rel HOUT2.out HRE2.out HN.out hlt (fun k hk => by have := HGW.out k hk; omega) (by omega) HOL.out (by rw [← HST.out, HE.out]) HM.out HMV2.out HV2.out HV.out HG.out.2.1 HG.out.2.2)
              | (rw [blen_of ((HRE2.out.box.set (.slice (if c' = 1 then some ⟨gg, oo, none⟩ else some ⟨gg, oo + 2, none⟩) (n - 1) (c' - 1))).cell), blen_of q0]
                 omega)
        | false =>
          have hlo' : Op.bytesLess y.1 x.1 = false := hlo
          have hex : jlow b x.1 out0 j0 = (out', j') := by rw [← HE.out, jlow.eq_1, if_pos (by have := HN.out; omega), ← HY.out, hlo]; rfl
          by_cases hye : y.1 = x.1
          · have hye' : (y.1 == x.1) = true := beq_iff_eq.2 hye
            have HSTEP : Hid (joinL (a.take (i + 1)) b = (out' ++ [(x.1, x.2, y.2, true, true)], j' + 1)) := hid (by
              rw [HJ.out]
              unfold stepJ
              rw [← HE0.out, ← HE1.out, hex]
              dsimp only
              rw [if_pos ⟨by have := HN.out; omega, by rw [← HY.out]; exact hye⟩, ← HY.out])
            clear hex hlo hye
            have hc1x := hmx.cell hc1 (fun h => h)
            have hc2x := hmx.cell hc2 (fun h => h)
            have houtx := hout.mv hmx (fun h => h) (fun _ _ h => h)
            have hrex := hrest.mv hmx (fun h => h) (fun _ _ h => h)
            have p0x := houtx.1.cell
            have q0x := hrex.box.cell
            rw [← HN.out] at q0x
            obtain ⟨wz, hwz⟩ : ∃ wz, wz = wr.alloc (Obj.cells #[.string (Str x.1), (.string (Str (x).2)), (.string (Str (y).2)), .bool true, .bool true] 82) := ⟨_, rfl⟩
            have bkz : Blk wz wr.heap.size [.string (Str x.1), (.string (Str (x).2)), (.string (Str (y).2)), .bool true, .bool true] 82 := by rw [hwz]; exact Blk.new wr _ _
            have hmz : Mv (fun _ => False) wr wz := by rw [hwz]; exact Mv.alloc _ _
            have houtz := hout.mv hmz (fun h => h) (fun _ _ h => h)
            have hrez := hrest.mv hmz (fun h => h) (fun _ _ h => h)
            have q0z := hrez.box.cell
            have q1z := hrez.box.frozen
            rw [← HN.out] at q0z
            obtain ⟨wt, hwt⟩ : ∃ wt, wt = wz.setCell ⟨w.heap.size, 0, none⟩ (.slice (if c' = 1 then some ⟨gg, oo, none⟩ else some ⟨gg, oo + 2, none⟩) (n - 1) (c' - 1)) := ⟨_, rfl⟩
            have hmt : Mv (fun k => k = w.heap.size) wz wt := by rw [hwt]; exact Mv.setCell _ _ _ rfl
            have hret : Rest wt w.heap.size G b (j' + 1) (if c' = 1 then some ⟨gg, oo, none⟩ else some ⟨gg, oo + 2, none⟩) (c' - 1) := by rw [hwt]; exact hrez.tail HN.out hlt (fun k hk => by have := HGW.out k hk; omega)
            have houtt := houtz.mv hmt (by omega) (fun k hk e => Boxed.not_row hrez.box (by decide) houtz.2 (e ▸ hk).symm)
            have bkt : Blk wt wr.heap.size [.string (Str x.1), (.string (Str (x).2)), (.string (Str (y).2)), .bool true, .bool true] 82 := by rw [hwt]; exact bkz.set_other (by show wr.heap.size ≠ w.heap.size; omega) _
            have k0 := bkt.cell (j := 0) rfl
            have k1 := bkt.cell (j := 1) rfl
            have k2 := bkt.cell (j := 2) rfl
            have k3 := bkt.cell (j := 3) rfl
            have k4 := bkt.cell (j := 4) rfl
            have p0t := houtt.1.cell
            have p1t := houtt.1.frozen
            obtain ⟨wy, hwy⟩ : ∃ wy, wy = wt.alloc (Obj.cells #[.string (Str x.1), (.string (Str (x).2)), (.string (Str (y).2)), .bool true, .bool true] 82) := ⟨_, rfl⟩
            have hmy : Mv (fun _ => False) wt wy := by rw [hwy]; exact Mv.alloc _ _
            have hzt : wt.heap.size = wr.heap.size + 1 := by rw [hwt, hwz]; simp
            have hzy : wy.heap.size = wr.heap.size + 2 := by rw [hwy]; simp [hzt]
            have HOY := hid (houtt.mv hmy (fun h => h) (fun _ _ h => h))
            have HRY := hid (hret.mv hmy (fun h => h) (fun _ _ h => h))
            have HNY : Hid (Rd wy (some ⟨wr.heap.size + 1, 0, none⟩) [.string (Str x.1), (.string (Str (x).2)), (.string (Str (y).2)), .bool true, .bool true]) := hid (by
              refine .inr ⟨_, _, rfl, fun j y hj => ?_⟩
              rw [hwy, ← hzt, World.cell?_alloc_at _ _ _ _ rfl, Nat.zero_add, ← hj]
              simp)
            have HMY : Hid (Mv O W wy) := hid (((HM.out.trans hmz (O := O) (fun _ h => h) (fun _ _ h => h.elim)).trans hmt (O := O) (fun _ h => h) (fun k _ h => by subst h; exact HG.out.2.2)).trans hmy (fun _ h => h) (fun _ _ h => h.elim))
            have HZY := hid hzy
            clear houtx hrex hmx hmy hzy hzx bkz hmz houtz hrez hmt hret houtt bkt hzt
            rw [hwx] at hc1x hc2x p0x q0x
            rw [hwz] at hwt q0z q1z
            rw [hwt] at hwy k0 k1 k2 k3 k4 p0t p1t
            rw [hwy] at HOY HRY HNY HMY HZY
            clear hwx hwy hwt hwz hout hrest
            gi_wp2_with (gi_at_builtin; refine wpListIn_app2 (v := v') _ ti_bo rfl _ _ rfl (w.heap.size + 1) (some ⟨wr.heap.size + 1, 0, none⟩) 1 1 [.string (Str x.1), (.string (Str (x).2)), (.string (Str (y).2)), .bool true, .bool true] rfl rfl HOY.out.2 rfl HNY.out (by intro h; cases h) (by intro a h; injection h with h; subst h; rfl) (by simp [Value.oneCell']) (by have := HZY.out; omega) (by omega) ?_; intro v2 w2 ho2 hg2 hv2; obtain ⟨A2, c2, rfl⟩ := own_succ ho2; have hbx2 := HOY.out.1.kept hg2 (HOY.out.1.not_row (by decide) HOY.out.2); have d0 := hbx2.cell; have d1 := hbx2.frozen)
            all_goals gi_wp2
            all_goals exact IJ_end (z := (x.1, x.2, y.2, true, true)) HOY.out HRY.out HMY.out HV.out hg2 ho2 hv2 HG.out.2.1 HG.out.2.2 (by omega) hgW.out HG.out.1 HSTEP.out
          · have hye' : (y.1 == x.1) = false := beq_eq_false_iff_ne.2 hye
            have HSTEP : Hid (joinL (a.take (i + 1)) b = (out' ++ [(x.1, x.2, [], true, false)], j')) := hid (by
              rw [HJ.out]
              unfold stepJ
              rw [← HE0.out, ← HE1.out, hex]
              dsimp only
              rw [if_neg (fun h => hye (by rw [HY.out]; exact h.2))])
            clear hex hlo hye
            have hc1x := hmx.cell hc1 (fun h => h)
            have hc2x := hmx.cell hc2 (fun h => h)
            rw [hwx] at hc1x hc2x
            have houtx := hout.mv hmx (fun h => h) (fun _ _ h => h)
            have hrex := hrest.mv hmx (fun h => h) (fun _ _ h => h)
            have p0x := houtx.1.cell
            have p1x := houtx.1.frozen
            have q0x := hrex.box.cell
            have q1x := hrex.box.frozen
            rw [← HN.out] at q0x
            obtain ⟨wy, hwy⟩ : ∃ wy, wy = wx.alloc (Obj.cells #[.string (Str x.1), (.string (Str (x).2)), .string (Str []), .bool true, .bool false] 82) := ⟨_, rfl⟩
            have hmy : Mv (fun _ => False) wx wy := by rw [hwy]; exact Mv.alloc _ _
            have hzy : wy.heap.size = wr.heap.size + 2 := by rw [hwy]; simp [hzx]
            have HOY := hid (houtx.mv hmy (fun h => h) (fun _ _ h => h))
            have HRY := hid (hrex.mv hmy (fun h => h) (fun _ _ h => h))
            have HNY : Hid (Rd wy (some ⟨wr.heap.size + 1, 0, none⟩) [.string (Str x.1), (.string (Str (x).2)), .string (Str []), .bool true, .bool false]) := hid (by
              refine .inr ⟨_, _, rfl, fun j y hj => ?_⟩
              rw [hwy, ← hzx, World.cell?_alloc_at _ _ _ _ rfl, Nat.zero_add, ← hj]
              simp)
            have HMY : Hid (Mv O W wy) := hid ((HM.out.trans hmx (fun _ h => h) (fun _ _ h => h.elim)).trans hmy (fun _ h => h) (fun _ _ h => h.elim))
            have HZY := hid hzy
            clear houtx hrex hmx hmy hzy hzx
            rw [hwx] at hwy p0x p1x q0x q1x
            rw [hwy] at HOY HRY HNY HMY HZY
            clear hwx hwy hout hrest
            gi_wp2_with (gi_at_builtin; refine wpListIn_app2 (v := v') _ ti_bo rfl _ _ rfl (w.heap.size + 1) (some ⟨wr.heap.size + 1, 0, none⟩) 1 1 [.string (Str x.1), (.string (Str (x).2)), .string (Str []), .bool true, .bool false] rfl rfl HOY.out.2 rfl HNY.out (by intro h; cases h) (by intro a h; injection h with h; subst h; rfl) (by simp [Value.oneCell']) (by have := HZY.out; omega) (by omega) ?_; intro v2 w2 ho2 hg2 hv2; obtain ⟨A2, c2, rfl⟩ := own_succ ho2; have hbx2 := HOY.out.1.kept hg2 (HOY.out.1.not_row (by decide) HOY.out.2); have d0 := hbx2.cell; have d1 := hbx2.frozen)
            gi_wp2
            exact IJ_end (z := (x.1, x.2, [], true, false)) HOY.out HRY.out HMY.out HV.out hg2 ho2 hv2 HG.out.2.1 HG.out.2.2 (by omega) hgW.out HG.out.1 HSTEP.out
      · obtain rfl : n = 0 := by omega
        have hex : jlow b x.1 out0 j0 = (out', j') := by rw [← HE.out, jlow.eq_1, if_neg (by have := HN.out; omega)]
        have HSTEP : Hid (joinL (a.take (i + 1)) b = (out' ++ [(x.1, x.2, [], true, false)], j')) := hid (by
          rw [HJ.out]
          unfold stepJ
          rw [← HE0.out, ← HE1.out, hex]
          dsimp only
          rw [if_neg (fun h => by have := HN.out; omega)])
        clear hex
        have houtx := hout.mv hmx (fun h => h) (fun _ _ h => h)
        have hrex := hrest.mv hmx (fun h => h) (fun _ _ h => h)
        have p0x := houtx.1.cell
        have p1x := houtx.1.frozen
        have q0x := hrex.box.cell
        have q1x := hrex.box.frozen
        rw [← HN.out] at q0x
        obtain ⟨wy, hwy⟩ : ∃ wy, wy = wx.alloc (Obj.cells #[.string (Str x.1), (.string (Str (x).2)), .string (Str []), .bool true, .bool false] 82) := ⟨_, rfl⟩
        have hmy : Mv (fun _ => False) wx wy := by rw [hwy]; exact Mv.alloc _ _
        have hzy : wy.heap.size = wr.heap.size + 2 := by rw [hwy]; simp [hzx]
        have HOY := hid (houtx.mv hmy (fun h => h) (fun _ _ h => h))
        have HRY := hid (hrex.mv hmy (fun h => h) (fun _ _ h => h))
        have HNY : Hid (Rd wy (some ⟨wr.heap.size + 1, 0, none⟩) [.string (Str x.1), (.string (Str (x).2)), .string (Str []), .bool true, .bool false]) := hid (by
          refine .inr ⟨_, _, rfl, fun j y hj => ?_⟩
          rw [hwy, ← hzx, World.cell?_alloc_at _ _ _ _ rfl, Nat.zero_add, ← hj]
          simp)
        have HMY : Hid (Mv O W wy) := hid ((HM.out.trans hmx (fun _ h => h) (fun _ _ h => h.elim)).trans hmy (fun _ h => h) (fun _ _ h => h.elim))
        have HZY := hid hzy
        clear houtx hrex hmx hmy hzy hzx
        rw [hwx] at hwy p0x p1x q0x q1x
        rw [hwy] at HOY HRY HNY HMY HZY
        clear hwx hwy hout hrest
        gi_wp2_with (gi_at_builtin; refine wpListIn_app2 (v := v') _ ti_bo rfl _ _ rfl (w.heap.size + 1) (some ⟨wr.heap.size + 1, 0, none⟩) 1 1 [.string (Str x.1), (.string (Str (x).2)), .string (Str []), .bool true, .bool false] rfl rfl HOY.out.2 rfl HNY.out (by intro h; cases h) (by intro a h; injection h with h; subst h; rfl) (by simp [Value.oneCell']) (by have := HZY.out; omega) (by omega) ?_; intro v2 w2 ho2 hg2 hv2; obtain ⟨A2, c2, rfl⟩ := own_succ ho2; have hbx2 := HOY.out.1.kept hg2 (HOY.out.1.not_row (by decide) HOY.out.2); have d0 := hbx2.cell; have d1 := hbx2.frozen)
        gi_wp2
        exact IJ_end (z := (x.1, x.2, [], true, false)) HOY.out HRY.out HMY.out HV.out hg2 ho2 hv2 HG.out.2.1 HG.out.2.2 (by omega) hgW.out HG.out.1 HSTEP.out
  case done =>
    rintro D O W hD hnD hOs hmw ⟨v, A1, c1, hout, hrest, hO⟩ hT2 hK
    rw [List.take_length] at hout hrest
    have hoo := joinL_len a b
    obtain ⟨out0, hout0⟩ : ∃ o, o = (joinL a b).1 := ⟨_, rfl⟩
    obtain ⟨j0, hj0⟩ : ∃ o, o = (joinL a b).2 := ⟨_, rfl⟩
    rw [← hout0, ← hj0] at hoo
    rw [← hout0] at hout
    rw [← hj0] at hrest
    obtain ⟨n, hn⟩ : ∃ n, n = b.length - j0 := ⟨_, rfl⟩
    have hbx := hrest.box
    rw [← hn] at hbx
    have q0 := hbx.cell
    have p0 := hout.1.cell
    have hB3 := boxed_mv HB3.out hmw (fun h => by
      rcases h with h | h
      · omega
      · have := hR _ h; omega)
    have r0 := hB3.cell
    have hnb : n ≤ 1000000 := by omega
    have hol : out0.length ≤ 5000000 := by omega
    have hws : w.heap.size + 3 ≤ W.heap.size := by have := hmw.size; omega
    have hOlo : ∀ k, O k → w.heap.size ≤ k := fun k hk => by
      rcases hOs k hk with h | h
      · omega
      · omega
    have hgO : ∀ k, G k → ¬ O k := fun k hk h => by have := hOlo _ h; have := hgw k hk; omega
    have hoB3 : ¬ O (w.heap.size + 1 + 1) := fun h => by
      rcases (hO _).1 h with h | h | h
      · omega
      · omega
      · exact Boxed.not_row hB3 (by decide) hout.2 h.symm
    have hO1 : O (w.heap.size + 1) := (hO _).2 (.inl rfl)
    have HRES : Hid (joinP a b = out0 ++ (b.drop j0).map rgt) := hid (by unfold joinP; rw [← hout0, ← hj0])
    have HRE := hid hrest
    have HV0 : Hid (∀ k, v.ownBlock = some k → O k) := hid (fun k hk => (hO k).2 (.inr (.inr hk)))
    have HK := hid hK
    have HT := hid hT2
    have HMW : Hid (Mv R w W) := hid ((HM0.out R).trans hmw (O := R) (fun _ h => h) (fun k hk h => by
      rcases h with h | h
      · omega
      · exact h))
    have HN := hid hn
    have HOO := hid hO1
    have HG := hid hgO
    have HOL := hid hOlo
    have HB := hid hB3
    have HNB := hid hoB3
    have HND := hid hnD
    have hout' : OutB W (w.heap.size + 1) (out0 ++ ((b.drop j0).take 0).map rgt) v := by simpa using hout
    clear hout0 hj0 hoo hout hrest hmw hOs hO hT2 hK hgO hOlo hn hB3 hoB3 hnD hO1
    gi_wp2
    gi_loopw [62] (fun i wr => ∃ (k : Nat) (v' : Value), k ≤ n ∧ i = .int .i64 (k : Int) ∧ OutB wr (w.heap.size + 1) (out0 ++ ((b.drop j0).take k).map rgt) v' ∧ Hid (Mv O W wr) ∧ Hid (∀ k, v'.ownBlock = some k → O k ∨ W.heap.size ≤ k)) (fun i _ => n - (intOf i).toNat)
    case atStart => exact ⟨0, v, Nat.zero_le _, rfl, hout', hid (Mv.refl _ _), hid (fun k hk => .inl (HV0.out k hk))⟩
    case round =>
      clear hout' p0 q0
      obtain ⟨k, v', hk, rfl, hout, HM, HV⟩ := hrel
      have r1 := (boxed_mv HB.out HM.out HNB.out).cell
      have p0 := hout.1.cell
      have p1 := hout.1.frozen
      by_cases hlt : k < n
      · obtain ⟨gg, oo, rfl, hc1, hc2⟩ := rd_itm (rd_mv HRE.out.rd HM.out (fun bb oo e h => HG.out bb (HRE.out.blk bb oo e) h)) (j := k) (by rw [List.length_drop]; have := HN.out; omega)
        obtain ⟨y, hy⟩ : ∃ y, y = itm (b.drop j0) k := ⟨_, rfl⟩
        rw [← hy] at hc1 hc2
        have htk := take_itm (b.drop j0) k (by rw [List.length_drop]; have := HN.out; omega)
        rw [← hy] at htk
        have HTK := hid htk
        have hmx : Mv (fun _ => False) wr (wr.alloc (Obj.cells #[.string (Str y.1), (.string (Str (y).2))] 63)) := Mv.alloc _ _
        have r2 := (boxed_mv (boxed_mv HB.out HM.out HNB.out) hmx (fun h => h)).cell
        have hli : (out0 ++ ((b.drop j0).take k).map rgt).length ≤ 1000000000 := by
          rw [List.length_append, List.length_map, List.length_take]; omega
        have HRI := hid (callsIn_wide (n := 4) |>.2 (right_any (w.heap.size + 1) (out0 ++ ((b.drop j0).take k).map rgt) v' y hli _ (hout.mv hmx (fun h => h) (fun _ _ h => h))))
        have HMX := hid hmx
        clear hy htk hmx hli hout
        gi_wp2
        refine ⟨trivial, ?_⟩
        refine HRI.out.mono ?_
        rintro e w1 ⟨⟨u, rfl⟩, v2, hout2, hmv2, hv2⟩
        have HOUT2 := hid hout2
        have HMV2 := hid hmv2
        have HV2 := hid hv2
        clear hout2 hmv2 hv2
        gi_wp2
        go_roundw
        case rel =>
          refine ⟨k + 1, v2, by omega, by simp, ?_, hid ?_, hid ?_⟩
          · rw [HTK.out, List.map_append, ← List.append_assoc]; exact HOUT2.out
          · refine (HM.out.trans HMX.out (O := O) (fun _ h => h) (fun _ _ h => h.elim)).trans HMV2.out (fun _ h => h) (fun q hq h => ?_)
            rcases h with h | h
            · subst h; exact HOO.out
            · exact (HV.out q h).resolve_right (by omega)
          · intro q hq
            rcases HV2.out with h | ⟨k2, h, h2⟩
            · exact HV.out q (h ▸ hq)
            · rw [h] at hq; injection hq with hq; subst hq
              have := HM.out.size
              exact .inr (by simp at h2; omega)
        case measure => simp [intOf]; omega
      · obtain rfl : k = n := by omega
        rw [List.take_of_length_le (by rw [List.length_drop]; have := HN.out; omega), ← HRES.out] at hout
        have hKr : wr.heap[D]? = some (.deferred (some [])) := (HM.out.block D (Array.getElem?_eq_some_iff.1 HK.out).1 HND.out).trans HK.out
        have HKR := hid hKr
        have HOU := hid hout
        clear hKr hout
        gi_wp2
        refine ⟨by simp, .inl ⟨_, _, rfl, run_takeDeferred HKR.out, ?_⟩⟩
        have hpd : ∀ X : Nat → Prop, X D → Mv X wr (wr.putObj D (.deferred none)) := fun X hX => Mv.putObj _ _ _ (fun _ => hX)
        have hDne : ∀ q, v'.ownBlock = some q → ¬ q = D := fun q hq e => by
          subst e
          rcases HV.out q hq with h | h
          · exact HND.out h
          · have := (Array.getElem?_eq_some_iff.1 HK.out).1; omega
        refine ⟨_, results_tmp rfl _ _ _, ⟨v', rfl, own_mv (own_mono' HOU.out.2 (by omega)) (hpd (fun q => q = D) rfl) hDne⟩, ?_, ?_⟩
        · refine (HMW.out.trans HM.out (O := R) (fun _ h => h) (fun q hq h => by have := HOL.out q h; omega)).trans (hpd (fun q => q = D) rfl) (fun _ h => h) (fun q hq e => by omega)
        · exact HIT.out.keeps _ _ _ HT.out ((HM.out.trans (hpd (fun q => q = D) rfl) (O := fun q => ¬ R q) (fun q hq h => by have := hR q h; have := HOL.out q hq; omega) (fun q _ e h => by have := hR q h; omega)))
  case stop =>
    rintro D c i O W _ _ _ _ _ h _ _
    exact h.elim
end Go.Proofs.Ytoidbgedpakjmaa.JoinS
