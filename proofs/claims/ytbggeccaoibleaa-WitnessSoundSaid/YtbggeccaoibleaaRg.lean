/- The walks of layer 8: all pairs of a tree from a key on, as a run; those of a range; a run's pairs as a list. -/
import Derived.Test.YtbggeccaoibleaaWk
import Derived.Test.YtbggeccaoibleaaRunS
set_option linter.unusedVariables false
set_option linter.unusedSimpArgs false
namespace Go.Proofs.Ytbggeccaoibleaa.W08
open Go Go.RowKit Go.Shelf Go.Proofs.Ytbggeccaoibleaa.Lib Go.Proofs.Ytbggeccaoibleaa.Sha Go.Proofs.Ytbggeccaoibleaa.T08 Go.Proofs.Ytbggeccaoibleaa.QTail Go.Proofs.Ytbggeccaoibleaa.Itms Go.Proofs.Ytbggeccaoibleaa.WSeq Go.Proofs.Ytbggeccaoibleaa.Mp Go.Proofs.Ytbggeccaoibleaa.Ord Go.Proofs.Ytbggeccaoibleaa.Tree Go.Proofs.Ytbggeccaoibleaa.Inj
open Go.Proofs.Ytbggeccaoibleaa.Run hiding round_any yield_any
open Go.Proofs.Ytbggeccaoibleaa.RunsS
attribute [local go_sem] Oper.semAt_some
attribute [local go_sem] Str_size Str_toList Str_extract
theorem walk_all (lp hb mb n : Nat) (f : Src) (hf : ∀ k s, f k = some s → s.length ≤ 1000000000) (key : List UInt8) (encs : Nat → Array Value) (N : Nat) (R : Nat → Prop) (B : Nat) (J Jx : Nat → (Nat → Prop) → World → Prop) (hR1 : R hb) (hR2 : R mb) (hRB : ∀ k, R k → k < B) (hC : Cons Try.prog lp encs N R B J Jx) :
    ∀ lv, lv ≤ 32 → WalkC lp hb mb n f key encs N R B J Jx lv := by
  intro lv
  induction lv with
  | zero => intro h; exact walk_step lp hb mb n f hf key encs N R B J Jx hR1 hR2 hRB hC 0 h (fun m hm => by omega)
  | succ lv ih => intro h; exact walk_step lp hb mb n f hf key encs N R B J Jx hR1 hR2 hRB hC (lv + 1) h (fun m hm => by obtain rfl : m = lv := (by omega); exact ih (by omega))
def fromR (Bs Br Bk hb mb : Nat) (k : Nat) : Prop := k = Bs ∨ k = Br ∨ k = Bk ∨ k = hb ∨ k = mb
/-- the pairs that a source's tree hands out, from a key on -/
def runP (f : Src) (root key : List UInt8) : List Itm := match atS f root with
  | none => []
  | some p => (walkP f key p.1 p.2).1
theorem HeapT.same {W W1 : World} {hb mb n : Nat} {f} (h : HeapT W hb mb n f) (h1 : W1.heap[hb]? = W.heap[hb]?) (h2 : W1.heap[mb]? = W.heap[mb]?) : HeapT W1 hb mb n f := by
  refine ⟨h1.trans h.1, ?_⟩
  obtain ⟨D, ⟨es, clock, g1, F, hs, hD⟩, h3⟩ := h.2
  exact ⟨D, ⟨es, clock, h2.trans g1, F, hs, hD⟩, h3⟩
theorem HeapT.lt {W : World} {hb mb n : Nat} {f} (h : HeapT W hb mb n f) : hb < W.heap.size ∧ mb < W.heap.size := ⟨(Array.getElem?_eq_some_iff.1 h.1).1, h.2.lt⟩
theorem enc_of (L : List Itm) : EncAt (encI L) 0 L := fun j hj => by rw [Nat.zero_add]; rfl
set_option maxRecDepth 100000 in
set_option maxHeartbeats 4000000 in
theorem from_iter (hb mb n Bs Br Bk : Nat) (f : Src) (hf : ∀ k s, f k = some s → s.length ≤ 1000000000) (root key : List UInt8) (hroot : root.length ≤ 1000000000) (w0 : World) (hH0 : HeapT w0 hb mb n f)
    (cs0 : w0.cell? ⟨Bs, 0, none⟩ = some (.iface 32 (.pointer (some ⟨hb, 0, none⟩)))) (cr0 : w0.cell? ⟨Br, 0, none⟩ = some (.string (Str root))) (ck0 : w0.cell? ⟨Bk, 0, none⟩ = some (.string (Str key))) :
    Iter Try.prog 81 #[.pointer (some ⟨Bs, 0, none⟩), .pointer (some ⟨Br, 0, none⟩), .pointer (some ⟨Bk, 0, none⟩)] (encI (runP f root key)) (runP f root key).length (fromR Bs Br Bk hb mb) (Still (fromR Bs Br Bk hb mb) w0) := by
  have hlt0 : ∀ k, fromR Bs Br Bk hb mb k → k < w0.heap.size := fun k hk => by
    rcases hk with rfl | rfl | rfl | rfl | rfl
    · exact World.block_lt_of_cell? _ _ cs0
    · exact World.block_lt_of_cell? _ _ cr0
    · exact World.block_lt_of_cell? _ _ ck0
    · exact hH0.lt.1
    · exact hH0.lt.2
  refine ⟨Still.keeps hlt0, ?_⟩
  intro lp J Jx O W hRl hOR hT hC h0
  have cs1 : W.cell? ⟨Bs, 0, none⟩ = _ := cell_same cs0 (hT _ (.inl rfl))
  have cr1 : W.cell? ⟨Br, 0, none⟩ = _ := cell_same cr0 (hT _ (.inr (.inl rfl)))
  have ck1 : W.cell? ⟨Bk, 0, none⟩ = _ := cell_same ck0 (hT _ (.inr (.inr (.inl rfl))))
  have hHW : HeapT W hb mb n f := hH0.same (hT _ (.inr (.inr (.inr (.inl rfl))))) (hT _ (.inr (.inr (.inr (.inr rfl)))))
  have HST : Hid (∀ X, Mv O W X → Still (fromR Bs Br Bk hb mb) w0 0 X) := hid (fun X hm => Still.keeps hlt0 0 W X hT (hm.mono (fun j _ ho => hOR j ho)))
  have hatc := callsIn_wide (n := 0) |>.2 (at_any hb mb n f hf root hroot W hHW)
  have HATC := hid hatc
  have HC := hid hC
  have HOR := hid hOR
  have HRL := hid hRl
  have HHW := hid hHW
  have HF := hid hf
  have HCS := hid cs1
  have HCK := hid ck1
  obtain ⟨L, hL⟩ : ∃ L, L = runP f root key := ⟨_, rfl⟩
  rw [← hL] at HC ⊢
  have HL := hid hL
  have hsB : Bs < W.heap.size := hRl _ (.inl rfl)
  have hkB : Bk < W.heap.size := hRl _ (.inr (.inr (.inl rfl)))
  refine (callsIn_wide (n := 1)).1 (callsIn_of_wp Try.func81 rfl trivial ?_ rfl)
  simp only [Try.ntmps81, List.size_toArray, List.length_cons, List.length_nil, Nat.reduceAdd, Nat.reduceSub, Array.replicate_succ, Array.replicate_zero, List.push_toArray, List.append_toArray, List.nil_append, List.cons_append]
  clear hatc hC hOR hRl hT hHW hf hL
  gi_wp2
  first | refine ⟨trivial, fun h => (by simp [Fence.wide] at h), ?_⟩ | refine ⟨trivial, ?_⟩
  refine HATC.out.mono ?_; rintro e w1 ⟨ho, hb1⟩
  rcases ho with ⟨h1, rfl⟩ | ⟨lv, l, v, h1, rfl, hown⟩
  · have hl0 : L = [] := by rw [HL.out]; unfold runP; rw [h1]
    have HL0 := hid hl0
    have HB1 := hid hb1
    clear h1 hl0 hb1
    gi_wp2
    go_end0
    have hB := below_al HB1.out (Obj.cells #[.int .i64 0, .slice none 0 0] 79)
    refine ⟨⟨_, rfl⟩, O, Mv.of_below hB, fun k hk => .inl hk, .inl ⟨?_, HST.out _ (Mv.of_below hB)⟩⟩
    rw [HL0.out]
    exact HC.out.stable.2 _ _ _ _ h0 (Mv.of_below hB)
  · obtain ⟨A, c, rfl, hcc, hrd, hnc, hsp⟩ := own_shape hown
    obtain ⟨hlv, h16, hov, hri, _⟩ := at_facts h1
    have hLe : L = (walkP f key lv l).1 := by rw [HL.out]; unfold runP; rw [h1]
    obtain ⟨w2, hw2⟩ : ∃ w2, w2 = w1.alloc (Obj.cells #[.int .i64 (lv : Int), .slice A l.length c] 79) := ⟨_, rfl⟩
    have hal : Below w1.heap.size w1 w2 := by rw [hw2]; exact below_al (below_rf w1) _
    have hnod : w2.heap[w1.heap.size]? = some (Obj.cells #[.int .i64 (lv : Int), .slice A l.length c] 79 (0, 0)) := by rw [hw2]; exact heap_new w1 _
    have n0 : w2.cell? ⟨w1.heap.size, 0, none⟩ = some (.int .i64 (lv : Int)) := by rw [Go.Lib.cell_of_heap hnod]; rfl
    have n1 : w2.cell? ⟨w1.heap.size, 1, none⟩ = some (.slice A l.length c) := by rw [Go.Lib.cell_of_heap hnod]; rfl
    have hbW2 := below_tr hb1 hal
    have cs2 : w2.cell? ⟨Bs, 0, none⟩ = _ := (hbW2.cell (p := ⟨Bs, 0, none⟩) hsB).trans HCS.out
    have ck2 : w2.cell? ⟨Bk, 0, none⟩ = _ := (hbW2.cell (p := ⟨Bk, 0, none⟩) hkB).trans HCK.out
    have hwk := walk_all lp hb mb n f HF.out key (encI L) L.length (fromR Bs Br Bk hb mb) W.heap.size J Jx (.inr (.inr (.inr (.inl rfl)))) (.inr (.inr (.inr (.inr rfl)))) HRL.out HC.out lv hlv l A c 0 O w2 (right_ok hri) h16 hcc hnc
      (fun h x hx => okVal_len (hov x hx) h) (hrd.below hal)
      (fun b o e h => by
        have h1 := (hsp _ e).2.1
        have h2 := HC.out.stable.1 _ _ _ h0 _ h
        have : W.heap.size ≤ b := h1
        omega)
      (fun a e => ⟨(hsp a e).1, by have := (hsp a e).2.2; have := hal.size; omega⟩) (HHW.out.below hbW2) HOR.out hbW2.size (by rw [← hLe]; exact enc_of L) (by rw [← hLe]; omega) (HC.out.stable.2 _ _ _ _ h0 (Mv.of_below hbW2))
    rw [← hLe] at hwk
    have HWK := hid (callsIn_wide (n := 0) |>.2 hwk)
    have HBW2 := hid hbW2
    clear hwk hown hrd hnod hb1 hal hsp hnc hov hri hLe hcc
    subst hw2
    gi_wp2
    first | refine ⟨trivial, fun h => (by simp [Fence.wide] at h), ?_⟩ | refine ⟨trivial, ?_⟩
    refine HWK.out.mono ?_
    rintro e w3 ⟨O3, hm3, hs3, hcase⟩
    have HM3 := hid ((Mv.of_below HBW2.out).trans hm3 (O := O) (fun _ h => h) (fun _ _ h => h))
    have HS3 : Hid (∀ k, O3 k → O k ∨ W.heap.size ≤ k) := hid (fun k hk => by
      rcases hs3 k hk with h | h
      · exact .inl h
      · have := HBW2.out.size; exact .inr (by omega))
    have HCA := hid hcase
    clear hm3 hs3 hcase
    rcases HCA.out with ⟨rfl, hj⟩ | ⟨rfl, q, hq1, hq2, hj⟩
    · have HJ := hid hj
      clear hj
      gi_wp2
      go_end0
      exact ⟨⟨_, rfl⟩, O3, HM3.out.mono (fun _ _ h => .inl h), HS3.out, .inl ⟨by have := HJ.out; rwa [Nat.zero_add] at this, HST.out _ HM3.out⟩⟩
    · have HJ := hid hj
      clear hj
      gi_wp2
      go_end0
      exact ⟨⟨_, rfl⟩, O3, HM3.out.mono (fun _ _ h => .inl h), HS3.out, .inr ⟨q, by omega, HJ.out, HST.out _ HM3.out⟩⟩
/-- A function value is a run over pairs that only reads. -/
def RunQ (gf : Nat) (lb : Array Value) (ys : List Itm) (W : World) : Prop := ∃ R T, Iter Try.prog gf lb (encI ys) ys.length R T ∧ (∀ k, R k → k < W.heap.size) ∧ T 0 W ∧ (∀ i j W1 W2, T i W1 → T j W2 → ∀ k, R k → W2.heap[k]? = W1.heap[k]?) ∧ ∀ i W, T i W → T 0 W
theorem RunQ.below {gf : Nat} {lb : Array Value} {ys : List Itm} {W W1 : World} (h : RunQ gf lb ys W) (hb : Below W.heap.size W W1) : RunQ gf lb ys W1 := by
  obtain ⟨R, T, h1, h2, h3, h4, h5⟩ := h
  exact ⟨R, T, h1, fun k hk => Nat.lt_of_lt_of_le (h2 k hk) hb.size, h1.keeps _ _ _ h3 (Mv.of_below hb), h4, h5⟩
theorem listq_any (gf : Nat) (lb : Array Value) (eg : ∀ args w, (callFunc gf args).run Try.prog w = .ok (.enter gf args) w) (ys : List Itm) (hl : ys.length ≤ 1000000000) (w : World) (hq : RunQ gf lb ys w) :
    Calls Try.prog 19 #[.func (.func gf) #[] lb] w fun e w' => (∃ v, e = .returned v ∧ w'.ownsRow w.heap.size 75 2 v ys.length (its ys)) ∧ Below w.heap.size w w' := by
  obtain ⟨R, T, h1, h2, h3, h4, h5⟩ := hq
  refine (list_iter gf lb eg ys hl R T h1 w h2 h3).mono ?_
  rintro e w' ⟨ho, hm, ht⟩
  exact ⟨ho, hm.quiet (fun k hk => h4 _ _ _ _ h3 ht k hk)⟩
theorem from_any (S : Value) (hb : Nat) (hS : S = .iface 32 (.pointer (some ⟨hb, 0, none⟩))) (root key : List UInt8) (w : World) :
    Calls Try.prog 46 #[S, .string (Str root), .string (Str key)] w fun e w' => e = .returned (.func (.func 81) #[] #[.pointer (some ⟨w.heap.size, 0, none⟩), .pointer (some ⟨w.heap.size + 1, 0, none⟩), .pointer (some ⟨w.heap.size + 2, 0, none⟩)]) ∧ w' = ((w.alloc (Obj.cells #[S] 89)).alloc (Obj.cells #[.string (Str root)] 9)).alloc (Obj.cells #[.string (Str key)] 9) := by
  subst hS
  go_enter Try.func46, Try.ntmps46
  go_wp2
  go_ret
  exact ⟨rfl, rfl⟩
/-- prolly.from's value is a run over what the tree hands out. -/
theorem from_q (hb mb n : Nat) (f : Src) (hf : ∀ k s, f k = some s → s.length ≤ 1000000000) (root key : List UInt8) (hroot : root.length ≤ 1000000000) (w : World) (hH : HeapT w hb mb n f) :
    Calls Try.prog 46 #[.iface 32 (.pointer (some ⟨hb, 0, none⟩)), .string (Str root), .string (Str key)] w fun e w' => (∃ lb, e = .returned (.func (.func 81) #[] lb) ∧ RunQ 81 lb (runP f root key) w') ∧ Below w.heap.size w w' := by
  refine (from_any _ hb rfl root key w).mono ?_
  rintro e w' ⟨rfl, hw⟩
  have hB : Below w.heap.size w w' := by rw [hw]; exact below_al (below_al (below_al (below_rf w) _) _) _
  have c0 : w'.heap[w.heap.size]? = some (Obj.cells #[.iface 32 (.pointer (some ⟨hb, 0, none⟩))] 89 (0, 0)) := by rw [hw]; exact ((below_al (below_al (below_rf _) _) _).block _ (by simp)).trans (heap_new _ _)
  have c1 : w'.heap[w.heap.size + 1]? = some (Obj.cells #[.string (Str root)] 9 (0, 0)) := by rw [hw]; exact ((below_al (below_rf _) _).block _ (by simp)).trans (heap_new' _ _ (by simp))
  have c2 : w'.heap[w.heap.size + 2]? = some (Obj.cells #[.string (Str key)] 9 (0, 0)) := by rw [hw]; exact heap_new' _ _ (by simp)
  have hH' := hH.below hB
  refine ⟨⟨_, rfl, ⟨_, _, from_iter hb mb n _ _ _ f hf root key hroot w' hH' (by rw [Go.Lib.cell_of_heap c0]; rfl) (by rw [Go.Lib.cell_of_heap c1]; rfl) (by rw [Go.Lib.cell_of_heap c2]; rfl), ?_, fun k _ => rfl, fun i j W1 W2 h1 h2 k hk => (h2 k hk).trans (h1 k hk).symm, fun _ _ h => h⟩⟩, hB⟩
  intro k hk
  rcases hk with rfl | rfl | rfl | rfl | rfl
  · exact (Array.getElem?_eq_some_iff.1 c0).1
  · exact (Array.getElem?_eq_some_iff.1 c1).1
  · exact (Array.getElem?_eq_some_iff.1 c2).1
  · exact hH'.lt.1
  · exact hH'.lt.2
end Go.Proofs.Ytbggeccaoibleaa.W08
