/- The walks of layer 10: the changes, one behind the other, handed to what gathers them. -/
import Derived.Test.YtoidbgedpakjmaaD10z
set_option linter.unusedVariables false
set_option linter.unusedSimpArgs false
namespace Go.Proofs.Ytoidbgedpakjmaa.D10
open Go Go.RowKit Go.Proofs.Ytoidbgedpakjmaa.Lib Go.Proofs.Ytoidbgedpakjmaa.Sha Go.Proofs.Ytoidbgedpakjmaa.Itms Go.Proofs.Ytoidbgedpakjmaa.T08 Go.Proofs.Ytoidbgedpakjmaa.QTail Go.Proofs.Ytoidbgedpakjmaa.WSeq Go.Proofs.Ytoidbgedpakjmaa.Ord Go.Proofs.Ytoidbgedpakjmaa.W08 Go.Proofs.Ytoidbgedpakjmaa.Dif Go.Proofs.Ytoidbgedpakjmaa.Mp Go.Proofs.Ytoidbgedpakjmaa.Tree Go.Proofs.Ytoidbgedpakjmaa.Bld
attribute [local go_sem] Str_size Str_toList Str_extract
set_option maxRecDepth 100000 in
set_option maxHeartbeats 3200000 in
/-- one change is gathered -/
theorem gather_any (cb B : Nat) (v : Value) (acc : List JoinS.Bo) (x : JoinS.Bo) (hN : acc.length ≤ 1000000000) (w : World) (hcb : cb < B) (hB : B ≤ w.heap.size) (hc : w.heap[cb]? = some (Obj.cells #[v] 33 (0, 0))) (hown : w.ownsRow B 39 5 v acc.length (JoinS.bts acc)) :
    Calls Try.prog 18 #[.agg #[.string (Str x.1), .string (Str x.2.1), .string (Str x.2.2.1), .bool x.2.2.2.1, .bool x.2.2.2.2], .pointer (some ⟨cb, 0, none⟩)] w fun e w' => e = .returned (.bool true) ∧ ∃ v', w'.heap[cb]? = some (Obj.cells #[v'] 33 (0, 0)) ∧ w'.ownsRow B 39 5 v' (acc.length + 1) (JoinS.bts (acc ++ [x])) ∧ Run.Mv (fun k => k = cb ∨ v.ownBlock = some k) w w' := by
  obtain ⟨x1, x2, x3, x4, x5⟩ := x
  obtain ⟨w0, hw0⟩ : ∃ w0, w0 = w.alloc (Obj.cells #[.string (Str x1), .string (Str x2), .string (Str x3), .bool x4, .bool x5] 39) := ⟨_, rfl⟩
  have hb0 : Below w.heap.size w w0 := by rw [hw0]; exact below_al (below_rf w) _
  have hz0 : w0.heap.size = w.heap.size + 1 := by rw [hw0]; simp
  have hx0 : w0.heap[w.heap.size]? = some (Obj.cells #[.string (Str x1), .string (Str x2), .string (Str x3), .bool x4, .bool x5] 39 (0, 0)) := by rw [hw0]; exact heap_new _ _
  have hc0 := (hb0.block cb (by omega)).trans hc
  obtain ⟨Av, cv, rfl⟩ := own_succ hown
  have c0 : w0.cell? ⟨cb, 0, none⟩ = some (.slice Av acc.length cv) := by rw [Go.Lib.cell_of_heap hc0]; rfl
  have y0 : w0.cell? ⟨w.heap.size, 0, none⟩ = some (.string (Str x1)) := by rw [Go.Lib.cell_of_heap hx0]; rfl
  have y1 : w0.cell? ⟨w.heap.size, 1, none⟩ = some (.string (Str x2)) := by rw [Go.Lib.cell_of_heap hx0]; rfl
  have y2 : w0.cell? ⟨w.heap.size, 2, none⟩ = some (.string (Str x3)) := by rw [Go.Lib.cell_of_heap hx0]; rfl
  have y3 : w0.cell? ⟨w.heap.size, 3, none⟩ = some (.bool x4) := by rw [Go.Lib.cell_of_heap hx0]; rfl
  have y4 : w0.cell? ⟨w.heap.size, 4, none⟩ = some (.bool x5) := by rw [Go.Lib.cell_of_heap hx0]; rfl
  have HC0 := hid hc0
  have HO0 := hid (own_of_below hown hb0)
  have HZ0 := hid hz0
  have HB0 := hid hb0
  dsimp only
  rw [hw0] at c0 y0 y1 y2 y3 y4
  clear hown hb0 hz0 hx0 hc0 hc
  go_enter Try.func18, Try.ntmps18
  go_wp2_with (at_builtin; (rw [← hw0]; (refine wpList_app1 (w0 := w0) ti_chg (.tmp 4) (.tmp 6) (by rfl) (by rfl) B [.string (Str x1), .string (Str x2), .string (Str x3), .bool x4, .bool x5] 39 1 (by rfl) (by rw [HZ0.out] <;> rfl) HO0.out rfl (by simp [Value.oneCell']) (Below.refl _ _) (by have := HZ0.out; omega) (by omega) ?_); intro A7 c7 w7 ho7 hg7 hB7 hb7; have hs7 : w7.heap[cb]? = some (Obj.cells #[.slice Av acc.length cv] 33 (0, 0)) := (hB7.block cb hcb).trans HC0.out; have q0 : w7.cell? ⟨cb, 0, none⟩ = some (.slice Av acc.length cv) := (by rw [Go.Lib.cell_of_heap hs7]; rfl); have q1 : w7.frozen? ⟨cb, 0, none⟩ = false := Go.Lib.frozen_of_heap hs7 0))
  have HS7 := hid (heap_setCell_same w7 cb 0 _ _ (Value.slice A7 (acc.length + 1) c7) hs7)
  have HO7 := hid (own_setCell ho7 ⟨cb, 0, none⟩ (Value.slice A7 (acc.length + 1) c7) (fun e => by have h9 := own_block_base ho7 _ e; simp only at h9; omega))
  have HMV := hid (show Run.Mv (fun k => k = cb ∨ (Value.slice Av acc.length cv).ownBlock = some k) w (w7.setCell ⟨cb, 0, none⟩ (Value.slice A7 (acc.length + 1) c7)) from
    (((Run.Mv.of_below (O := fun _ => False) (HB0.out.alloc HB0.out.size _)).trans (Run.Mv.grown (O := fun k => k = cb ∨ (Value.slice Av acc.length cv).ownBlock = some k) hg7 (fun k hk _ => .inr hk)) (O := fun k => k = cb ∨ (Value.slice Av acc.length cv).ownBlock = some k) (fun _ h => h.elim) (fun _ _ h => h)).trans (Run.Mv.setCell (O := fun k => k = cb) w7 ⟨cb, 0, none⟩ _ rfl) (fun _ h => h) (fun _ _ h => .inl h)))
  clear ho7 hg7 hs7 q0 q1
  go_ret
  exact ⟨rfl, _, HS7.out, by rw [JoinS.bts_app]; exact HO7.out, HMV.out⟩
theorem valuesf_any (A : Option Addr) (n c : Nat) (w : World) :
    Calls Try.prog 32 #[.slice A n c] w fun e w' => e = .returned (.func (.func 52) #[] #[.pointer (some ⟨w.heap.size, 0, none⟩)]) ∧ w' = w.alloc (.cells #[.slice A n c] 33) := by
  go_enter Try.func32, Try.ntmps32
  go_wp2
  go_ret
  exact ⟨rfl, rfl⟩
set_option maxRecDepth 100000 in
set_option maxHeartbeats 3200000 in
/-- all changes are gathered -/
theorem values_any (cb vb : Nat) (A : Option Addr) (c : Nat) (C : List JoinS.Bo) (hN : C.length ≤ 1000000000) (w : World) (hcb : cb < w.heap.size) (hvb : vb < w.heap.size) (hne : cb ≠ vb) (hc : w.heap[cb]? = some (Obj.cells #[.slice none 0 0] 33 (0, 0))) (hv : w.heap[vb]? = some (Obj.cells #[.slice A C.length c] 33 (0, 0))) (hrd : Rd w A (JoinS.bts C)) (hA : ∀ b o, A = some ⟨b, o, none⟩ → b ≠ cb ∧ b < w.heap.size) :
    Calls Try.prog 52 #[.func (.func 18) #[] #[.pointer (some ⟨cb, 0, none⟩)], .pointer (some ⟨vb, 0, none⟩)] w fun e w' => (∃ v, e = .returned v) ∧ ∃ v', w'.heap[cb]? = some (Obj.cells #[v'] 33 (0, 0)) ∧ w'.ownsRow w.heap.size 39 5 v' C.length (JoinS.bts C) ∧ Run.Mv (fun k => k = cb) w w' := by
  have HC := hid hc
  have HV := hid hv
  have HRD := hid hrd
  have HAD := hid hA
  have v0 : w.cell? ⟨vb, 0, none⟩ = some (.slice A C.length c) := by rw [Go.Lib.cell_of_heap hv]; rfl
  clear hc hv hrd hA
  go_enter Try.func52, Try.ntmps52
  go_wp2
  go_loopw [7] (fun jv wr => ∃ (j : Nat) (v : Value), j ≤ C.length ∧ jv = .int .i64 (j : Int) ∧ Hid (wr.heap[cb]? = some (Obj.cells #[v] 33 (0, 0))) ∧ Hid (wr.ownsRow w.heap.size 39 5 v (C.take j).length (JoinS.bts (C.take j))) ∧ Hid (Run.Mv (fun k => k = cb) w wr)) (fun jv _ => C.length - (intOf jv).toNat)
  case atStart => exact ⟨0, _, by omega, rfl, HC, hid (own_nil _ _ _ _), hid (Run.Mv.refl _ _)⟩
  case round =>
    obtain ⟨j, v, hj, rfl, HCJ, HOJ, HMJ⟩ := hrel
    by_cases hlt : j < C.length
    · have hrj : Rd wr A (JoinS.bts C) := by
        rcases HRD.out with h | ⟨b, o, rfl, h⟩
        · exact .inl h
        · exact .inr ⟨b, o, rfl, fun i u hi => HMJ.out.cell (h i u hi) (HAD.out b o rfl).1⟩
      obtain ⟨ba, oa, rfl, p1, p2, p3, p4, p5⟩ := JoinS.rd_btd hrj hlt
      have htk : C.take (j + 1) = C.take j ++ [JoinS.btd C j] := JoinS.take_btd C j hlt
      obtain ⟨x, hx⟩ : ∃ x, x = JoinS.btd C j := ⟨_, rfl⟩
      rw [← hx] at p1 p2 p3 p4 p5 htk
      have hlj : (C.take j).length = j := by rw [List.length_take]; omega
      obtain ⟨w9, hw9⟩ : ∃ w9, w9 = wr.alloc (Obj.cells #[.string (Str x.1), .string (Str x.2.1), .string (Str x.2.2.1), .bool x.2.2.2.1, .bool x.2.2.2.2] 39) := ⟨_, rfl⟩
      have hb9 : Below wr.heap.size wr w9 := by rw [hw9]; exact below_al (below_rf wr) _
      have hn9 : w9.heap[wr.heap.size]? = some (Obj.cells #[.string (Str x.1), .string (Str x.2.1), .string (Str x.2.2.1), .bool x.2.2.2.1, .bool x.2.2.2.2] 39 (0, 0)) := by rw [hw9]; exact heap_new _ _
      have y0 : w9.cell? ⟨wr.heap.size, 0, none⟩ = some (.string (Str x.1)) := by rw [Go.Lib.cell_of_heap hn9]; rfl
      have y1 : w9.cell? ⟨wr.heap.size, 1, none⟩ = some (.string (Str x.2.1)) := by rw [Go.Lib.cell_of_heap hn9]; rfl
      have y2 : w9.cell? ⟨wr.heap.size, 2, none⟩ = some (.string (Str x.2.2.1)) := by rw [Go.Lib.cell_of_heap hn9]; rfl
      have y3 : w9.cell? ⟨wr.heap.size, 3, none⟩ = some (.bool x.2.2.2.1) := by rw [Go.Lib.cell_of_heap hn9]; rfl
      have y4 : w9.cell? ⟨wr.heap.size, 4, none⟩ = some (.bool x.2.2.2.2) := by rw [Go.Lib.cell_of_heap hn9]; rfl
      have HM9 := hid (HMJ.out.trans (Run.Mv.of_below (O := fun _ => False) hb9) (O := fun k => k = cb) (fun _ h => h) (fun _ _ h => h.elim))
      have hms := HMJ.out.size
      have HCALL := hid (gather_any cb w.heap.size v (C.take j) x (by omega) w9 hcb (by have := hb9.size; omega) ((hb9.block cb (by omega)).trans HCJ.out) (own_of_below HOJ.out hb9))
      have HTK := hid htk
      have HLJ := hid hlj
      have hbase := own_block_base HOJ.out
      have HBS := hid hbase
      rw [hw9] at y0 y1 y2 y3 y4
      clear hx hb9 hn9 htk hlj hrj hbase
      go_wp2_with fail
      rw [← hw9]
      (with_reducible refine HCALL.out.mono ?_); rintro e w10 ⟨rfl, v', g1, g2, g3⟩
      have HC10 := hid g1
      have HO10 := hid (show w10.ownsRow w.heap.size 39 5 v' (C.take (j + 1)).length (JoinS.bts (C.take (j + 1))) by rw [HTK.out, List.length_append, List.length_singleton]; exact g2)
      have HM10 := hid (HM9.out.trans g3 (O := fun k => k = cb) (fun _ h => h) (fun i hi h => by
        rcases h with h | h
        · exact h
        · have := HBS.out i h; omega))
      clear g1 g2 g3 HCALL hw9 y0 y1 y2 y3 y4
      go_wp2
      go_roundw
      case rel => exact ⟨j + 1, v', by omega, by go_num, HC10, HO10, HM10⟩
      case measure => simp [intOf]; omega
    · obtain rfl : j = C.length := by omega
      have ho := HOJ.out
      rw [List.take_length] at ho
      have HO := hid ho
      clear ho
      go_wp2
      go_end0
      exact ⟨⟨_, rfl⟩, v, HCJ.out, HO.out, HMJ.out⟩
theorem changesf_any (hb : Nat) (a b : List UInt8) (w : World) :
    Calls Try.prog 17 #[.iface 31 (.pointer (some ⟨hb, 0, none⟩)), .string (Str a), .string (Str b)] w fun e w' => e = .returned (.func (.func 31) #[] #[.pointer (some ⟨w.heap.size, 0, none⟩), .pointer (some ⟨w.heap.size + 1, 0, none⟩), .pointer (some ⟨w.heap.size + 2, 0, none⟩)]) ∧ w' = ((w.alloc (.cells #[.iface 31 (.pointer (some ⟨hb, 0, none⟩))] 68)).alloc (.cells #[.string (Str a)] 9)).alloc (.cells #[.string (Str b)] 9) := by
  go_enter Try.func17, Try.ntmps17
  go_wp2
  go_ret
  exact ⟨by first | rfl | simp, rfl⟩
/-- what is told, or nothing -/
def toldC (r : Option (List Itm × List Itm)) : List JoinS.Bo := match r with
  | none => []
  | some q => diffS q.1 q.2
set_option maxRecDepth 100000 in
set_option maxHeartbeats 3200000 in
theorem changes_any (cb b0 b1 b2 hb mb n : Nat) (F : Src) (hq : SrcQ F) (a b : List UInt8) (ha : a.length ≤ 1000000000) (hbl : b.length ≤ 1000000000) (w : World) (hcb : cb < w.heap.size) (hc : w.heap[cb]? = some (Obj.cells #[.slice none 0 0] 33 (0, 0))) (hH : HeapT w hb mb n F) (hcl : (toldC (restsE F a b)).length ≤ 1000000000)
    (h0 : w.cell? ⟨b0, 0, none⟩ = some (.iface 31 (.pointer (some ⟨hb, 0, none⟩)))) (h1 : w.cell? ⟨b1, 0, none⟩ = some (.string (Str a))) (h2 : w.cell? ⟨b2, 0, none⟩ = some (.string (Str b))) :
    Calls Try.prog 31 #[.func (.func 18) #[] #[.pointer (some ⟨cb, 0, none⟩)], .pointer (some ⟨b0, 0, none⟩), .pointer (some ⟨b1, 0, none⟩), .pointer (some ⟨b2, 0, none⟩)] w fun e w' => (∃ v, e = .returned v) ∧ ∃ v', w'.heap[cb]? = some (Obj.cells #[v'] 33 (0, 0)) ∧ w'.ownsRow w.heap.size 39 5 v' (toldC (restsE F a b)).length (JoinS.bts (toldC (restsE F a b))) ∧ Run.Mv (fun k => k = cb) w w' := by
  have HD := hid (diff_any hb mb n F hq a b ha hbl w hH (by obtain ⟨g1, D, ⟨es, clock, g2, F, hs, hD⟩, h3⟩ := hH; exact (Array.getElem?_eq_some_iff.1 g1).1) (by obtain ⟨g1, D, ⟨es, clock, g2, F, hs, hD⟩, h3⟩ := hH; exact (Array.getElem?_eq_some_iff.1 g2).1))
  have HC := hid hc
  have HCL := hid hcl
  obtain ⟨R, hR⟩ : ∃ R, R = restsE F a b := ⟨_, rfl⟩
  rw [← hR] at HD HCL ⊢
  clear hc hH hq hcl hR
  go_enter Try.func31, Try.ntmps31
  go_wp2_with fail
  (with_reducible refine HD.out.mono ?_); rintro e w1 ⟨ho, hb1⟩
  have hex : ∃ (A : Option Addr) (c : Nat) (k : Int), e = .returned (.tuple #[.slice A (toldC R).length c, .int .i64 k]) ∧ w1.ownsRow w.heap.size 39 5 (.slice A (toldC R).length c) (toldC R).length (JoinS.bts (toldC R)) := by
    cases R with
    | none => exact ⟨none, 0, 6, ho, own_nil _ _ _ _⟩
    | some q =>
      obtain ⟨v, rfl, hown⟩ := ho
      obtain ⟨A, c, rfl⟩ := own_succ hown
      exact ⟨A, c, 0, rfl, hown⟩
  obtain ⟨A, c, k, rfl, hown⟩ := hex
  obtain ⟨C, hC⟩ : ∃ C, C = toldC R := ⟨_, rfl⟩
  rw [← hC] at hown HCL ⊢
  have HCE := hid hC
  have hbase := own_block_base hown
  have hlow := fun (b o : Nat) (e : A = some ⟨b, o, none⟩) => own_lt hown b (by rw [e]; rfl)
  obtain ⟨A', c', e1, _, hr1, _, _⟩ := Rd.own' hown
  injection e1 with e1 _ e2
  subst e1; subst e2
  obtain ⟨w2, hw2⟩ : ∃ w2, w2 = w1.alloc (Obj.cells #[.slice A C.length c] 33) := ⟨_, rfl⟩
  have hb2 : Below w1.heap.size w1 w2 := by rw [hw2]; exact below_al (below_rf w1) _
  have hz2 : w2.heap.size = w1.heap.size + 1 := by rw [hw2]; simp
  have hv2 : w2.heap[w1.heap.size]? = some (Obj.cells #[.slice A C.length c] 33 (0, 0)) := by rw [hw2]; exact heap_new _ _
  have hs1 := hb1.size
  have HVA := hid (values_any cb w1.heap.size A c C HCL.out w2 (by omega) (by omega) (by omega) (((hb1.trans (hb2.mono hb1.size)).block cb hcb).trans HC.out) hv2 (hr1.below hb2) (fun b o e => ⟨fun h => by have h9 := hbase b (by rw [e]; rfl); omega, by have h9 := hlow b o e; omega⟩))
  have HB2 := hid (hb1.trans (hb2.mono hb1.size))
  have HS2 := hid (show w.heap.size ≤ w2.heap.size by omega)
  clear hown hr1 hb1 hb2 hv2 HD ho hbase hlow hC
  go_wp2_with fail
  (with_reducible refine (valuesf_any A C.length c w1).mono ?_); rintro e w2' ⟨rfl, rfl⟩
  go_wp2_with fail
  rw [← hw2]
  (with_reducible refine HVA.out.mono ?_); rintro e w3 ⟨⟨v3, rfl⟩, v', g1, g2, g3⟩
  have G1 := hid g1
  have G2 := hid (own_base g2 HS2.out)
  have G3 := hid ((Run.Mv.of_below (O := fun _ => False) HB2.out).trans g3 (O := fun k => k = cb) (fun _ h => h.elim) (fun _ _ h => h))
  clear g1 g2 g3 HVA hw2
  go_wp2
  go_end0
  rw [← HCE.out]
  exact ⟨⟨_, rfl⟩, v', G1.out, G2.out, G3.out⟩
end Go.Proofs.Ytoidbgedpakjmaa.D10
