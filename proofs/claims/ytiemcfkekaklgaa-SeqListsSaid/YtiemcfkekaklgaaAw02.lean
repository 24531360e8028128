/- The statements of layer 2 are awake. -/
import Derived.Test.YtiemcfkekaklgaaA02
set_option linter.unusedVariables false
set_option linter.unusedSimpArgs false
namespace Go.Proofs.Ytiemcfkekaklgaa.W02
open Go.RowKit Go.Shelf Go.Proofs.Ytiemcfkekaklgaa.Lib Go.Proofs.Ytiemcfkekaklgaa.Prs Go.Proofs.Ytiemcfkekaklgaa.Run Go.Proofs.Ytiemcfkekaklgaa.Runs Go.Proofs.Ytiemcfkekaklgaa.Stab Go.Proofs.Ytiemcfkekaklgaa.QTail Go.Proofs.Ytiemcfkekaklgaa.Lt
def lJ : List PrJ.Itm := [(2, [97]), (1, [98])]
theorem rev2 (a b : PrJ.Itm) : StabJ.revL [a, b] 0 1 = [b, a] := by
  rw [StabJ.revL.eq_1, if_pos (by omega), StabJ.revL.eq_1, if_neg (by omega)]
  rfl
theorem stable2 (lt : PrJ.Itm → PrJ.Itm → Bool) (a b : PrJ.Itm) (h : lt b a = false) : stable StabJ.d0 lt [a, b] = [a, b] := by
  unfold stable
  rw [blocks.eq_1, if_neg (by simp), merges.eq_1, if_neg (by simp)]
  show insS _ _ _ 0 2 1 = _
  rw [insS.eq_1, if_pos (by decide), insS.eq_1, if_neg (by decide), ins1.eq_1, if_pos (by decide), if_neg]
  show ¬ lt b a = true
  rw [h]; decide
theorem compact2 (e : PrJ.Itm → PrJ.Itm → Bool) (a b : PrJ.Itm) (h : e b a = false) : StabJ.compactL e [a, b] = [a, b] := by
  unfold StabJ.compactL
  rw [if_neg (by simp)]
  have h1 : StabJ.cpA e [a, b] 1 = 2 := by
    rw [StabJ.cpA.eq_1, if_pos (by simp), if_neg, StabJ.cpA.eq_1, if_neg (by simp)]
    · rfl
    · show ¬ e b a = true
      rw [h]; decide
  rw [h1, if_neg (by simp)]
theorem sortedJ : StabJ.sortedP (StabJ.ltC cmpJ) eqJ lJ = [(1, [98]), (2, [97])] := by
  unfold StabJ.sortedP
  show StabJ.compactL eqJ (stable StabJ.d0 (StabJ.ltC cmpJ) (StabJ.revL [(2, [97]), (1, [98])] 0 1)) = _
  rw [rev2, stable2 _ _ _ (by decide), compact2 _ _ _ (by decide)]
def l2 : List Itm := [([97], 1), ([98], 2)]
set_option maxRecDepth 100000 in
set_option maxHeartbeats 1600000 in
theorem awake_any (w : World) : Calls Try.prog 9 #[] w fun e w' => e = .returned (.bool true) ∧ Below w.heap.size w w' := by
  have hz : Str [97] = ⟨#[97]⟩ := Str_def _
  have hz2 : Str [98] = ⟨#[98]⟩ := Str_def _
  obtain ⟨w1, hw1⟩ : ∃ w1, w1 = w.alloc (Obj.cells #[.string ⟨#[97]⟩, .int .i64 1, .string ⟨#[98]⟩, .int .i64 2] 52) := ⟨_, rfl⟩
  have hb1 : Below w.heap.size w w1 := by rw [hw1]; exact below_al (below_rf w) _
  have hz1 : w1.heap.size = w.heap.size + 1 := by rw [hw1]; simp
  have hr1 : Rd w1 (some ⟨w.heap.size, 0, none⟩) (its l2) := by
    refine .inr ⟨_, _, rfl, fun j y hj => ?_⟩
    rw [hw1, World.cell?_alloc_at _ _ _ _ rfl, Nat.zero_add, ← hj]
    simp [its, l2, hz, hz2]
  have HPA := hid (pairs_any (some ⟨w.heap.size, 0, none⟩) 2 l2 (by decide) w1 hr1)
  have HB1 := hid hb1
  rw [show l2.length = 2 from rfl] at HPA
  clear hr1 hb1
  go_enter Try.func9, Try.ntmps9
  go_wp2_with fail
  rw [← hw1]
  clear hw1
  refine HPA.out.mono ?_; rintro e w2 ⟨⟨v, rfl, hown⟩, hb2⟩
  obtain ⟨A2, c2, rfl, hcc, hrd, hA, hsp⟩ := Rd.own' hown
  have HB2 := hid (below_tr HB1.out hb2)
  have hlt2 : ∀ b o, A2 = some ⟨b, o, none⟩ → b < w2.heap.size := by
    rintro b o rfl
    exact own_lt' hown b rfl
  have HLT2 := hid hlt2
  have HRD := hid hrd
  clear hb2 hown hrd hlt2
  go_wp2_with fail
  refine (of_any A2 2 c2 w2).mono ?_; rintro e w3 ⟨rfl, hw3⟩
  have hal : Below w2.heap.size w2 w3 := by rw [hw3]; exact below_al (below_rf w2) _
  have hz3 : w3.heap.size = w2.heap.size + 1 := by rw [hw3]; simp
  have hc3 : w3.cell? ⟨w2.heap.size, 0, none⟩ = some (.slice A2 2 c2) := by rw [hw3, World.cell?_alloc_at _ _ _ _ rfl]; rfl
  have hRl : ∀ k, ROf w2.heap.size A2 k → k < w3.heap.size := fun k hk => by
    rcases hk with h | ⟨b, o, e, h⟩
    · omega
    · have := HLT2.out b o e; omega
  have HLI := hid (list_iter 38 #[.pointer (some ⟨w2.heap.size, 0, none⟩)] (enters_of Try.func38 (by kernel_rfl) rfl) l2 (by decide) _ _ (of_iter w2.heap.size A2 c2 l2 (by decide) w3 hc3 (HRD.out.below hal) hRl) w3 hRl (fun k hk => rfl))
  have HB3 := hid (below_tr HB2.out hal)
  clear hw3 hal hc3 hRl
  go_wp2_with fail
  refine HLI.out.mono ?_; rintro e w4 ⟨⟨v, rfl, hown4⟩, hm4, hT4⟩
  have hb4 : Below w.heap.size w w4 := below_tr HB3.out (hm4.quiet hT4)
  obtain ⟨A4, c4, rfl, _, hrd4, _, _⟩ := Rd.own' hown4
  rw [show l2.length = 2 from rfl] at hown4 ⊢
  obtain ⟨w5, hw5⟩ : ∃ w5, w5 = w4.alloc (Obj.cells #[.int .i64 2, .string ⟨#[97]⟩, .int .i64 1, .string ⟨#[98]⟩] 59) := ⟨_, rfl⟩
  have hal5 : Below w4.heap.size w4 w5 := by rw [hw5]; exact below_al (below_rf w4) _
  have hr5 : Rd w5 (some ⟨w4.heap.size, 0, none⟩) (PrJ.its lJ) := by
    refine .inr ⟨_, _, rfl, fun j y hj => ?_⟩
    rw [hw5, World.cell?_alloc_at _ _ _ _ rfl, Nat.zero_add, ← hj]
    simp [PrJ.its, lJ, hz, hz2]
  have HSO := hid (StabJ.sorted_any cmpJ eqJ cmpJ_ok eqJ_ok (some ⟨w4.heap.size, 0, none⟩) 2 lJ (by decide) (by intro h; cases h) (by intro a h; injection h with h; subst h; rfl) w5 hr5)
  rw [show lJ.length = 2 from rfl, sortedJ] at HSO
  have HB5 := hid (below_tr hb4 hal5)
  have HRD5 := hid (hrd4.below hal5)
  clear hb4 hown4 hrd4 hal5 hr5 hm4 hT4
  go_wp2_with fail
  rw [← hw5]
  clear hw5
  refine HSO.out.mono ?_; rintro e w6 ⟨⟨v, rfl, hown6⟩, hb6⟩
  obtain ⟨A6, c6, rfl, _, hrd6, _, _⟩ := Rd.own' hown6
  obtain ⟨b1, o1, rfl, hd1, hd2⟩ := rd_itm (HRD5.out.below hb6) (j := 1) (by decide)
  obtain ⟨b2, o2, rfl, he1, he2⟩ := PrJ.rd_itm hrd6 (j := 0) (by decide)
  rw [show (itm l2 1).2 = 2 from rfl] at hd2
  rw [show (PrJ.itm [((1 : Int), [(98 : UInt8)]), (2, [97])] 0).1 = 1 from rfl] at he1
  rw [show o1 + 1 * 2 + 1 = o1 + 3 by omega] at hd2
  rw [show o2 + 0 * 2 = o2 by omega] at he1
  have HB6 := hid (below_tr HB5.out hb6)
  simp only [List.length_cons, List.length_nil, Nat.zero_add, Nat.reduceAdd]
  clear hb6 hrd6 hown6 hd1 he2
  go_wp2
  go_ret
  exact ⟨rfl, HB6.out⟩
end Go.Proofs.Ytiemcfkekaklgaa.W02
