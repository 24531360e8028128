/- seq.Sorted over pairs of a text and a number. -/
import Derived.Test.YtiemcfkekaklgaaStabeI
import Derived.Test.YtiemcfkekaklgaaLt
import Derived.Test.YtiemcfkekaklgaaCompI
set_option linter.unusedVariables false
set_option linter.unusedSimpArgs false
namespace Go.Proofs.Ytiemcfkekaklgaa.StabI
open Go.RowKit Go.Shelf Go.Proofs.Ytiemcfkekaklgaa.Lib Go.Proofs.Ytiemcfkekaklgaa.Prs Go.Proofs.Ytiemcfkekaklgaa.Run Go.Proofs.Ytiemcfkekaklgaa.Stab Go.Proofs.Ytiemcfkekaklgaa.QTail
set_option maxRecDepth 100000 in
theorem sortst_any (base g cap cf : Nat) (cmp : Itm → Itm → Int) (hcf : CmpOk cf cmp) (eg : ∀ args w, (callFunc cf args).run Try.prog w = .ok (.enter cf args) w) (L : List Itm) (hl : L.length ≤ 1000000000) (w : World) (h : RowL w base g cap L) :
    Calls Try.prog 33 #[.slice (some ⟨g, 0, none⟩) L.length cap, .func (.func cf) #[] #[]] w fun e w' => (∃ v, e = .returned v) ∧ RowL w' base g cap (stable d0 (ltC cmp) L) ∧ Mv (fun k => k = g) w w' := by
  have HST := hid (stable_any base g cap cf cmp hcf eg L hl w h)
  clear h hcf
  go_enter Try.func33, Try.ntmps33
  go_wp2_with fail
  refine HST.out.mono ?_; rintro e w1 ⟨⟨v, rfl⟩, hr1, hm1⟩
  go_wp2
  go_end0
  exact ⟨⟨_, rfl⟩, hr1, hm1⟩
/-- as slices.Reverse goes -/
def revL (L : List Itm) (i j : Nat) : List Itm := if i < j then revL (swp d0 L i j) (i + 1) (j - 1) else L
termination_by j - i
theorem revL_len (n : Nat) : ∀ (i j : Nat) (L : List Itm), j - i ≤ n → (revL L i j).length = L.length := by
  induction n with
  | zero => intro i j L h; rw [revL, if_neg (by omega)]
  | succ n ih =>
    intro i j L h; rw [revL]; split
    · rw [ih _ _ _ (by omega), swp_len]
    · rfl
set_option maxRecDepth 100000 in
set_option maxHeartbeats 1600000 in
theorem reverse_any (base g cap : Nat) (L : List Itm) (hl : L.length ≤ 1000000000) (hl0 : 0 < L.length) (w : World) (h : RowL w base g cap L) :
    Calls Try.prog 32 #[.slice (some ⟨g, 0, none⟩) L.length cap] w fun e w' => (∃ v, e = .returned v) ∧ RowL w' base g cap (revL L 0 (L.length - 1)) ∧ Mv (fun k => k = g) w w' := by
  obtain ⟨n, hn⟩ : ∃ n, L.length = n + 1 := ⟨L.length - 1, by omega⟩
  have HN := hid hn
  rw [hn]
  have hl2 : n ≤ 1000000000 := by omega
  clear hn hl hl0
  go_enter Try.func32, Try.ntmps32
  go_wp2
  go_loopw [2, 3] (fun i j wr => ∃ (i' : Nat) (j' : Int), i' ≤ n + 1 ∧ -1 ≤ j' ∧ j' ≤ n ∧ i = .int .i64 (i' : Int) ∧ j = .int .i64 j' ∧ ∃ M : List Itm, Hid (M.length = n + 1) ∧ RowL wr base g cap M ∧ Hid (revL M i' j'.toNat = revL L 0 n) ∧ Hid (Mv (fun j => j = g) w wr)) (fun i j _ => n + 1 - (intOf i).toNat)
  case atStart => exact ⟨0, n, by omega, by omega, by omega, rfl, by simp, L, HN, h, hid rfl, hid (Mv.refl _ _)⟩
  case round =>
    clear h
    obtain ⟨i, j', hi, hj0, hj, rfl, rfl, M, HMl, hrow, HE, HM⟩ := hrel
    by_cases hlt : (i : Int) < j'
    · obtain ⟨j, rfl⟩ : ∃ j : Nat, j' = (j : Int) := ⟨j'.toNat, by omega⟩
      have hM := HMl.out
      have hL1 : j < n + 1 := by omega
      have hL2 : i < n + 1 := by omega
      obtain ⟨a1, a2⟩ := hrow.cells (i := i) (by omega)
      obtain ⟨b1, b2⟩ := hrow.cells (i := j) (by omega)
      obtain ⟨y, hy⟩ : ∃ y, y = itm M i := ⟨_, rfl⟩
      obtain ⟨z, hz⟩ : ∃ z, z = itm M j := ⟨_, rfl⟩
      have hswp : Hid (swp d0 M i j = (M.set i z).set j y) := hid (by rw [hy, hz]; rfl)
      rw [← hy] at a1 a2
      rw [← hz] at b1 b2
      have f1 := hrow.fro (i * 2)
      have f2 := hrow.fro (i * 2 + 1)
      have f3 := hrow.fro (j * 2)
      have f4 := hrow.fro (j * 2 + 1)
      have p1 := hrow.put (i := i) (by omega) z
      obtain ⟨c1, c2⟩ := p1.cells (i := j) (by rw [List.length_set]; omega)
      have e1 := p1.fro (j * 2)
      have e2 := p1.fro (j * 2 + 1)
      have P2 := hid (p1.put (i := j) (by rw [List.length_set]; omega) y)
      have hwi : IntKind.i64.wrap (i : Int) = (i : Int) := by rw [IntKind.wrap_i64]; omega
      have hwj : IntKind.i64.wrap (j : Int) = (j : Int) := by rw [IntKind.wrap_i64]; omega
      clear hy hz p1 hM hrow
      go_wp2
      go_region
      go_wp2
      go_roundw
      case rel =>
        refine ⟨i + 1, (j : Int) - 1, by omega, by omega, by omega, by simp, rfl, swp d0 M i j, hid (by rw [swp_len]; exact HMl.out), ?_, hid ?_, hid ?_⟩
        · rw [hswp.out]; exact P2.out
        · rw [← HE.out, Int.toNat_natCast, revL.eq_1 M i j, if_pos (by omega), show ((j : Int) - 1).toNat = j - 1 by omega]
        · exact HM.out.trans (O := fun j => j = g) (O2 := fun j => j = g) (mv_swap _ _ _ _ _ _ _ _ _ _) (fun _ h => h) (fun _ _ h => h)
      case measure => simp [intOf]; omega
    · have q1 : decide ((i : Int) < j') = false := decide_eq_false hlt
      go_wp2
      go_end0
      refine ⟨⟨_, rfl⟩, ?_, HM.out⟩
      try simp only [Nat.add_sub_cancel]
      rw [← HE.out, revL.eq_1, if_neg (by omega)]
      exact hrow
theorem ti_pairZ : TI Try.prog 24 49 2 24 := TI.of (by kernel_rfl) (by kernel_rfl) (by decide) (by decide)
set_option maxRecDepth 100000 in
set_option maxHeartbeats 1600000 in
theorem clone_any (A : Option Addr) (c : Nat) (L : List Itm) (hl : L.length ≤ 1000000000) (hA : A = none → L.length = 0 ∧ c = 0) (hsp : ∀ a, A = some a → a.spot = none) (w : World) (h : Rd w A (its L)) :
    Calls Try.prog 31 #[.slice A L.length c] w fun e w' => (∃ v, e = .returned v ∧ w'.ownsRow w.heap.size 49 2 v L.length (its L)) ∧ Below w.heap.size w w' := by
  go_enter Try.func31, Try.ntmps31
  cases A with
  | none =>
    obtain ⟨h0, rfl⟩ := hA rfl
    obtain rfl : L = [] := List.length_eq_zero_iff.1 h0
    have hq : ∀ W, (binOp BinOp.eql 24 (Value.slice none 0 0) (Value.slice none 0 0)).run Try.prog W = .ok (.bool true) W := fun W => by kernel_rfl
    go_wp2
    go_ret
    exact ⟨⟨_, rfl, own_nil _ _ _ _⟩, below_rf w⟩
  | some a =>
    have hone : ∀ u ∈ its L, u.oneCell' = true := its_one L
    have hlen := its_len L
    have hnews := hid (h.alloc (Obj.cells #[] 49))
    have HSP := hid hsp
    have hq : ∀ W, (binOp BinOp.eql 24 (Value.slice (some a) L.length c) (Value.slice none 0 0)).run Try.prog W = .ok (.bool false) W := fun W => by kernel_rfl
    clear h hA hsp
    go_wp2_with (at_builtin; (refine wpList_appS ti_pairZ (.tmp 5) (.tmp 6) (by rfl) (by rfl) w.heap.size (some a) L.length c (its L) (by rfl) (by rfl) (own_empty w 49 2) (by omega) hnews.out (by intro h; cases h) HSP.out hone (below_al (below_rf w) _) (by simp) (by omega) ?_; intro v7 w7 ho7 hg7 hv7 hB7 hz7))
    go_wp2
    go_ret
    exact ⟨⟨_, rfl, by simpa using ho7⟩, hB7⟩
set_option maxRecDepth 100000 in
theorem reverse_nil (A : Option Addr) (c : Nat) (w : World) :
    Calls Try.prog 32 #[.slice A 0 c] w fun e w' => (∃ v, e = .returned v) ∧ w' = w := by
  go_enter Try.func32, Try.ntmps32
  go_wp2
  go_loopw [2, 3] (fun i j wr => i = .int .i64 0 ∧ j = .int .i64 (-1) ∧ wr = w) (fun i j _ => 0)
  case atStart => exact ⟨rfl, rfl, rfl⟩
  case round =>
    obtain ⟨rfl, rfl, rfl⟩ := hrel
    go_wp2
    go_end0
    exact ⟨⟨_, rfl⟩, rfl⟩
set_option maxRecDepth 100000 in
theorem insort_nil (A : Option Addr) (c : Nat) (cmp : Value) (w : World) :
    Calls Try.prog 55 #[.slice A 0 c, .int .i64 0, .int .i64 0, cmp] w fun e w' => (∃ v, e = .returned v) ∧ w' = w := by
  go_enter Try.func55, Try.ntmps55
  go_wp2
  go_loopw [8] (fun i wr => i = .int .i64 1 ∧ wr = w) (fun i _ => 0)
  case atStart => exact ⟨rfl, rfl⟩
  case round =>
    obtain ⟨rfl, rfl⟩ := hrel
    go_wp2
    go_end0
    exact ⟨⟨_, rfl⟩, rfl⟩
set_option maxRecDepth 100000 in
theorem stable_nil (A : Option Addr) (c : Nat) (cmp : Value) (w : World) :
    Calls Try.prog 51 #[.slice A 0 c, .int .i64 0, cmp] w fun e w' => (∃ v, e = .returned v) ∧ w' = w := by
  go_enter Try.func51, Try.ntmps51
  go_wp2
  go_loopw [7, 8] (fun i j wr => i = .int .i64 0 ∧ j = .int .i64 20 ∧ wr = w) (fun i j _ => 0)
  case atStart => exact ⟨rfl, rfl, rfl⟩
  case round =>
    obtain ⟨rfl, rfl, rfl⟩ := hrel
    go_wp2_with fail
    refine (insort_nil A c cmp wr).mono ?_; rintro e w1 ⟨⟨v, rfl⟩, rfl⟩
    go_wp2
    go_loopw [6] (fun i wr => i = .int .i64 20 ∧ wr = w1) (fun i _ => 0)
    case atStart => exact ⟨rfl, rfl⟩
    case round =>
      obtain ⟨rfl, rfl⟩ := hrel
      go_wp2
      go_end0
      exact ⟨⟨_, rfl⟩, rfl⟩
set_option maxRecDepth 100000 in
theorem sortst_nil (A : Option Addr) (c : Nat) (cmp : Value) (w : World) :
    Calls Try.prog 33 #[.slice A 0 c, cmp] w fun e w' => (∃ v, e = .returned v) ∧ w' = w := by
  go_enter Try.func33, Try.ntmps33
  go_wp2_with fail
  refine (stable_nil A c cmp w).mono ?_; rintro e w1 ⟨⟨v, rfl⟩, rfl⟩
  go_wp2
  go_end0
  exact ⟨⟨_, rfl⟩, rfl⟩
set_option maxRecDepth 100000 in
theorem compact_nil (A : Option Addr) (c : Nat) (cmp : Value) (w : World) :
    Calls Try.prog 36 #[.slice A 0 c, cmp] w fun e w' => e = .returned (.slice A 0 c) ∧ w' = w := by
  go_enter Try.func36, Try.ntmps36
  go_wp2
  refine bodyPost_ret (results_tmp rfl _ _ _) rfl ?_
  exact ⟨rfl, rfl⟩
/-- seq.Sorted, plainly -/
def sortedP (lt e : Itm → Itm → Bool) (L : List Itm) : List Itm := compactL e (stable d0 lt (revL L 0 (L.length - 1)))
theorem sortedP_nil (lt e : Itm → Itm → Bool) : sortedP lt e [] = [] := by
  have h1 : (stable d0 lt (revL [] 0 0)).length = 0 := by rw [stable_len, revL_len _ _ _ _ (Nat.le_refl _)]; rfl
  unfold sortedP compactL
  rw [List.length_nil, Nat.zero_sub, if_pos (by omega)]
  exact List.length_eq_zero_iff.1 h1
theorem own_up {O : Nat → Prop} {W W' : World} {base base' : Nat} {e : TypeId} {size : Nat} {v : Value} {k : Nat} {xs : List Value} (h : W.ownsRow base e size v k xs) (hb : base' ≤ base) : W.ownsRow base' e size v k xs := by
  refine ⟨h.1, ?_⟩
  rcases h.2 with h | ⟨g, cap, cur, h1, h2, h3⟩
  · exact .inl h
  · exact .inr ⟨g, cap, cur, h1, Nat.le_trans hb h2, h3⟩
set_option maxRecDepth 100000 in
set_option maxHeartbeats 1600000 in
theorem sorted_any (cmp : Itm → Itm → Int) (e : Itm → Itm → Bool) (hcf : CmpOk 34 cmp) (hef : EqOk 37 e) (A : Option Addr) (c : Nat) (L : List Itm) (hl : L.length ≤ 1000000000) (hA : A = none → L.length = 0 ∧ c = 0) (hsp : ∀ a, A = some a → a.spot = none) (w : World) (h : Rd w A (its L)) :
    Calls Try.prog 11 #[.slice A L.length c] w fun r w' => (∃ v, r = .returned v ∧ w'.ownsRow w.heap.size 49 2 v (sortedP (ltC cmp) e L).length (its (sortedP (ltC cmp) e L))) ∧ Below w.heap.size w w' := by
  have HCL := hid (clone_any A c L (by omega) hA hsp w h)
  clear h hA hsp
  go_enter Try.func11, Try.ntmps11
  go_wp2_with fail
  refine HCL.out.mono ?_; rintro r w1 ⟨⟨v, rfl, hown⟩, hb1⟩
  have HB1 := hid hb1
  by_cases h0 : L.length = 0
  · obtain ⟨A1, c1, rfl⟩ := own_succ hown
    obtain rfl : L = [] := List.length_eq_zero_iff.1 h0
    have HO := hid hown
    simp only [List.length_nil] at *
    clear hown hb1
    go_wp2_with fail
    refine (reverse_nil A1 c1 w1).mono ?_; rintro r w2 ⟨⟨v, rfl⟩, rfl⟩
    go_wp2_with fail
    refine (sortst_nil A1 c1 _ w2).mono ?_; rintro r w3 ⟨⟨v, rfl⟩, rfl⟩
    go_wp2_with fail
    refine (compact_nil A1 c1 _ w3).mono ?_; rintro r w4 ⟨rfl, rfl⟩
    go_wp2
    go_ret
    rw [sortedP_nil]
    exact ⟨⟨_, rfl, HO.out⟩, HB1.out⟩
  · obtain ⟨g, cap, rfl, hge, _, _⟩ := own_Blk hown h0
    have hrow : RowL w1 w.heap.size g cap L := hown
    have HGE := hid hge
    obtain ⟨n, hn⟩ : ∃ n, n = L.length := ⟨_, rfl⟩
    have HRE := hid (reverse_any w.heap.size g cap L (by omega) (by omega) w1 hrow)
    have HN := hid hn
    rw [← hn] at HRE ⊢
    rw [← hn] at hl
    clear hown hb1 hge hrow hn h0
    go_wp2_with fail
    refine HRE.out.mono ?_; rintro r w2 ⟨⟨v, rfl⟩, hr2, hm2⟩
    have hlr : (revL L 0 (n - 1)).length = n := by rw [revL_len _ _ _ _ (Nat.le_refl _), HN.out]
    have HSO := hid (sortst_any w.heap.size g cap 34 cmp hcf (enters_of Try.func34 (by kernel_rfl) rfl) (revL L 0 (n - 1)) (by rw [hlr]; exact hl) w2 hr2)
    have HM2 := hid hm2
    rw [hlr] at HSO
    have HLR := hid hlr
    clear hr2 hm2 hlr
    go_wp2_with fail
    refine HSO.out.mono ?_; rintro r w3 ⟨⟨v, rfl⟩, hr3, hm3⟩
    have hls : (stable d0 (ltC cmp) (revL L 0 (n - 1))).length = n := by rw [stable_len, HLR.out]
    have HCO := hid (compact_any w.heap.size g cap 37 e hef (enters_of Try.func37 (by kernel_rfl) rfl) (stable d0 (ltC cmp) (revL L 0 (n - 1))) (by rw [hls]; omega) w3 hr3)
    have HM3 := hid hm3
    rw [hls] at HCO
    clear hr3 hm3 hls
    go_wp2_with fail
    refine HCO.out.mono ?_; rintro r w4 ⟨⟨v, rfl, ho4⟩, hm4⟩
    have HO4 := hid ho4
    have HM4 := hid hm4
    clear ho4 hm4
    go_wp2
    go_ret
    have hsp : sortedP (ltC cmp) e L = compactL e (stable d0 (ltC cmp) (revL L 0 (n - 1))) := by rw [HN.out]; rfl
    rw [hsp]
    refine ⟨⟨_, rfl, HO4.out⟩, ?_⟩
    have hm : Mv (fun k => k = g) w1 w4 := (HM2.out.trans HM3.out (O := fun k => k = g) (fun _ h => h) (fun _ _ h => h)).trans HM4.out (fun _ h => h) (fun _ _ h => h)
    exact HB1.out.trans (hm.below HB1.out.size (fun k hk e => by have := HGE.out; omega))
end Go.Proofs.Ytiemcfkekaklgaa.StabI
