/- The walks of layer 8: right pairs, a map's tree. The walks of layer 8: a map's tree. -/
import Derived.Test.YtoidbgedpakjmaaW08
import Derived.Test.YtoidbgedpakjmaaOrd
set_option linter.unusedVariables false
set_option linter.unusedSimpArgs false
namespace Go.Proofs.Ytoidbgedpakjmaa.W08
open Go.RowKit Go.Proofs.Ytoidbgedpakjmaa.Lib Go.Proofs.Ytoidbgedpakjmaa.Sha Go.Proofs.Ytoidbgedpakjmaa.T07 Go.Proofs.Ytoidbgedpakjmaa.T08 Go.Proofs.Ytoidbgedpakjmaa.QTail Go.Proofs.Ytoidbgedpakjmaa.Bld Go.Proofs.Ytoidbgedpakjmaa.Itms Go.Proofs.Ytoidbgedpakjmaa.W01 Go.Proofs.Ytoidbgedpakjmaa.W07 Go.Proofs.Ytoidbgedpakjmaa.WSeq
attribute [local go_sem] Str_size Str_toList Str_extract Str_append Str_get bt_nn bt_lt List.length_append take_rest sha_len two_len
def badS (x : Itm) : Bool := decide (2000 < x.1.length) || decide (8000 < x.2.length)
theorem bad_any (x : Itm) (w : World) :
    Calls Try.prog 35 #[.agg #[.string (Str x.1), .string (Str x.2)]] w fun e w' => e = .returned (.bool (badS x)) ∧ Below w.heap.size w w' := by
  go_enter Try.func35, Try.ntmps35
  by_cases h1 : 2000 < x.1.length
  · have h1b : decide ((2000 : Int) < (x.1.length : Int)) = true := decide_eq_true (by omega)
    have e : badS x = true := by simp [badS, h1]
    have HE := hid e
    clear e
    go_wp2
    go_ret
    exact ⟨by rw [HE.out]; rfl, below_al (below_rf w) _⟩
  · have h1b : decide ((2000 : Int) < (x.1.length : Int)) = false := decide_eq_false (by omega)
    have e : badS x = decide ((8000 : Int) < (x.2.length : Int)) := by simp only [badS, h1, decide_false, Bool.false_or]; apply decide_eq_decide.2; omega
    have HE := hid e
    clear e
    go_wp2
    go_ret
    exact ⟨by rw [HE.out]; rfl, below_al (below_rf w) _⟩
theorem index_any (A : Option Addr) (c : Nat) (l : List Itm) (hl : l.length ≤ 1000000000) (w : World) (hrd : Rd w A (its l)) :
    Calls Try.prog 53 #[.slice A l.length c, .func (.func 35) #[] #[]] w fun e w' => (∃ r : Int, e = .returned (.int .i64 r) ∧ (l.any badS = true → 0 ≤ r) ∧ (l.any badS = false → r < 0)) ∧ Below w.heap.size w w' := by
  have H0 := hid hrd
  clear hrd
  go_enter Try.func53, Try.ntmps53
  go_wp2
  go_loopw [8] (fun i wr => ∃ k : Nat, k ≤ l.length ∧ i = .int .i64 (k : Int) ∧ Hid ((l.take k).any badS = false) ∧ Below w.heap.size w wr) (fun i _ => l.length - (intOf i).toNat)
  case atStart => exact ⟨0, by omega, rfl, hid rfl, below_rf w⟩
  case round =>
    obtain ⟨k, hk, rfl, HA, hB⟩ := hrel
    by_cases hlt : k < l.length
    · obtain ⟨b, o, rfl, hc1, hc2⟩ := rd_itm (Rd.below H0.out hB) hlt
      go_wp2_with fail
      refine (bad_any (itm l k) _).mono ?_; rintro e w1 ⟨rfl, hb1⟩
      have hB1 := below_tr hB hb1
      cases hbk : badS (itm l k) with
      | true =>
        go_wp2
        go_ret
        refine ⟨⟨_, rfl, fun _ => by omega, fun h => ?_⟩, hB1⟩
        have : l.any badS = true := List.any_eq_true.2 ⟨itm l k, by rw [itm_eq l k hlt]; exact List.getElem_mem hlt, hbk⟩
        rw [this] at h; cases h
      | false =>
        go_wp2
        go_roundw
        case rel =>
          refine ⟨k + 1, by omega, by go_num, hid ?_, hB1⟩
          rw [take_itm l k hlt, List.any_append, HA.out]; simp [hbk]
        case measure => simp [intOf]; omega
    · obtain rfl : k = l.length := by omega
      rw [List.take_length] at HA
      go_wp2
      go_ret
      refine ⟨⟨_, rfl, fun h => ?_, fun _ => by omega⟩, hB⟩
      rw [HA.out] at h; cases h
theorem contains_any (A : Option Addr) (c : Nat) (l : List Itm) (hl : l.length ≤ 1000000000) (w : World) (hrd : Rd w A (its l)) :
    Calls Try.prog 34 #[.slice A l.length c, .func (.func 35) #[] #[]] w fun e w' => e = .returned (.bool (l.any badS)) ∧ Below w.heap.size w w' := by
  go_enter Try.func34, Try.ntmps34
  go_wp2_with fail
  refine (index_any A c l hl _ hrd).mono ?_; rintro e w1 ⟨⟨r, rfl, h1, h2⟩, hb⟩
  cases ha : l.any badS with
  | true =>
    have h3 := h1 ha
    have h4 : decide (0 ≤ r) = true := decide_eq_true h3
    go_wp2
    go_ret
    exact ⟨by rw [ha]; rfl, hb⟩
  | false =>
    have h3 := h2 ha
    have h4 : decide (0 ≤ r) = false := decide_eq_false (by omega)
    go_wp2
    go_ret
    exact ⟨by rw [ha]; rfl, hb⟩
def rightS (l : List Itm) : Bool := okS l && !l.any badS
theorem right_any (A : Option Addr) (c : Nat) (l : List Itm) (hl : l.length ≤ 1000000000) (w : World) (hlow : ∀ b o, A = some ⟨b, o, none⟩ → b < w.heap.size) (hrd : Rd w A (its l)) :
    Calls Try.prog 20 #[.slice A l.length c] w fun e w' => e = .returned (.bool (rightS l)) ∧ Below w.heap.size w w' := by
  have hbx := Boxed.new w 28 (.slice A l.length c)
  have hal := below_al (below_rf w) (Obj.cells #[.slice A l.length c] 28)
  have hri := rises_any w.heap.size A c l hl (w.alloc (.cells #[.slice A l.length c] 28)) (by simp) (fun b o e => by have := hlow b o e; simp; omega) hbx.cell (hrd.below hal)
  have HRI := hid hri
  clear hri
  go_enter Try.func20, Try.ntmps20
  go_wp2_with fail
  refine (of_any A l.length c w).mono ?_; rintro e w1 ⟨rfl, rfl⟩
  go_wp2_with fail
  refine HRI.out.mono ?_; rintro e w2 ⟨rfl, hb2⟩
  have hB2 := below_tr hal hb2
  cases hok : okS l with
  | true =>
    go_wp2_with fail
    refine (contains_any A c l hl w2 (hrd.below hB2)).mono ?_; rintro e w3 ⟨rfl, hb3⟩
    have hB3 := below_tr hB2 hb3
    have e9 : rightS l = !l.any badS := by simp [rightS, hok]
    have E9 := hid e9
    clear e9
    go_wp2
    go_ret
    exact ⟨by rw [E9.out]; rfl, hB3⟩
  | false =>
    have e9 : rightS l = false := by simp [rightS, hok]
    have E9 := hid e9
    clear e9
    go_wp2
    go_ret
    exact ⟨by rw [E9.out]; rfl, hB2⟩
end Go.Proofs.Ytoidbgedpakjmaa.W08
namespace Go.Proofs.Ytoidbgedpakjmaa.W08
open Go.RowKit Go.Proofs.Ytoidbgedpakjmaa.Lib Go.Proofs.Ytoidbgedpakjmaa.Sha Go.Proofs.Ytoidbgedpakjmaa.T07 Go.Proofs.Ytoidbgedpakjmaa.T08 Go.Proofs.Ytoidbgedpakjmaa.QTail Go.Proofs.Ytoidbgedpakjmaa.Bld Go.Proofs.Ytoidbgedpakjmaa.Itms Go.Proofs.Ytoidbgedpakjmaa.W01 Go.Proofs.Ytoidbgedpakjmaa.W07 Go.Proofs.Ytoidbgedpakjmaa.WSeq
attribute [local go_sem] Str_size Str_toList Str_extract Str_append Str_get bt_nn bt_lt List.length_append take_rest sha_len two_len
def treeS (l : List Itm) : List UInt8 × List (List UInt8) :=
  if l.length = 0 then (sha (nodeB 0 []), [nodeB 0 []]) else ((riseS 1 (levelS 0 l).1).1, (levelS 0 l).2 ++ (riseS 1 (levelS 0 l).1).2)
theorem own_fresh (w : World) (base : Nat) (e : TypeId) (n size : Nat) (xs : List Value) (hb : base ≤ w.heap.size) (hx : xs.length = n * size) (hn : n ≤ maxLen) : (w.alloc (.cells xs.toArray e)).ownsRow base e size (.slice (some ⟨w.heap.size, 0, none⟩) n n) n xs :=
  ⟨hx, .inr ⟨w.heap.size, n, xs.toArray, rfl, hb, heap_new w _, Nat.le_refl _, hn, by simpa using hx, by rw [List.toList_toArray, ← hx, List.take_length]⟩⟩
theorem right_fine (l : List Itm) (h : rightS l = true) : Fine l := by
  refine fine_mem.2 fun x hx => ?_
  simp only [rightS, Bool.and_eq_true, Bool.not_eq_true'] at h
  have h1 : badS x = false := by
    cases hb : badS x with
    | false => rfl
    | true => rw [List.any_eq_true.2 ⟨x, hx, hb⟩] at h; cases h.2
  simp only [badS, Bool.or_eq_false_iff, decide_eq_false_iff_not] at h1
  omega
theorem rise_len (level : Nat) : ∀ (k : Nat) (l : List Itm), l.length ≤ k → (riseGo k level l).2.length ≤ k * 1000000 ∨ 1000000 < l.length := by
  intro k l h
  by_cases hl : l.length ≤ 1000000
  · left
    induction k generalizing level l with
    | zero => simp [riseGo]
    | succ k ih =>
      rw [riseGo]
      by_cases h1 : l.length = 1
      · rw [if_pos h1]; simp
      · rw [if_neg h1]
        by_cases h2 : l.length = 0
        · have e : l = [] := List.eq_nil_of_length_eq_zero h2
          subst e
          have e1 : levelS level [] = ([], []) := level_nil level
          rw [e1]
          have := ih (level + 1) [] (by simp) (by simp)
          simp only [List.length_append, List.length_nil]; omega
        · have hc := cut_lt (l.map form) (by simp; omega)
          rw [List.length_map] at hc
          have e1 := level_len level l
          have e2 := level_len2 level l
          have := ih (level + 1) (levelS level l).1 (by omega) (by omega)
          simp only [List.length_append]; omega
  · right; omega
set_option maxHeartbeats 1600000 in
set_option maxRecDepth 100000 in
theorem build_any (A : Option Addr) (c : Nat) (l : List Itm) (hc : l.length ≤ c) (hl : l.length ≤ 1000000) (w : World) (hlow : ∀ b o, A = some ⟨b, o, none⟩ → b < w.heap.size) (hrd : Rd w A (its l)) :
    Calls Try.prog 8 #[.slice A l.length c] w fun e w' => ((rightS l = false ∧ e = .returned (.tuple #[.string (Str []), .slice none 0 0, .bool false])) ∨ (rightS l = true ∧ ∃ v, e = .returned (.tuple #[.string (Str (treeS l).1), v, .bool true]) ∧ w'.ownsRow w.heap.size 9 1 v (treeS l).2.length (strs (treeS l).2))) ∧ Below w.heap.size w w' := by
  have H0 := hid hrd
  clear hrd
  have hri := right_any A c l (by omega) w hlow H0.out
  have HRI := hid hri
  clear hri
  go_enter Try.func8, Try.ntmps8
  go_wp2_with fail
  refine HRI.out.mono ?_; rintro e w1 ⟨rfl, hb1⟩
  cases hr : rightS l with
  | false =>
    go_wp2
    go_ret3
    refine ⟨.inl ⟨hr, by rw [Str_nil]; rfl⟩, hb1⟩
  | true =>
    have hf := right_fine l hr
    by_cases h0 : l.length = 0
    · have el : l = [] := List.eq_nil_of_length_eq_zero h0
      subst el
      have hnd : (nodeB 0 []).length = 3 := rfl
      have HT : treeS [] = (sha (nodeB 0 []), [nodeB 0 []]) := rfl
      obtain ⟨nd, hndE⟩ : ∃ nd, nd = nodeB 0 [] := ⟨_, rfl⟩
      rw [← hndE] at hnd HT
      have hby := bytes_any 0 [] none 0 w1 (by omega) (by simp) (.inl rfl) hf
      rw [← hndE] at hby
      have HBY := hid hby
      have HTT := hid HT
      clear hby HT hndE
      go_wp2_with fail
      refine HBY.out.mono ?_; rintro e w2 ⟨rfl, hb2⟩
      go_wp2_with fail
      refine (print_any nd w2 (by omega)).mono ?_; rintro e w3 ⟨rfl, hb3⟩
      have hB3 := below_tr (below_tr hb1 hb2) hb3
      go_wp2
      go_ret3
      refine ⟨.inr ⟨hr, ?_⟩, below_al hB3 _⟩
      rw [HTT.out]
      exact ⟨_, rfl, own_fresh w3 w.heap.size 9 1 1 [.string (Str nd)] hB3.size rfl (by decide)⟩
    · have h0b : ((l.length : Int) == 0) = false := beq_eq_false_iff_ne.2 (by omega)
      have hlev := level_any 0 l A c w1 (by omega) hc hl (Rd.below H0.out hb1) hf (fun h => absurd h (by omega))
      have hll := level_len 0 l
      have hll2 := level_len2 0 l
      have hcp := cut_pos (l.map form) (by simp; omega)
      have hcl := cut_len (l.map form)
      rw [List.length_map] at hcl
      obtain ⟨hf1, hf2⟩ := level_fine 0 l hf
      have HT : treeS l = ((riseS 1 (levelS 0 l).1).1, (levelS 0 l).2 ++ (riseS 1 (levelS 0 l).1).2) := by rw [treeS, if_neg h0]
      obtain ⟨up, hup⟩ : ∃ up, up = (levelS 0 l).1 := ⟨_, rfl⟩
      obtain ⟨mk, hmk⟩ : ∃ mk, mk = (levelS 0 l).2 := ⟨_, rfl⟩
      rw [← hup] at HT hll hf1 hf2 hlev
      rw [← hmk] at HT hll2 hlev
      rw [← hll] at hcl hcp hll2
      have hrl := rise_len 1 up.length up (Nat.le_refl _)
      have hrl2 : (riseS 1 up).2.length ≤ 1000000 * 1000000 := by
        have : (riseS 1 up).2.length = (riseGo up.length 1 up).2.length := rfl
        have h3 : up.length * 1000000 ≤ 1000000 * 1000000 := Nat.mul_le_mul_right _ (by omega)
        omega
      obtain ⟨rt, hrt⟩ : ∃ rt, rt = (riseS 1 up).1 := ⟨_, rfl⟩
      obtain ⟨mr, hmr⟩ : ∃ mr, mr = (riseS 1 up).2 := ⟨_, rfl⟩
      rw [← hrt, ← hmr] at HT
      rw [← hmr] at hrl2
      have HTT := hid HT
      have HLEV := hid hlev
      have HF1 := hid hf1
      have HF2 := hid hf2
      have HRT := hid hrt
      have HMR := hid hmr
      have HL2 := hid hll2
      clear hlev hll hll2 hf1 hf2 hup hmk HT hrl hrt hmr
      go_wp2_with fail
      refine HLEV.out.mono ?_; rintro e w2 ⟨⟨v1, v2, rfl, ho1, ho2⟩, hb2⟩
      obtain ⟨A1, c1, rfl, hc1, hrd1, _, _⟩ := Rd.own' ho1
      have hB2 := below_tr hb1 hb2
      have hrise := rise_any 1 up A1 c1 w2 (by omega) (by omega) hc1 hcp (by omega) hrd1 HF1.out HF2.out
      rw [← HRT.out, ← HMR.out] at hrise
      have HRISE := hid hrise
      clear hrise hrd1
      go_wp2_with fail
      refine HRISE.out.mono ?_; rintro e w3 ⟨⟨v3, rfl, ho3⟩, hb3⟩
      obtain ⟨A3, c3, rfl, hc3, hrd3, hA3, hsp3⟩ := Rd.own' ho3
      have hB3 := below_tr hB2 hb3
      have hoN := own_base (own_of_below ho2 hb3) hb1.size
      have hmkl := HL2.out
      go_wp2_with (at_builtin; (refine wpList_appS ti_str (.tmp 33) (.tmp 34) (by rfl) (by rfl) w.heap.size A3 mr.length c3 (strs mr) (by rfl) (by rfl) hoN (by rw [strs_len, Nat.mul_one]) hrd3 hA3 hsp3 (strs_one mr) hB3 hB3.size (by omega) ?_; intro v' w4 ho4 hg4 hv4 hB4 hs4))
      go_wp2
      go_ret3
      refine ⟨.inr ⟨hr, ?_⟩, hB4⟩
      rw [HTT.out]
      refine ⟨_, rfl, ?_⟩
      rw [← strs_app, List.length_append]
      exact ho4
end Go.Proofs.Ytoidbgedpakjmaa.W08
