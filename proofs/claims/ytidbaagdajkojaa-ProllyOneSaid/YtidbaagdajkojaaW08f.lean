/- The walks of layer 8: right pairs, a map's tree. -/
import Derived.Test.YtidbaagdajkojaaW08e
import Derived.Test.YtidbaagdajkojaaWSeq
set_option linter.unusedVariables false
set_option linter.unusedSimpArgs false
namespace Go.Proofs.Ytidbaagdajkojaa.W08
open Go.RowKit Go.Proofs.Ytidbaagdajkojaa.Lib Go.Proofs.Ytidbaagdajkojaa.Sha Go.Proofs.Ytidbaagdajkojaa.T07 Go.Proofs.Ytidbaagdajkojaa.T08 Go.Proofs.Ytidbaagdajkojaa.QTail Go.Proofs.Ytidbaagdajkojaa.Bld Go.Proofs.Ytidbaagdajkojaa.Itms Go.Proofs.Ytidbaagdajkojaa.W01 Go.Proofs.Ytidbaagdajkojaa.W07 Go.Proofs.Ytidbaagdajkojaa.WSeq
attribute [local go_sem] Str_size Str_toList Str_extract Str_append Str_get bt_nn bt_lt List.length_append take_rest sha_len two_len
def badS (x : Itm) : Bool := decide (2000 < x.1.length) || decide (8000 < x.2.length)
theorem bad_any (x : Itm) (w : World) :
    Calls Try.prog 44 #[.agg #[.string (Str x.1), .string (Str x.2)]] w fun e w' => e = .returned (.bool (badS x)) ∧ Below w.heap.size w w' := by
  go_enter Try.func44, Try.ntmps44
  by_cases h1 : 2000 < x.1.length
  · have h1b : decide ((2000 : Int) < (x.1.length : Int)) = true := decide_eq_true (by omega)
    have e : badS x = true := by simp [badS, h1]
    have HE := hid e
    clear e
    go_wp2
    go_ret
    exact ⟨by rw [HE.out]; rfl, below_al (below_rf w) _⟩
  · have h1b : decide ((2000 : Int) < (x.1.length : Int)) = false := decide_eq_false (by omega)
    have e : badS x = decide ((8000 : Int) < (x.2.length : Int)) := by simp only [badS, h1, decide_false, Bool.false_or]; apply decide_eq_decide.2; omega
    have HE := hid e
    clear e
    go_wp2
    go_ret
    exact ⟨by rw [HE.out]; rfl, below_al (below_rf w) _⟩
theorem index_any (A : Option Addr) (c : Nat) (l : List Itm) (hl : l.length ≤ 1000000000) (w : World) (hrd : Rd w A (its l)) :
    Calls Try.prog 69 #[.slice A l.length c, .func (.func 44) #[] #[]] w fun e w' => (∃ r : Int, e = .returned (.int .i64 r) ∧ (l.any badS = true → 0 ≤ r) ∧ (l.any badS = false → r < 0)) ∧ Below w.heap.size w w' := by
  have H0 := hid hrd
  clear hrd
  go_enter Try.func69, Try.ntmps69
  go_wp2
  go_loopw [8] (fun i wr => ∃ k : Nat, k ≤ l.length ∧ i = .int .i64 (k : Int) ∧ Hid ((l.take k).any badS = false) ∧ Below w.heap.size w wr) (fun i _ => l.length - (intOf i).toNat)
  case atStart => exact ⟨0, by omega, rfl, hid rfl, below_rf w⟩
  case round =>
    obtain ⟨k, hk, rfl, HA, hB⟩ := hrel
    by_cases hlt : k < l.length
    · obtain ⟨b, o, rfl, hc1, hc2⟩ := rd_itm (Rd.below H0.out hB) hlt
      go_wp2_with fail
      refine (bad_any (itm l k) _).mono ?_; rintro e w1 ⟨rfl, hb1⟩
      have hB1 := below_tr hB hb1
      cases hbk : badS (itm l k) with
      | true =>
        go_wp2
        go_ret
        refine ⟨⟨_, rfl, fun _ => by omega, fun h => ?_⟩, hB1⟩
        have : l.any badS = true := List.any_eq_true.2 ⟨itm l k, by rw [itm_eq l k hlt]; exact List.getElem_mem hlt, hbk⟩
        rw [this] at h; cases h
      | false =>
        go_wp2
        go_roundw
        case rel =>
          refine ⟨k + 1, by omega, by go_num, hid ?_, hB1⟩
          rw [take_itm l k hlt, List.any_append, HA.out]; simp [hbk]
        case measure => simp [intOf]; omega
    · obtain rfl : k = l.length := by omega
      rw [List.take_length] at HA
      go_wp2
      go_ret
      refine ⟨⟨_, rfl, fun h => ?_, fun _ => by omega⟩, hB⟩
      rw [HA.out] at h; cases h
theorem contains_any (A : Option Addr) (c : Nat) (l : List Itm) (hl : l.length ≤ 1000000000) (w : World) (hrd : Rd w A (its l)) :
    Calls Try.prog 43 #[.slice A l.length c, .func (.func 44) #[] #[]] w fun e w' => e = .returned (.bool (l.any badS)) ∧ Below w.heap.size w w' := by
  go_enter Try.func43, Try.ntmps43
  go_wp2_with fail
  refine (index_any A c l hl _ hrd).mono ?_; rintro e w1 ⟨⟨r, rfl, h1, h2⟩, hb⟩
  cases ha : l.any badS with
  | true =>
    have h3 := h1 ha
    have h4 : decide (0 ≤ r) = true := decide_eq_true h3
    go_wp2
    go_ret
    exact ⟨by rw [ha]; rfl, hb⟩
  | false =>
    have h3 := h2 ha
    have h4 : decide (0 ≤ r) = false := decide_eq_false (by omega)
    go_wp2
    go_ret
    exact ⟨by rw [ha]; rfl, hb⟩
def rightS (l : List Itm) : Bool := okS l && !l.any badS
theorem right_any (A : Option Addr) (c : Nat) (l : List Itm) (hl : l.length ≤ 1000000000) (w : World) (hlow : ∀ b o, A = some ⟨b, o, none⟩ → b < w.heap.size) (hrd : Rd w A (its l)) :
    Calls Try.prog 22 #[.slice A l.length c] w fun e w' => e = .returned (.bool (rightS l)) ∧ Below w.heap.size w w' := by
  have hbx := Boxed.new w 30 (.slice A l.length c)
  have hal := below_al (below_rf w) (Obj.cells #[.slice A l.length c] 30)
  have hri := rises_any w.heap.size A c l hl (w.alloc (.cells #[.slice A l.length c] 30)) (by simp) (fun b o e => by have := hlow b o e; simp; omega) hbx.cell (hrd.below hal)
  have HRI := hid hri
  clear hri
  go_enter Try.func22, Try.ntmps22
  go_wp2_with fail
  refine (of_any A l.length c w).mono ?_; rintro e w1 ⟨rfl, rfl⟩
  go_wp2_with fail
  refine HRI.out.mono ?_; rintro e w2 ⟨rfl, hb2⟩
  have hB2 := below_tr hal hb2
  cases hok : okS l with
  | true =>
    go_wp2_with fail
    refine (contains_any A c l hl w2 (hrd.below hB2)).mono ?_; rintro e w3 ⟨rfl, hb3⟩
    have hB3 := below_tr hB2 hb3
    have e9 : rightS l = !l.any badS := by simp [rightS, hok]
    have E9 := hid e9
    clear e9
    go_wp2
    go_ret
    exact ⟨by rw [E9.out]; rfl, hB3⟩
  | false =>
    have e9 : rightS l = false := by simp [rightS, hok]
    have E9 := hid e9
    clear e9
    go_wp2
    go_ret
    exact ⟨by rw [E9.out]; rfl, hB2⟩
end Go.Proofs.Ytidbaagdajkojaa.W08
