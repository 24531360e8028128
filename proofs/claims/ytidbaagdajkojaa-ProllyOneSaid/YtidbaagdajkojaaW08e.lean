/- The walks of layer 8: levels, one above the other. -/
import Derived.Test.YtidbaagdajkojaaW08d
set_option linter.unusedVariables false
set_option linter.unusedSimpArgs false
namespace Go.Proofs.Ytidbaagdajkojaa.W08
open Go.RowKit Go.Proofs.Ytidbaagdajkojaa.Lib Go.Proofs.Ytidbaagdajkojaa.Sha Go.Proofs.Ytidbaagdajkojaa.T07 Go.Proofs.Ytidbaagdajkojaa.T08 Go.Proofs.Ytidbaagdajkojaa.QTail Go.Proofs.Ytidbaagdajkojaa.Bld Go.Proofs.Ytidbaagdajkojaa.Itms Go.Proofs.Ytidbaagdajkojaa.W01 Go.Proofs.Ytidbaagdajkojaa.W07
attribute [local go_sem] Str_size Str_toList Str_extract Str_append Str_get bt_nn bt_lt List.length_append take_rest sha_len two_len
theorem fine_mem {l : List Itm} : Fine l ↔ ∀ x ∈ l, x.1.length ≤ 1000000 ∧ x.2.length ≤ 1000000 := by
  constructor
  · intro h x hx
    obtain ⟨i, hi, rfl⟩ := List.mem_iff_getElem.1 hx
    have := h i hi
    rwa [itm_eq l i hi] at this
  · intro h i hi
    rw [itm_eq l i hi]
    exact h _ (List.getElem_mem hi)
theorem lastKey_le (l : List Itm) (h : ∀ x ∈ l, x.1.length ≤ 1000000 ∧ x.2.length ≤ 1000000) : (lastKey l).length ≤ 1000000 := by
  unfold lastKey
  rw [List.getD_eq_getElem?_getD]
  cases hq : l[l.length - 1]? with
  | none => simp
  | some x => exact (h x (List.mem_of_getElem? hq)).1
theorem levelGo_mem (level : Nat) : ∀ (ns : List Nat) (l : List Itm), (∀ x ∈ l, x.1.length ≤ 1000000 ∧ x.2.length ≤ 1000000) → ∀ x ∈ (levelGo level ns l).1, x.1.length ≤ 1000000 ∧ x.2.length = 40
  | [], l, _, x, hx => by simp [levelGo] at hx
  | n :: ns, l, h, x, hx => by
    simp only [levelGo] at hx
    rcases List.mem_cons.1 hx with rfl | hx
    · exact ⟨lastKey_le _ (fun y hy => h y (List.mem_of_mem_take hy)), by simp [upS, sha_len, be_len]⟩
    · exact levelGo_mem level ns (l.drop n) (fun y hy => h y (List.mem_of_mem_drop hy)) x hx
theorem level_fine (level : Nat) (l : List Itm) (h : Fine l) : Fine (levelS level l).1 ∧ ∀ i, i < (levelS level l).1.length → (itm (levelS level l).1 i).2.length = 40 := by
  have hm := levelGo_mem level (cutS (l.map form)) l (fine_mem.1 h)
  refine ⟨fine_mem.2 fun x hx => ?_, fun i hi => ?_⟩
  · have := hm x hx; omega
  · rw [itm_eq _ i hi]; exact (hm _ (List.getElem_mem hi)).2
theorem Rd_len0 {w : World} {A : Option Addr} (xs : List Value) (h : xs = []) : Rd w A xs := .inl h
set_option maxHeartbeats 1600000 in
set_option maxRecDepth 100000 in
theorem rise_any (level : Nat) (l : List Itm) (A : Option Addr) (c : Nat) (w : World) (h1 : 1 ≤ level) (hv : level ≤ 1000000) (hc : l.length ≤ c) (hl0 : 0 < l.length) (hl : l.length ≤ 1000000) (hrd : Rd w A (its l)) (hs : Fine l) (hs2 : ∀ i, i < l.length → (itm l i).2.length = 40) :
    Calls Try.prog 26 #[.int .i64 (level : Int), .slice A l.length c] w fun e w' => (∃ v2, e = .returned (.tuple #[.string (Str (riseS level l).1), v2]) ∧ w'.ownsRow w.heap.size 9 1 v2 (riseS level l).2.length (strs (riseS level l).2)) ∧ Below w.heap.size w w' := by
  have HS := hid hs
  have HS2 := hid hs2
  have H0 := hid hrd
  clear hs hs2 hrd
  go_enter Try.func26, Try.ntmps26
  go_wp2_with fail
  go_loopw [0, 1, 6] (fun zl x v wr => ∃ (lv : Nat) (cur : List Itm) (A' : Option Addr) (c' : Nat) (acc : List (List UInt8)), 1 ≤ lv ∧ lv + cur.length ≤ level + l.length ∧ 0 < cur.length ∧ acc.length + cur.length * 1000000 ≤ l.length * 1000000 ∧ zl = .int .i64 (lv : Int) ∧ x = .slice A' cur.length c' ∧ cur.length ≤ c' ∧ Hid (Rd wr A' (its cur)) ∧ Hid (Fine cur) ∧ Hid (∀ i, i < cur.length → (itm cur i).2.length = 40) ∧ wr.ownsRow w.heap.size 9 1 v acc.length (strs acc) ∧ Hid (riseS level l = ((riseS lv cur).1, acc ++ (riseS lv cur).2)) ∧ Below w.heap.size w wr) (fun _ x _ _ => slcLen x)
  case atStart => exact ⟨level, l, A, c, [], h1, by omega, hl0, by simp, rfl, rfl, hc, H0, HS, HS2, own_nil _ _ _ _, hid rfl, below_rf w⟩
  case round =>
    obtain ⟨lv, cur, A', c', acc, hlv, hlc, hc0, hac, rfl, rfl, hcc, HR, HF, HV, hown, HE, hB⟩ := hrel
    by_cases hone : cur.length = 1
    · have hr := rise_one lv cur hone
      obtain ⟨b, o, rfl, hq1, hq2⟩ := rd_itm HR.out (j := 0) hc0
      have hv40 := HV.out 0 hc0
      have e9 : riseS level l = ((itm cur 0).2.take 32, acc) := by
        rw [HE.out, hr, List.append_nil]; rfl
      have E9 := hid e9
      obtain ⟨q, hq⟩ : ∃ q, q = (itm cur 0).2 := ⟨_, rfl⟩
      rw [← hq] at hv40 hq2 E9
      have hb1 : ((cur.length : Int) == 1) = true := beq_iff_eq.2 (by omega)
      rw [Nat.zero_mul, Nat.add_zero] at hq2
      clear hr e9 hq hq1
      go_wp2
      go_ret2
      rw [E9.out]
      refine ⟨⟨_, rfl, hown⟩, hB⟩
    · have hm2 : 2 ≤ cur.length := by omega
      have hrm := rise_more lv cur hm2
      have hll := level_len lv cur
      have hll2 := level_len2 lv cur
      have hcl := cut_lt (cur.map form) (by simpa using hm2)
      have hcp := cut_pos (cur.map form) (by simp; omega)
      rw [List.length_map] at hcl
      obtain ⟨hf1, hf2⟩ := level_fine lv cur HF.out
      have hb1 : ((cur.length : Int) == 1) = false := beq_eq_false_iff_ne.2 (by omega)
      have hlev := level_any lv cur A' c' wr (by omega) hcc (by omega) HR.out HF.out (fun _ => HV.out)
      obtain ⟨up, hup⟩ : ∃ up, up = (levelS lv cur).1 := ⟨_, rfl⟩
      obtain ⟨mk, hmk⟩ : ∃ mk, mk = (levelS lv cur).2 := ⟨_, rfl⟩
      rw [← hup] at hrm hll hf1 hf2 hlev
      rw [← hmk] at hrm hll2 hlev
      rw [← hll] at hcl hcp
      rw [← hll] at hll2
      have HLEV := hid hlev
      have HRM := hid hrm
      have HL2 := hid hll2
      have HF1 := hid hf1
      have HF2 := hid hf2
      have hmkl : mk.length ≤ 1000000 := by omega
      clear hlev hrm hll hll2 hf1 hf2 hup hmk
      go_wp2_with fail
      refine HLEV.out.mono ?_; rintro e w2 ⟨⟨v1, v2, rfl, ho1, ho2⟩, hb2⟩
      obtain ⟨A2, c2, rfl, hc2, hrd2, hA2, hsp2⟩ := Rd.own' ho2
      have hown2 := own_of_below hown hb2
      have hB2 := below_tr hB hb2
      go_wp2_with (at_builtin; (refine wpList_appS ti_str (.tmp 18) (.tmp 19) (by rfl) (by rfl) w.heap.size A2 mk.length c2 (strs mk) (by rfl) (by rfl) hown2 (by rw [strs_len, Nat.mul_one]) hrd2 hA2 hsp2 (strs_one mk) hB2 hB2.size (by omega) ?_; intro v' w3 ho3 hg3 hv3 hB3 hs3))
      obtain ⟨A4, c4, rfl, hc4, hrd4, _, _⟩ := Rd.own' (own_grown ho1 hg3 (fun k hk1 hk2 => own_ne hown2 ho1 (by decide) k hk2 hk1))
      go_wp2
      go_roundw
      case rel =>
        have hll := HL2.out
        refine ⟨lv + 1, up, A4, c4, acc ++ mk, by omega, by omega, hcp, by simp; omega, by go_num, rfl, hc4, hid hrd4, HF1, HF2, ?_, ?_, hB3⟩
        · rw [← strs_app, List.length_append]; exact ho3
        · refine hid ?_
          rw [HE.out, HRM.out, List.append_assoc]
      case measure => exact hcl
end Go.Proofs.Ytidbaagdajkojaa.W08
