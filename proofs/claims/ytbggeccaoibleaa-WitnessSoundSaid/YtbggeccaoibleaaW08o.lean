/- The walks of layer 8: whether pairs are the same, whether two unlike texts have one fingerprint. -/
import Derived.Test.YtbggeccaoibleaaInj
import Derived.Test.YtbggeccaoibleaaW08w
import Derived.Test.YtbggeccaoibleaaW01e
set_option linter.unusedVariables false
set_option linter.unusedSimpArgs false
namespace Go.Proofs.Ytbggeccaoibleaa.W08
open Go.RowKit Go.Proofs.Ytbggeccaoibleaa.Lib Go.Proofs.Ytbggeccaoibleaa.Sha Go.Proofs.Ytbggeccaoibleaa.T07 Go.Proofs.Ytbggeccaoibleaa.T08 Go.Proofs.Ytbggeccaoibleaa.QTail Go.Proofs.Ytbggeccaoibleaa.Bld Go.Proofs.Ytbggeccaoibleaa.Itms Go.Proofs.Ytbggeccaoibleaa.W07 Go.Proofs.Ytbggeccaoibleaa.WSeq Go.Proofs.Ytbggeccaoibleaa.Mp Go.Proofs.Ytbggeccaoibleaa.Inj Go.Proofs.Ytbggeccaoibleaa.W01
attribute [local go_sem] Str_size Str_toList Str_extract Str_append Str_get bt_nn bt_lt List.length_append take_rest sha_len two_len
set_option maxRecDepth 100000 in
set_option maxHeartbeats 800000 in
theorem same_any (A B : Option Addr) (c d : Nat) (l m : List Itm) (hl : l.length ≤ 1000000000000) (hm : m.length ≤ 1000000000000) (w : World) (hrl : Rd w A (its l)) (hrm : Rd w B (its m)) :
    Calls Try.prog 21 #[.slice A l.length c, .slice B m.length d] w fun e w' => e = .returned (.bool (decide (l = m))) ∧ Below w.heap.size w w' := by
  have HRL := hid hrl
  have HRM := hid hrm
  clear hrl hrm
  go_enter Try.func21, Try.ntmps21
  by_cases hlen : l.length = m.length
  · have hb : ((l.length : Int) == (m.length : Int)) = true := beq_iff_eq.2 (by omega)
    have HLEN := hid hlen
    clear hlen
    go_wp2
    go_loopw [14] (fun i wr => ∃ k : Nat, k ≤ l.length ∧ i = .int .i64 (k : Int) ∧ Hid (l.take k = m.take k) ∧ Below w.heap.size w wr) (fun i _ => l.length - (intOf i).toNat)
    case atStart => exact ⟨0, by omega, rfl, hid rfl, below_rf w⟩
    case round =>
      obtain ⟨k, hk, rfl, HK, hB⟩ := hrel
      by_cases hlt : k < l.length
      · have hlt2 : k < m.length := by have := HLEN.out; omega
        obtain ⟨b, o, rfl, hc1, hc2⟩ := rd_itm (HRL.out.below hB) hlt
        obtain ⟨b2, o2, rfl, hd1, hd2⟩ := rd_itm (HRM.out.below hB) hlt2
        obtain ⟨xk, hxk⟩ : ∃ x, x = (itm l k).1 := ⟨_, rfl⟩
        obtain ⟨xv, hxv⟩ : ∃ x, x = (itm l k).2 := ⟨_, rfl⟩
        obtain ⟨yk, hyk⟩ : ∃ x, x = (itm m k).1 := ⟨_, rfl⟩
        obtain ⟨yv, hyv⟩ : ∃ x, x = (itm m k).2 := ⟨_, rfl⟩
        rw [← hxk] at hc1
        rw [← hxv] at hc2
        rw [← hyk] at hd1
        rw [← hyv] at hd2
        obtain ⟨w1, hw1⟩ : ∃ w1, w1 = wr.alloc (Obj.cells #[Value.string (Str xk), Value.string (Str xv)] 75) := ⟨_, rfl⟩
        have hal : Below wr.heap.size wr w1 := by rw [hw1]; exact below_al (below_rf wr) _
        have hx1 : w1.cell? ⟨wr.heap.size, 0, none⟩ = some (.string (Str xk)) := by rw [hw1, World.cell?_alloc_at _ _ _ _ rfl]; rfl
        have hx2 : w1.cell? ⟨wr.heap.size, 1, none⟩ = some (.string (Str xv)) := by rw [hw1, World.cell?_alloc_at _ _ _ _ rfl]; rfl
        have hy1 := (hal.cell (World.block_lt_of_cell? _ _ hd1)).trans hd1
        have hy2 := (hal.cell (World.block_lt_of_cell? _ _ hd2)).trans hd2
        have HB1 := hid (below_tr hB hal)
        have HXK := hid hxk
        have HXV := hid hxv
        have HYK := hid hyk
        have HYV := hid hyv
        clear hxk hxv hyk hyv hd1 hd2 hal hB
        go_wp2
        rw [← hw1]
        clear hw1
        by_cases e1 : xk = yk
        · by_cases e2 : xv = yv
          · have hst : l.take (k + 1) = m.take (k + 1) := by
              rw [take_itm l k hlt, take_itm m k hlt2, HK.out]
              congr 2
              exact Prod.ext (by rw [← HXK.out, ← HYK.out, e1]) (by rw [← HXV.out, ← HYV.out, e2])
            have HST := hid hst
            subst e1 e2
            clear hst
            go_quiet (fail)
            go_wp2
            go_roundw
            case rel => exact ⟨k + 1, by omega, by go_num, HST, below_drewN HB1.out _⟩
            case measure => simp [intOf]; omega
          · have hne : decide (l = m) = false := decide_eq_false (fun e => e2 (by rw [HXV.out, HYV.out, e]))
            have hxb : (xv == yv) = false := beq_eq_false_iff_ne.2 e2
            have HNE := hid hne
            subst e1
            clear hne e2
            go_quiet (fail)
            go_wp2
            go_ret
            exact ⟨by rw [HNE.out]; rfl, below_drewN HB1.out _⟩
        · have hne : decide (l = m) = false := decide_eq_false (fun e => e1 (by rw [HXK.out, HYK.out, e]))
          have hxb : (xk == yk) = false := beq_eq_false_iff_ne.2 e1
          have HNE := hid hne
          clear hne e1
          go_quiet (fail)
          go_wp2
          go_ret
          exact ⟨by rw [HNE.out]; rfl, below_drewN HB1.out _⟩
      · obtain rfl : k = l.length := by omega
        have e : l = m := by
          have := HK.out
          rwa [List.take_length, HLEN.out, List.take_length] at this
        have he : decide (l = m) = true := decide_eq_true e
        have HE := hid he
        clear e he
        go_wp2
        go_ret
        exact ⟨by rw [HE.out]; rfl, hB⟩
  · have hb : ((l.length : Int) == (m.length : Int)) = false := beq_eq_false_iff_ne.2 (by omega)
    have hne : decide (l = m) = false := decide_eq_false (fun e => hlen (by rw [e]))
    have HNE := hid hne
    clear hne hlen
    go_wp2
    go_ret
    exact ⟨by rw [HNE.out]; rfl, below_rf w⟩
set_option maxRecDepth 100000 in
set_option maxHeartbeats 1600000 in
theorem clash_any (A : Option Addr) (c : Nat) (l : List (List UInt8)) (hl : l.length ≤ 10000000000000) (hs : ∀ i, i < l.length → (sat l i).length ≤ 140737488351232) (w : World) (hrd : Rd w A (strs l)) :
    Calls Try.prog 22 #[.slice A l.length c] w fun e w' => (∃ r, e = .returned (.bool r) ∧ (r = false → NoC l l)) ∧ Below w.heap.size w w' := by
  have H0 := hid hrd
  have HS := hid hs
  clear hrd hs
  have hmm : ∀ W : World, (Instr.makeMap 85 none).run Try.prog W = .ok (.map (some W.heap.size)) (W.alloc (.map #[] 0)) := fun W => by kernel_rfl
  obtain ⟨w2, hw2⟩ : ∃ w2, w2 = w.alloc (.map #[] 0) := ⟨_, rfl⟩
  have hb2 : Below w.heap.size w w2 := by rw [hw2]; exact below_al (below_rf w) _
  have hM2 : MapT w2 w.heap.size 0 (fun _ => none) := by rw [hw2]; exact MapT.made w
  have HM2 := hid hM2
  clear hM2
  go_enter Try.func22, Try.ntmps22
  go_wp2
  rw [← hw2]
  clear hw2
  go_loopw [12] (fun i wr => ∃ (k n : Nat) (f : List UInt8 → Option (List UInt8)), k ≤ l.length ∧ n ≤ k ∧ i = .int .i64 (k : Int) ∧ Hid (MapT wr w.heap.size n f) ∧ Hid (∀ s ∈ l.take k, f (sha s) = some s) ∧ Below w.heap.size w wr) (fun i _ => l.length - (intOf i).toNat)
  case atStart => exact ⟨0, 0, _, by omega, by omega, rfl, HM2, hid (fun s h => by simp at h), hb2⟩
  case round =>
    obtain ⟨k, n, f, hk, hnk, rfl, HM, HF, hB⟩ := hrel
    by_cases hlt : k < l.length
    · obtain ⟨b, o, rfl, hc1⟩ := (Rd.below H0.out hB).str hlt
      have hsl := HS.out k hlt
      have htk := take_sat l k hlt
      obtain ⟨x, hx⟩ : ∃ x, x = sat l k := ⟨_, rfl⟩
      rw [← hx] at hc1 hsl htk
      have HTK := hid htk
      obtain ⟨p, hp⟩ : ∃ p, p = sha x := ⟨_, rfl⟩
      have hpr := print_ref_any x wr hsl
      rw [← hp] at hpr
      have hpl : p.length ≤ maxLen := by rw [hp]; exact sha_ok x
      have HP := hid hp
      clear hx htk hp
      go_wp2_with fail
      refine hpr.mono ?_; rintro e w5 ⟨rfl, hb5⟩
      have hB5 := below_tr hB hb5
      have hM5 := HM.out.below hb5
      have hlook := hM5.look p hpl
      obtain ⟨w6, hrun, hM6, hg6⟩ := hM5.put (by unfold maxLen; omega) p x hpl (by unfold maxLen; omega)
      have hB6 : Below w.heap.size w w6 := hB5.grown hg6 hB5.size (fun k hk => by injection hk with hk; omega)
      have HM6 := hid hM6
      clear hM6 hM5 hg6 hpr HM hb5
      cases hf : f p with
      | none =>
        rw [hf] at hlook
        have hnew : ∀ s ∈ l.take (k + 1), putF f p x (sha s) = some s := by
          intro s hs
          rw [HTK.out] at hs
          rcases List.mem_append.1 hs with hs | hs
          · have h1 := HF.out s hs
            rw [putF, if_neg (fun e => by rw [e, hf] at h1; cases h1)]
            exact h1
          · obtain rfl : s = x := by simpa using hs
            rw [putF, if_pos HP.out.symm]
        have HN := hid hnew
        clear hnew hf
        go_wp2
        go_roundw
        case rel => exact ⟨k + 1, n + 1, _, by omega, by omega, by go_num, HM6, HN, hB6⟩
        case measure => simp [intOf]; omega
      | some t =>
        rw [hf] at hlook
        by_cases htx : t = x
        · subst htx
          have hnew : ∀ s ∈ l.take (k + 1), putF f p t (sha s) = some s := by
            intro s hs
            rw [HTK.out] at hs
            rcases List.mem_append.1 hs with hs | hs
            · have h1 := HF.out s hs
              by_cases e : sha s = p
              · rw [putF, if_pos e, ← h1, e, hf]
              · rw [putF, if_neg e]; exact h1
            · obtain rfl : s = t := by simpa using hs
              rw [putF, if_pos HP.out.symm]
          have HN := hid hnew
          clear hnew hf
          go_wp2
          go_roundw
          case rel => exact ⟨k + 1, n + 1, _, by omega, by omega, by go_num, HM6, HN, hB6⟩
          case measure => simp [intOf]; omega
        · have hxb : (t == x) = false := beq_eq_false_iff_ne.2 htx
          clear hf hrun HM6 hB6
          go_wp2
          go_ret
          exact ⟨⟨true, rfl, fun h => by cases h⟩, hB5⟩
    · obtain rfl : k = l.length := by omega
      go_wp2
      go_ret
      refine ⟨⟨false, rfl, fun _ => ?_⟩, hB⟩
      intro a ha b hb e
      have h1 := HF.out a (by rw [List.take_length]; exact ha)
      have h2 := HF.out b (by rw [List.take_length]; exact hb)
      rw [e, h2] at h1
      injection h1 with h1
      exact h1.symm
end Go.Proofs.Ytbggeccaoibleaa.W08
