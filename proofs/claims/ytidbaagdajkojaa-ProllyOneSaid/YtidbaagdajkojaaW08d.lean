/- The walks of layer 8: levels. -/
import Derived.Test.YtidbaagdajkojaaW08c
set_option linter.unusedVariables false
set_option linter.unusedSimpArgs false
namespace Go.Proofs.Ytidbaagdajkojaa.W08
open Go.RowKit Go.Proofs.Ytidbaagdajkojaa.Lib Go.Proofs.Ytidbaagdajkojaa.Sha Go.Proofs.Ytidbaagdajkojaa.T07 Go.Proofs.Ytidbaagdajkojaa.T08 Go.Proofs.Ytidbaagdajkojaa.QTail Go.Proofs.Ytidbaagdajkojaa.Bld Go.Proofs.Ytidbaagdajkojaa.Itms Go.Proofs.Ytidbaagdajkojaa.W01 Go.Proofs.Ytidbaagdajkojaa.W07
attribute [local go_sem] Str_mk Str_size Str_toList Str_extract Str_append Str_get bt_nn bt_lt List.length_append take_rest sha_len two_len
theorem own_ne {w : World} {base base' n n' : Nat} {e e' : TypeId} {size size' : Nat} {v v' : Value} {xs xs' : List Value} (h : w.ownsRow base e size v n xs) (h' : w.ownsRow base' e' size' v' n' xs') (hne : e ≠ e') (k : Nat) (hk : v.ownBlock = some k) : v'.ownBlock ≠ some k := by
  intro hk'
  rcases h.2 with ⟨rfl, _⟩ | ⟨g, cap, cur, rfl, hb, hh, _⟩
  · simp [Value.ownBlock] at hk
  · rcases h'.2 with ⟨rfl, _⟩ | ⟨g', cap', cur', rfl, hb', hh', _⟩
    · simp [Value.ownBlock] at hk'
    · have e1 : g = k := by simpa [Value.ownBlock] using hk
      have e2 : g' = k := by simpa [Value.ownBlock] using hk'
      subst e1; subst e2
      rw [hh] at hh'
      injection hh' with hh'; injection hh' with _ hh'; exact hne hh'
theorem own_grown {w w1 : World} {base n : Nat} {e : TypeId} {size : Nat} {v : Value} {xs : List Value} {ob : Option Nat} (h : w.ownsRow base e size v n xs) (hg : w.grownBy w1 ob) (hne : ∀ k, v.ownBlock = some k → ob ≠ some k) : w1.ownsRow base e size v n xs := by
  refine ⟨h.1, ?_⟩
  rcases h.2 with ⟨rfl, h0⟩ | ⟨g, cap, cur, rfl, hb, hh, hr⟩
  · exact .inl ⟨rfl, h0⟩
  · refine .inr ⟨g, cap, cur, rfl, hb, ?_, hr⟩
    rw [hg.block g (Array.getElem?_eq_some_iff.1 hh).1 (fun e => hne g (by simp [Value.ownBlock]) e.symm), hh]
theorem own_base {w : World} {base base' n : Nat} {e : TypeId} {size : Nat} {v : Value} {xs : List Value} (h : w.ownsRow base e size v n xs) (hb : base' ≤ base) : w.ownsRow base' e size v n xs := by
  refine ⟨h.1, ?_⟩
  rcases h.2 with h0 | ⟨g, cap, cur, h1, h2, h3⟩
  · exact .inl h0
  · exact .inr ⟨g, cap, cur, h1, Nat.le_trans hb h2, h3⟩
theorem ti_pair : TI Try.prog 30 42 2 32 := TI.of Try.underlying30 (by kernel_rfl) (by decide) (by decide)
theorem sat_forms (l : List Itm) (k : Nat) (h : k < l.length) : sat (l.map form) k = form (itm l k) := by
  simp [sat, itm, List.getD_eq_getElem?_getD, h]
theorem short_forms (l : List Itm) (h : Fine l) : Short (l.map form) := by
  intro i hi
  have hi' : i < l.length := by simpa using hi
  obtain ⟨h1, h2⟩ := h i hi'
  rw [sat_forms l i hi', form_len]; omega
theorem cut_step (cs : List Nat) (r : List Itm) (k : Nat) (hk : k < cs.length) (h : cs.drop k = cutS (r.map form)) :
    0 < r.length ∧ nat cs k = partS (r.map form) ∧ cs.drop (k + 1) = cutS ((r.drop (nat cs k)).map form) := by
  have h0 : 0 < r.length := by
    rcases Nat.lt_or_ge 0 r.length with h1 | h1
    · exact h1
    · have : r = [] := List.eq_nil_of_length_eq_zero (by omega)
      subst this
      have := congrArg List.length h
      simp [cut_nil] at this; omega
  have h2 := cut_cons (r.map form) (by simpa using h0)
  rw [← h, List.drop_eq_getElem_cons hk] at h2
  injection h2 with h3 h4
  have h5 : nat cs k = partS (r.map form) := by rw [← h3]; simp [nat, List.getD_eq_getElem?_getD, hk]
  exact ⟨h0, h5, by rw [h4, h5, List.map_drop]⟩
theorem fine_sub (l : List Itm) (h : Fine l) (m n : Nat) : Fine ((l.drop m).take n) := by
  intro i hi
  simp only [List.length_take, List.length_drop] at hi
  have := h (m + i) (by omega)
  have e : itm ((l.drop m).take n) i = itm l (m + i) := by
    simp only [itm, List.getD_eq_getElem?_getD]
    rw [List.getElem?_take_of_lt (by omega), List.getElem?_drop]
  rw [e]; exact this
theorem val_sub (l : List Itm) (q : Nat) (h : ∀ i, i < l.length → (itm l i).2.length = q) (m n : Nat) : ∀ i, i < ((l.drop m).take n).length → (itm ((l.drop m).take n) i).2.length = q := by
  intro i hi
  simp only [List.length_take, List.length_drop] at hi
  have := h (m + i) (by omega)
  have e : itm ((l.drop m).take n) i = itm l (m + i) := by
    simp only [itm, List.getD_eq_getElem?_getD]
    rw [List.getElem?_take_of_lt (by omega), List.getElem?_drop]
  rw [e]; exact this
set_option maxHeartbeats 1600000 in
set_option maxRecDepth 100000 in
theorem level_any (level : Nat) (l : List Itm) (A : Option Addr) (c : Nat) (w : World) (hv : level ≤ 1000000000) (hc : l.length ≤ c) (hl : l.length ≤ 1000000) (hrd : Rd w A (its l)) (hs : Fine l) (hs2 : 0 < level → ∀ i, i < l.length → (itm l i).2.length = 40) :
    Calls Try.prog 25 #[.int .i64 (level : Int), .slice A l.length c] w fun e w' => (∃ v1 v2, e = .returned (.tuple #[v1, v2]) ∧ w'.ownsRow w.heap.size 42 2 v1 (levelS level l).1.length (its (levelS level l).1) ∧ w'.ownsRow w.heap.size 9 1 v2 (levelS level l).2.length (strs (levelS level l).2)) ∧ Below w.heap.size w w' := by
  have HS := hid hs
  have HS2 := hid hs2
  have H0 := hid hrd
  clear hs hs2 hrd
  go_enter Try.func25, Try.ntmps25
  go_wp2_with fail
  go_loopw [6, 17] (fun v i wr => ∃ k : Nat, k ≤ l.length ∧ i = .int .i64 (k : Int) ∧ wr.ownsRow w.heap.size 9 1 v k (strs ((l.take k).map form)) ∧ Below w.heap.size w wr) (fun _ i _ => l.length - (intOf i).toNat)
  case atStart => exact ⟨0, by omega, rfl, own_nil _ _ _ _, below_rf w⟩
  case round =>
    obtain ⟨k, hk, rfl, hown, hB⟩ := hrel
    by_cases hlt : k < l.length
    · obtain ⟨b, o, rfl, hc1, hc2⟩ := rd_itm (Rd.below H0.out hB) hlt
      obtain ⟨f1, f2⟩ := HS.out k hlt
      go_wp2_with fail
      refine (form_any (itm l k) _ (by omega) (by omega)).mono ?_; rintro e w5 ⟨rfl, hb5⟩
      have hb5' := below_tr (below_al (below_rf wr) _) hb5
      have hown5 := own_of_below hown hb5'
      have hB5 := below_tr hB hb5'
      go_wp2_with (at_builtin; go_loud (refine wpList_appN ti_str (.tmp 21) (.tmp 24) (by rfl) (by rfl) w.heap.size [.string (Str (form (itm l k)))] 9 1 1 (by rfl) (by rfl) hown5 (by rfl) (by simp [Value.oneCell']) hB5 hB5.size (by omega) ?_; intro A2 c2 w6 ho6 hg6 hB6 hsz6))
      go_wp2
      go_roundw
      case rel =>
        refine ⟨k + 1, by omega, by go_num, ?_, hB6⟩
        rw [take_itm l k hlt, List.map_append, ← strs_app]
        exact ho6
      case measure => simp [intOf]; omega
    · obtain rfl : k = l.length := by omega
      rw [List.take_length] at hown
      obtain ⟨A1, c1, rfl, hcc, hrd1, _, _⟩ := Rd.own' hown
      have hcut := cut_any (l.map form) A1 c1 wr (by simpa using hcc) (by rw [List.length_map]; omega) hrd1 (short_forms l HS.out)
      rw [List.length_map] at hcut
      have HCUT := hid hcut
      clear hcut hown hrd1
      go_wp2_with fail
      refine HCUT.out.mono ?_; rintro e w2 ⟨⟨v2, rfl, hown2⟩, hb2⟩
      obtain ⟨A3, c3, rfl, hc3, hrd3, _, _⟩ := Rd.own' hown2
      have hB2 := below_tr hB hb2
      have HRD3 := hid hrd3
      clear hrd3 hown2 HCUT hc3
      obtain ⟨cs, hcs⟩ : ∃ cs, cs = cutS (l.map form) := ⟨_, rfl⟩
      rw [← hcs] at HRD3 ⊢
      have hcl : cs.length ≤ l.length := by rw [hcs]; have := cut_len (l.map form); simpa using this
      have HCS := hid hcs
      clear hcs
      go_wp2
      go_loopw [1, 9, 10, 30] (fun x vu vn i wr => ∃ (k m : Nat) (A' : Option Addr) (c' : Nat) (ups : List Itm) (nods : List (List UInt8)), k ≤ cs.length ∧ m ≤ l.length ∧ i = .int .i64 (k : Int) ∧ x = .slice A' (l.length - m) c' ∧ l.length - m ≤ c' ∧ Hid (Rd w A' (its (l.drop m))) ∧ ups.length = k ∧ nods.length = k ∧ wr.ownsRow w2.heap.size 42 2 vu ups.length (its ups) ∧ wr.ownsRow w2.heap.size 9 1 vn nods.length (strs nods) ∧ Hid (cs.drop k = cutS ((l.drop m).map form)) ∧ Hid (levelS level l = (ups ++ (levelS level (l.drop m)).1, nods ++ (levelS level (l.drop m)).2)) ∧ Below w2.heap.size w2 wr) (fun _ _ _ i _ => cs.length - (intOf i).toNat)
      case atStart =>
        refine ⟨0, 0, A, c, [], [], by omega, by omega, rfl, rfl, hc, hid H0.out, rfl, rfl, own_nil _ _ _ _, own_nil _ _ _ _, hid HCS.out, hid rfl, below_rf w2⟩
      case round =>
        obtain ⟨k, m, A', c', ups, nods, hk, hm, rfl, rfl, hc', HR, hul, hnl, hou, hon, HC, HL, hB⟩ := hrel
        have hBw := below_tr hB2 hB
        by_cases hlt : k < cs.length
        · obtain ⟨b3, o3, rfl, hq3⟩ := (HRD3.out.below hB).nat hlt
          obtain ⟨hr0, hn1, hn2⟩ := cut_step cs (l.drop m) k hlt HC.out
          have hlev := level_cons level (l.drop m) hr0
          rw [← hn1, List.drop_drop] at hlev
          rw [List.drop_drop] at hn2
          have hple := (part_le ((l.drop m).map form)).1
          have hpos := part_pos ((l.drop m).map form) (by simpa using hr0)
          rw [← hn1, List.length_map, List.length_drop] at hple
          rw [← hn1] at hpos
          obtain ⟨n, hn⟩ : ∃ n, n = nat cs k := ⟨_, rfl⟩
          rw [← hn] at hlev hn2 hple hpos hq3
          have hup := up_any level ((l.drop m).take n) A' c' wr hv (by simp; omega) (by simp; omega) (by rw [its_take]; exact (Rd.below HR.out hBw).take _) (fine_sub l HS.out m n) (fun h0 => val_sub l 40 (HS2.out h0) m n)
          rw [show ((l.drop m).take n).length = n by simp; omega] at hup
          obtain ⟨b, o, rfl, _, _⟩ := rd_itm (Rd.below HR.out hBw) (j := 0) hr0
          have HUP := hid hup
          have HLEV := hid hlev
          have HN2 := hid hn2
          have HUL := hid hul
          have HNL := hid hnl
          have hupl : ups.length ≤ l.length := by omega
          have hnol : nods.length ≤ l.length := by omega
          clear hup hlev hn2 hul hnl hn1 hn hr0
          obtain ⟨xk, hxk⟩ : ∃ xk, xk = lastKey ((l.drop m).take n) := ⟨_, rfl⟩
          obtain ⟨xv, hxv⟩ : ∃ xv, xv = sha (nodeB level ((l.drop m).take n)) ++ be (countS level ((l.drop m).take n)) 8 := ⟨_, rfl⟩
          obtain ⟨nd, hnd⟩ : ∃ nd, nd = nodeB level ((l.drop m).take n) := ⟨_, rfl⟩
          rw [← hxk, ← hxv, ← hnd] at HUP
          have HXK := hid hxk
          have HXV := hid hxv
          have HND := hid hnd
          clear hxk hxv hnd
          go_wp2_with fail
          refine HUP.out.mono ?_; rintro e w5 ⟨rfl, hb5⟩
          have hB5 := below_tr hB hb5
          have hBw5 := below_tr hBw hb5
          have hou5 := own_of_below hou hb5
          have hon5 := own_of_below hon hb5
          have hal : Below w5.heap.size w5 (w5.alloc (Obj.cells #[Value.string (Str xk), Value.string (Str xv)] 42)) := below_al (below_rf w5) _
          have hou6 := own_of_below hou5 hal
          have hon6 := own_of_below hon5 hal
          have hB6 := below_tr hB5 hal
          have hBw6 := below_tr hBw5 hal
          have hz5 : (w5.alloc (Obj.cells #[Value.string (Str xk), Value.string (Str xv)] 42)).heap.size = w5.heap.size + 1 := by simp
          have HZ5 := hid hz5
          clear hou hon hou5 hon5 HUP hz5
          go_wp2_with (first
            | (at_builtin; (refine wpList_appN ti_pair (.tmp 43) (.tmp 45) (by rfl) (by rfl) w2.heap.size [.string (Str xk), .string (Str xv)] 42 1 1 (by rfl) (by rw [HZ5.out]; rfl) hou6 (by rfl) (by simp [Value.oneCell']) hB6 hB6.size (by omega) ?_; intro A2 c2 w7 ho7 hg7 hB7 hsz7; have hon7 := own_grown (own_of_below hon6 (below_al (below_rf _) (Obj.cells #[Value.string (Str xk), Value.string (Str xv)] 42))) hg7 (fun k hk1 hk2 => own_ne hon6 hou6 (by decide) k hk1 hk2)))
            | (at_builtin; (refine wpList_appN ti_str (.tmp 47) (.tmp 49) (by rfl) (by rfl) w2.heap.size [.string (Str nd)] 9 1 1 (by rfl) (by rfl) hon7 (by rfl) (by simp [Value.oneCell']) hB7 hsz7 (by omega) ?_; intro A3 c3 w8 ho8 hg8 hB8 hsz8; have ho9 := own_grown (own_of_below ho7 (below_al (below_rf _) (Obj.cells #[Value.string (Str nd)] 9))) hg8 (fun k hk1 hk2 => own_ne ho7 hon7 (by decide) k hk1 hk2))))
          go_wp2
          go_roundw
          case rel =>
            have hul := HUL.out
            have hnl := HNL.out
            have e1 : l.length - m - n = l.length - (m + n) := by omega
            refine ⟨k + 1, m + n, _, _, ups ++ [(xk, xv)], nods ++ [nd], by omega, by omega, by go_num, by rw [e1], by omega, ?_, by simp; omega, by simp; omega, ?_, ?_, HN2, ?_, hB8⟩
            · by_cases hcn : c' = n
              · refine hid (.inl ?_)
                rw [List.drop_of_length_le (by omega)]; rfl
              · rw [if_neg hcn]
                have := rd_dropN HR.out (n * 2)
                rw [Nat.mul_comm n 2, ← its_drop, List.drop_drop] at this
                rw [Nat.mul_comm n 2]
                exact hid this
            · rw [its_app, List.length_append]; exact ho9
            · rw [← strs_app, List.length_append]; exact ho8
            · refine hid ?_
              rw [HL.out, HLEV.out, HXK.out, HXV.out, HND.out, List.append_assoc, List.append_assoc]
              rfl
          case measure => simp [intOf]; omega
        · obtain rfl : k = cs.length := by omega
          have hr : l.drop m = [] := by
            have h1 := HC.out
            rw [List.drop_length] at h1
            rcases Nat.lt_or_ge 0 (l.drop m).length with h | h
            · rw [cut_cons _ (by simpa using h)] at h1; cases h1
            · exact List.eq_nil_of_length_eq_zero (by omega)
          have hlev := HL.out
          rw [hr, level_nil, List.append_nil, List.append_nil] at hlev
          have HLEV := hid hlev
          clear hlev hr hul hnl
          go_wp2
          go_ret2
          refine ⟨⟨_, _, rfl, ?_, ?_⟩, hBw⟩
          · rw [HLEV.out]; exact own_base hou hB2.size
          · rw [HLEV.out]; exact own_base hon hB2.size
end Go.Proofs.Ytidbaagdajkojaa.W08
