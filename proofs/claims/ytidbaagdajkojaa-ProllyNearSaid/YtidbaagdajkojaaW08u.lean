/- The walks of layer 8: the document's tree of a list of pairs. -/
import Derived.Test.YtidbaagdajkojaaW08r
import Derived.Test.YtidbaagdajkojaaW08f
import Derived.Test.YtidbaagdajkojaaW07r
import Derived.Test.YtidbaagdajkojaaT08
set_option linter.unusedVariables false
set_option linter.unusedSimpArgs false
namespace Go.Proofs.Ytidbaagdajkojaa.W08
open Go.RowKit Go.Proofs.Ytidbaagdajkojaa.Lib Go.Proofs.Ytidbaagdajkojaa.Sha Go.Proofs.Ytidbaagdajkojaa.T07 Go.Proofs.Ytidbaagdajkojaa.T08 Go.Proofs.Ytidbaagdajkojaa.QTail Go.Proofs.Ytidbaagdajkojaa.Bld Go.Proofs.Ytidbaagdajkojaa.Itms Go.Proofs.Ytidbaagdajkojaa.W01 Go.Proofs.Ytidbaagdajkojaa.W07 Go.Proofs.Ytidbaagdajkojaa.WSeq
attribute [local go_sem] Str_size Str_toList Str_extract Str_append Str_get bt_nn bt_lt List.length_append take_rest sha_len two_len
/-- where the pairs of a round lie: where they lay at the start, or in a row of the call's own, below D -/
def CurOk (w : World) (D : Nat) (W : World) (A' : Option Addr) (c' : Nat) (cur : List Itm) : Prop :=
  Rd w A' (its cur) ∨ (W.ownsRow w.heap.size 38 2 (.slice A' cur.length c') cur.length (its cur) ∧ ∀ a, A' = some a → a.block < D)
theorem CurOk.rd {w : World} {D : Nat} {W : World} {A' : Option Addr} {c' : Nat} {cur : List Itm} (h : CurOk w D W A' c' cur) (hB : Below w.heap.size w W) : Rd W A' (its cur) := by
  rcases h with h | ⟨h, _⟩
  · exact h.below hB
  · obtain ⟨A2, c2, e, _, hr⟩ := Rd.own h
    injection e with e1 e2 e3; subst e1; exact hr
theorem CurOk.below {w : World} {D : Nat} {W W1 : World} {A' : Option Addr} {c' : Nat} {cur : List Itm} (h : CurOk w D W A' c' cur) (hB : Below W.heap.size W W1) : CurOk w D W1 A' c' cur := by
  rcases h with h | ⟨h, h2⟩
  · exact .inl h
  · exact .inr ⟨own_of_below h hB, h2⟩
theorem CurOk.grown {w : World} {D : Nat} {W W1 : World} {A' : Option Addr} {c' : Nat} {cur : List Itm} {ob : Option Nat} (h : CurOk w D W A' c' cur) (hg : W.grownBy W1 ob)
    (hne : W.ownsRow w.heap.size 38 2 (.slice A' cur.length c') cur.length (its cur) → (∀ a, A' = some a → a.block < D) → ∀ k, (Value.slice A' cur.length c').ownBlock = some k → ob ≠ some k) : CurOk w D W1 A' c' cur := by
  rcases h with h | ⟨h, h2⟩
  · exact .inl h
  · exact .inr ⟨own_grown h hg (hne h h2), h2⟩
theorem CurOk.raise {w : World} {D D' : Nat} {W : World} {A' : Option Addr} {c' : Nat} {cur : List Itm} (h : CurOk w D W A' c' cur) (hD : D ≤ D') : CurOk w D' W A' c' cur := by
  rcases h with h | ⟨h, h2⟩
  · exact .inl h
  · exact .inr ⟨h, fun a e => Nat.lt_of_lt_of_le (h2 a e) hD⟩
theorem ti_ritem : TI Try.prog 22 38 2 32 := TI.of Try.underlying22 (by kernel_rfl) (by decide) (by decide)
def nextS (lv : Nat) (l : List Itm) : List UInt8 × List (List UInt8) := ((riseS (lv + 1) (levelS lv l).1).1, (levelS lv l).2 ++ (riseS (lv + 1) (levelS lv l).1).2)
theorem next_one (lv : Nat) (l : List Itm) (h : (levelS lv l).1.length = 1) : nextS lv l = ((itm (levelS lv l).1 0).2.take 32, (levelS lv l).2) := by
  rw [nextS, rise_one _ _ h, List.append_nil]; rfl
theorem next_more (lv : Nat) (l : List Itm) (h : 2 ≤ (levelS lv l).1.length) : nextS lv l = ((nextS (lv + 1) (levelS lv l).1).1, (levelS lv l).2 ++ (nextS (lv + 1) (levelS lv l).1).2) := by
  rw [nextS, rise_more _ _ h]; rfl
theorem tree_next (l : List Itm) (h : l.length ≠ 0) : treeS l = nextS 0 l := by rw [treeS, if_neg h]; rfl
set_option maxHeartbeats 8000000 in
set_option maxRecDepth 100000 in
theorem rbuild_any (A : Option Addr) (c : Nat) (l : List Itm) (hc : l.length ≤ c) (hl : l.length ≤ 1000000) (w : World) (hrd : Rd w A (its l)) :
    Calls Try.prog 12 #[.slice A l.length c] w fun e w' => ((rightS l = false ∧ e = .returned (.tuple #[.string (Str []), .slice none 0 0, .bool false])) ∨ (rightS l = true ∧ ∃ v, e = .returned (.tuple #[.string (Str (treeS l).1), v, .bool true]) ∧ w'.ownsRow w.heap.size 9 1 v (treeS l).2.length (strs (treeS l).2))) ∧ Below w.heap.size w w' := by
  have H0 := hid hrd
  clear hrd
  have hri := rright_any A c l hl w H0.out
  have HRI := hid hri
  clear hri
  go_enter Try.func12, Try.ntmps12
  go_wp2_with fail
  refine HRI.out.mono ?_; rintro e w1 ⟨rfl, hb1⟩
  cases hr : rightS l with
  | false =>
    go_wp2
    go_ret3
    refine ⟨.inl ⟨hr, by rw [Str_nil]; rfl⟩, hb1⟩
  | true =>
    have hf := right_fine l hr
    by_cases h0 : l.length = 0
    · have el : l = [] := List.eq_nil_of_length_eq_zero h0
      subst el
      have hnd : (nodeB 0 []).length = 3 := rfl
      have HT : treeS [] = (sha (nodeB 0 []), [nodeB 0 []]) := rfl
      obtain ⟨nd, hndE⟩ : ∃ nd, nd = nodeB 0 [] := ⟨_, rfl⟩
      rw [← hndE] at hnd HT
      have hby := rnode_any 0 [] none 0 w1 (by omega) (by simp) (.inl rfl) hf
      rw [← hndE] at hby
      have HBY := hid hby
      have HTT := hid HT
      clear hby HT hndE
      go_wp2_with fail
      refine HBY.out.mono ?_; rintro e w2 ⟨rfl, hb2⟩
      go_wp2_with fail
      refine (print_ref_any nd w2 (by omega)).mono ?_; rintro e w3 ⟨rfl, hb3⟩
      have hB3 := below_tr (below_tr hb1 hb2) hb3
      go_wp2
      go_ret3
      refine ⟨.inr ⟨hr, ?_⟩, below_al hB3 _⟩
      rw [HTT.out]
      exact ⟨_, rfl, own_fresh w3 w.heap.size 9 1 1 [.string (Str nd)] hB3.size rfl (by decide)⟩
    · have h0b : ((l.length : Int) == 0) = false := beq_eq_false_iff_ne.2 (by omega)
      have HF := hid hf
      have HTN := hid (tree_next l h0)
      have hlen0 : 0 < l.length := by omega
      clear hf h0
      go_wp2
      go_loopw [0, 5, 7] (fun x v lv wr => ∃ (i : Nat) (cur : List Itm) (A' : Option Addr) (c' : Nat) (acc : List (List UInt8)), i + cur.length ≤ l.length ∧ 0 < cur.length ∧ acc.length + cur.length * 1000000 ≤ l.length * 1000000 ∧ lv = .int .i64 (i : Int) ∧ x = .slice A' cur.length c' ∧ cur.length ≤ c' ∧ Hid (CurOk w wr.heap.size wr A' c' cur) ∧ Hid (Fine cur) ∧ Hid (0 < i → ∀ j, j < cur.length → (itm cur j).2.length = 40) ∧ Hid (wts i cur = l.length) ∧ wr.ownsRow w.heap.size 9 1 v acc.length (strs acc) ∧ Hid (treeS l = ((nextS i cur).1, acc ++ (nextS i cur).2)) ∧ Below w.heap.size w wr) (fun x _ _ _ => Go.Proofs.Ytidbaagdajkojaa.W07.slcLen x)
      case atStart => exact ⟨0, l, A, c, [], by omega, hlen0, by simp, rfl, rfl, hc, hid (.inl H0.out), HF, hid (fun h => absurd h (by omega)), hid (wts_zero l), own_nil _ _ _ _, hid HTN.out, hb1⟩
      case round =>
        obtain ⟨i, cur, A', c', acc, hic, hc0, hac, rfl, rfl, hcc, HR, HFC, HV, HW, hown, HE, hB⟩ := hrel
        obtain ⟨w3, hw3⟩ : ∃ w3, w3 = wr := ⟨_, rfl⟩
        rw [← hw3] at HR hown hB ⊢
        clear hw3
        go_wp2
        -- the forms
        go_loopw [8, 9] (fun v j W => ∃ k : Nat, k ≤ cur.length ∧ j = .int .i64 (k : Int) ∧ W.ownsRow w3.heap.size 9 1 v k (strs ((cur.take k).map form)) ∧ Below w3.heap.size w3 W) (fun _ j _ => cur.length - (intOf j).toNat)
        case atStart => exact ⟨0, by omega, rfl, own_nil _ _ _ _, below_rf w3⟩
        case round =>
          obtain ⟨k, hk, rfl, hownF, hBF⟩ := hrel
          by_cases hlt : k < cur.length
          · obtain ⟨b, o, rfl, hc1, hc2⟩ := rd_itm (Rd.below (HR.out.rd hB) hBF) hlt
            obtain ⟨f1, f2⟩ := HFC.out k hlt
            go_wp2_with fail
            refine (rform_any (itm cur k) _ (by omega) (by omega)).mono ?_; rintro e w5 ⟨rfl, hb5⟩
            have hown5 := own_of_below hownF hb5
            have hB5 := below_tr hBF hb5
            go_wp2_with (at_builtin; (refine wpList_appN ti_str (.tmp 35) (.tmp 41) (by rfl) (by rfl) w3.heap.size [.string (Str (form (itm cur k)))] 9 1 1 (by rfl) (by rfl) hown5 (by rfl) (by simp [Value.oneCell']) hB5 hB5.size (by omega) ?_; intro A2 c2 w6 ho6 hg6 hB6 hsz6))
            go_wp2
            go_roundw
            case rel =>
              refine ⟨k + 1, by omega, by go_num, ?_, hB6⟩
              rw [take_itm cur k hlt, List.map_append, ← strs_app]
              exact ho6
            case measure => simp [intOf]; omega
          · obtain rfl : k = cur.length := by omega
            rw [List.take_length] at hownF
            obtain ⟨A1, c1, rfl, hcc1, hrd1, _, _⟩ := Rd.own' hownF
            have hcut := rcut_any (cur.map form) A1 c1 wr (by rw [List.length_map]; omega) hrd1 (short_forms cur HFC.out)
            rw [List.length_map] at hcut
            have HCUT := hid hcut
            clear hcut hownF hrd1
            go_wp2_with fail
            refine HCUT.out.mono ?_; rintro e w2 ⟨⟨v2, rfl, hown2⟩, hb2⟩
            obtain ⟨A3, c3, rfl⟩ := own_succ hown2
            have hB2 := below_tr hB (below_tr hBF hb2)
            have HR2 := hid ((HR.out.below (below_tr hBF hb2)).raise (below_tr hBF hb2).size)
            have hown3 := own_of_below hown (below_tr hBF hb2)
            have hocs := own_base hown2 (Nat.le_trans hB.size hBF.size)
            obtain ⟨cs, hcs⟩ : ∃ cs, cs = cutS (cur.map form) := ⟨_, rfl⟩
            rw [← hcs] at hocs ⊢
            have hcl : cs.length ≤ cur.length := by rw [hcs]; have := cut_len (cur.map form); simpa using this
            have HCS := hid hcs
            clear hcs HCUT hown2
            go_wp2
            -- the parts
            go_loopw [5, 11, 12, 13] (fun vn vu at_ ix wr => ∃ (k m : Nat) (ups : List Itm) (nods : List (List UInt8)), k ≤ cs.length ∧ m ≤ cur.length ∧ ix = .int .i64 (k : Int) ∧ at_ = .int .i64 (m : Int) ∧ ups.length = k ∧ nods.length = k ∧ Hid (CurOk w w2.heap.size wr A' c' cur) ∧ wr.ownsRow w.heap.size 3 1 (.slice A3 cs.length c3) cs.length (nats cs) ∧ wr.ownsRow w2.heap.size 38 2 vu ups.length (its ups) ∧ wr.ownsRow w.heap.size 9 1 vn (acc.length + nods.length) (strs (acc ++ nods)) ∧ Hid (cs.drop k = cutS ((cur.drop m).map form)) ∧ Hid (levelS i cur = (ups ++ (levelS i (cur.drop m)).1, nods ++ (levelS i (cur.drop m)).2)) ∧ Below w.heap.size w wr ∧ w2.heap.size ≤ wr.heap.size) (fun _ _ _ ix _ => cs.length - (intOf ix).toNat)
            case atStart => exact ⟨0, 0, [], [], by omega, by omega, rfl, rfl, rfl, rfl, HR2, hocs, own_nil _ _ _ _, by simpa using hown3, hid HCS.out, hid rfl, hB2, Nat.le_refl _⟩
            case round =>
              have hB2s := hid hB2.size
              clear hown3 hocs hB2
              obtain ⟨k, m, ups, nods, hk, hm, rfl, rfl, hul, hnl, HRC, hcs, hou, hon, HC, HL, hB4, hs4⟩ := hrel
              by_cases hlt : k < cs.length
              · obtain ⟨_, _, e3, _, hrd3⟩ := Rd.own hcs
                injection e3 with e3a _ e3c
                subst e3a
                subst e3c
                obtain ⟨b3, o3, rfl, hq3⟩ := hrd3.nat hlt
                obtain ⟨hr0, hn1, hn2⟩ := cut_step cs (cur.drop m) k hlt HC.out
                have hlev := level_cons i (cur.drop m) hr0
                rw [← hn1, List.drop_drop] at hlev
                rw [List.drop_drop] at hn2
                have hple := (part_le ((cur.drop m).map form)).1
                have hpos := part_pos ((cur.drop m).map form) (by simpa using hr0)
                rw [← hn1, List.length_map, List.length_drop] at hple
                rw [← hn1] at hpos
                obtain ⟨n, hn⟩ : ∃ n, n = nat cs k := ⟨_, rfl⟩
                rw [← hn] at hlev hn2 hple hpos hq3
                obtain ⟨pt, hpt⟩ : ∃ pt, pt = (cur.drop m).take n := ⟨_, rfl⟩
                have hptl : pt.length = n := by rw [hpt]; simp; omega
                have hfp : Fine pt := by rw [hpt]; exact fine_sub cur HFC.out m n
                have hvp : 0 < i → ∀ j, j < pt.length → (itm pt j).2.length = 40 := by rw [hpt]; exact fun h0 => val_sub cur 40 (HV.out h0) m n
                have hwp : wts i pt ≤ l.length := by
                  have h1 := wts_split i cur m
                  have h2 := wts_split i (cur.drop m) n
                  have h3 := HW.out
                  rw [hpt]; omega
                have htp : 0 < i → ∀ j, j < pt.length → told (itm pt j).2 ≤ 1099511627776 := by
                  intro h0 j hj
                  have h1 := told_le_sum pt (itm pt j) (by rw [itm_eq pt j hj]; exact List.getElem_mem hj)
                  rw [← wts_pos i (by omega)] at h1
                  omega
                have hct : countS i pt ≤ 1000000 := by rw [count_wts i pt (by omega)]; omega
                have hrdc := HRC.out.rd hB4
                obtain ⟨b, o, rfl, _, _⟩ := rd_itm (j := 0) hrdc hc0
                have hrdp : Rd wr (some ⟨b, o + m * 2, none⟩) (its pt) := by
                  have := rd_dropN hrdc (2 * m)
                  rw [← its_drop, Nat.mul_comm 2 m] at this
                  rw [hpt, its_take]
                  exact this.take _
                rw [← hpt] at hlev
                have HLEV := hid hlev
                have HN2 := hid hn2
                have HUL := hid hul
                have HNL := hid hnl
                have HPT := hid hpt
                have HPTL := hid hptl
                have HHP := hid hvp
                have HTP := hid htp
                have HFP := hid hfp
                have HRDP := hid hrdp
                have hupl : ups.length ≤ l.length := by omega
                have hnol : nods.length ≤ 1000000 := by omega
                clear hlev hn2 hul hnl hn1 hn hr0 hpt hptl hvp htp hfp hwp hrdp hrdc hrd3
                have hnode := fun C (hC : Rd wr (some ⟨b, o + m * 2, none⟩) (its pt)) => rnode_any i pt (some ⟨b, o + m * 2, none⟩) C wr (by omega) (by rw [HPTL.out]; omega) hC HFP.out
                rw [HPTL.out] at hnode
                have hndl := nodeB_len i pt HFP.out
                rw [HPTL.out] at hndl
                obtain ⟨nd, hnd⟩ : ∃ nd, nd = nodeB i pt := ⟨_, rfl⟩
                rw [← hnd] at hndl
                simp only [← hnd] at hnode
                have HNODE := hid hnode
                have HND := hid hnd
                clear hnode hnd
                have hcap : m + n ≤ c' := by omega
                go_wp2_with fail
                refine (HNODE.out (c' - m) HRDP.out).mono ?_; rintro e w5 ⟨rfl, hb5⟩
                have hB5 := below_tr hB4 hb5
                have hs5 := Nat.le_trans hs4 hb5.size
                have hcs5 := own_of_below hcs hb5
                have hou5 := own_of_below hou hb5
                have hon5 := own_of_below hon hb5
                have HRC5 := hid (HRC.out.below hb5)
                clear hcs hou hon HRC
                go_wp2_with (at_builtin; (refine wpList_appN ti_str (.tmp 69) (.tmp 71) (by rfl) (by rfl) w.heap.size [.string (Str nd)] 9 1 1 (by rfl) (by rfl) hon5 (by rfl) (by simp [Value.oneCell']) hB5 hB5.size (by omega) ?_; intro A6 c6 w6 hon6 hg6 hB6 hsz6))
                have hal : Below w5.heap.size w5 (w5.alloc (.cells [Value.string (Str nd)].toArray 9)) := below_al (below_rf w5) _
                have hcs6 := own_grown (own_of_below hcs5 hal) hg6 (fun k hk1 hk2 => own_ne hcs5 hon5 (by decide) k hk1 hk2)
                have hou6 := own_grown (own_of_below hou5 hal) hg6 (fun k hk1 hk2 => own_ne hou5 hon5 (by decide) k hk1 hk2)
                have HRC6 := hid ((HRC5.out.below hal).grown hg6 (fun h _ k hk1 hk2 => own_ne h (own_of_below hon5 hal) (by decide) k hk1 hk2))
                have hs6 : w2.heap.size ≤ w6.heap.size := Nat.le_trans hs5 (Nat.le_trans (by simp) hg6.size)
                clear hcs5 hou5 hal hg6 hon5 HRC5 HNODE
                have hrd6 : Rd w6 (some ⟨b, o + m * 2, none⟩) (its pt) := by
                  have := rd_dropN (HRC6.out.rd hB6) (2 * m)
                  rw [← its_drop, Nat.mul_comm 2 m] at this
                  rw [HPT.out, its_take]
                  exact this.take _
                obtain ⟨p, rfl⟩ : ∃ p, n = p + 1 := ⟨n - 1, by omega⟩
                have hkey : ∀ W, Below w6.heap.size w6 W → W.cell? ⟨b, o + m * 2 + p * 2, none⟩ = some (.string (Str (lastKey pt))) := by
                  intro W hW
                  obtain ⟨b', o', e, h1, _⟩ := rd_itm (hrd6.below hW) (j := p) (by rw [HPTL.out]; omega)
                  injection e with e; injection e with e1 e2; subst e1; subst e2
                  rw [h1, lastKey_itm, HPTL.out, Nat.add_sub_cancel]
                have hprint : ∀ W, Below w6.heap.size w6 W → Calls Try.prog 29 #[.string (Str nd)] W fun e w' => e = .returned (.string (Str (sha nd))) ∧ Below w6.heap.size w6 w' := fun W hW => (print_ref_any nd W (by omega)).mono fun e w' h => ⟨h.1, hW.trans (h.2.mono hW.size)⟩
                have htot : ∀ W, Below w6.heap.size w6 W → Calls Try.prog 33 #[.int .i64 (i : Int), .slice (some ⟨b, o + m * 2, none⟩) (p + 1) (c' - m)] W fun e w' => e = .returned (.int .i64 (countS i pt : Nat)) ∧ Below w6.heap.size w6 w' := by
                  intro W hW
                  have := rtotal_any i pt (some ⟨b, o + m * 2, none⟩) (c' - m) W (by rw [HPTL.out]; omega) (hrd6.below hW) (fun h0 j hj => ⟨HHP.out h0 j hj, HTP.out h0 j hj⟩)
                  rw [HPTL.out] at this
                  exact this.mono fun e w' h => ⟨h.1, by rw [h.2]; exact hW⟩
                obtain ⟨ct, hctE⟩ : ∃ ct, ct = countS i pt := ⟨_, rfl⟩
                rw [← hctE] at htot hct
                have height : ∀ W, Below w6.heap.size w6 W → Calls Try.prog 32 #[.int .i64 (ct : Int)] W fun e w' => e = .returned (.string (Str (be ct 8))) ∧ Below w6.heap.size w6 w' := fun W hW => (reight_any ct W (by omega)).mono fun e w' h => ⟨h.1, hW.trans (h.2.mono hW.size)⟩
                obtain ⟨xk, hxk⟩ : ∃ xk, xk = lastKey pt := ⟨_, rfl⟩
                rw [← hxk] at hkey
                have hbel : (be ct 8).length = 8 := be_len ct
                have HCT := hid hctE
                have HXK := hid hxk
                have hwr : IntKind.i64.wrap ((p : Nat) : Int) = (p : Int) := by rw [IntKind.wrap_i64]; omega
                clear hctE hxk hrd6
                go_wp2
                refine wp_region_mtail w6.heap.size 16 (v := u11) (by decide) (by kernel_rfl) (by kernel_rfl) (by kernel_rfl) (by kernel_rfl) (fun _ _ _ h => h) (Or.inl ⟨by rfl, ?gm⟩) ?_
                case gm => intro w; go_simp
                simp only [List.take_succ_cons, List.take_zero, List.drop_succ_cons, List.drop_zero, List.drop_one, List.tail_cons]
                repeat (
                  refine wpQuiet_step (fun K hK => ?_)
                  first
                    | (refine mild_skip (by rfl) (hK _ ?_)
                       clear hK K)
                    | (refine mild_read (by rfl) ?_
                       apply Exists.intro
                       refine ⟨fun W hW => ?_, hK _ ?_⟩
                       (go_simp; first | rfl | (rw [if_neg (by omega)]) | (rw [if_pos (by omega)]))
                       clear hK K)
                    | (refine mild_call (by rfl) ?_
                       apply Exists.intro
                       apply Exists.intro
                       refine ⟨fun W hW => ?_, ?_⟩
                       (go_simp; exact ⟨rfl, rfl⟩)
                       apply Exists.intro
                       refine ⟨fun W hW => ?_, hK _ ?_⟩
                       (first | with_reducible exact (hprint W hW) | with_reducible exact (htot W hW) | with_reducible exact (height W hW))
                       clear hK K)
                  go_simp)
                refine wpQuiet_nil ?_
                intro W hW
                have hou7 := own_of_below hou6 hW
                have hon7 := own_of_below hon6 hW
                have hcs7 := own_of_below hcs6 hW
                have HRC7 := hid (HRC6.out.below hW)
                have hsW : w2.heap.size ≤ W.heap.size := Nat.le_trans hs6 hW.size
                have hBW := below_tr hB6 hW
                clear hou6 hon6 hcs6 HRC6
                go_wp2_with (at_builtin; (refine wpList_appN ti_ritem (.tmp 73) (.tmp 89) (by rfl) (by rfl) w2.heap.size [.string (Str xk), .string (Str (sha nd ++ be ct 8))] 38 1 1 (by rfl) (by rfl) hou7 (by rfl) (by simp [Value.oneCell']) (Below.refl w2.heap.size W) hsW (by omega) ?_; intro A8 c8 w8 hou8 hg8 hB8 hsz8))
                have hal8 : Below W.heap.size W (W.alloc (.cells [Value.string (Str xk), Value.string (Str (sha nd ++ be ct 8))].toArray 38)) := below_al (below_rf W) _
                have hon8 := own_grown (own_of_below hon7 hal8) hg8 (fun k hk1 hk2 => own_ne hon7 hou7 (by decide) k hk1 hk2)
                have hcs8 := own_grown (own_of_below hcs7 hal8) hg8 (fun k hk1 hk2 => own_ne hcs7 hou7 (by decide) k hk1 hk2)
                have HRC8 := hid ((HRC7.out.below hal8).grown hg8 (fun h hD k hk1 hk2 => by
                  have h1 := own_block_base hou7 k hk2
                  rcases hA' : (Value.slice (some (⟨b, o, none⟩ : Addr)) cur.length c').ownBlock with _ | k'
                  · rw [hA'] at hk1; cases hk1
                  · rw [hA'] at hk1
                    injection hk1 with hk1
                    subst hk1
                    have h2 := hD ⟨b, o, none⟩ rfl
                    have h3 : b = k' := by simpa [Value.ownBlock] using hA'
                    subst h3
                    exact absurd h1 (by show ¬ _ ≤ _; simp only at h2; omega)))
                have hBw8 : Below w.heap.size w w8 := hBW.trans (hB8.mono (by have := hB2s.out; omega))
                clear hal8 hou7 hon7 hcs7 HRC7 hg8 hB8
                go_wp2
                go_roundw
                case rel =>
                  have hul := HUL.out
                  have hnl := HNL.out
                  refine ⟨k + 1, m + (p + 1), ups ++ [(xk, sha nd ++ be ct 8)], nods ++ [nd], by omega, by omega, by go_num, by go_num, by simp; omega, by simp; omega, HRC8, hcs8, ?_, ?_, HN2, ?_, hBw8, hsz8⟩
                  · rw [its_app, List.length_append]; exact hou8
                  · rw [← List.append_assoc, ← strs_app, List.length_append, ← Nat.add_assoc]; exact hon8
                  · refine hid ?_
                    rw [HL.out, HLEV.out, HXK.out, HCT.out, HND.out, List.append_assoc, List.append_assoc]
                    rfl
                case measure => simp [intOf]; omega
              · obtain rfl : k = cs.length := by omega
                have hr2 : cur.drop m = [] := by
                  have h1 := HC.out
                  rw [List.drop_length] at h1
                  rcases Nat.lt_or_ge 0 (cur.drop m).length with h | h
                  · rw [cut_cons _ (by simpa using h)] at h1; cases h1
                  · exact List.eq_nil_of_length_eq_zero (by omega)
                have hlev := HL.out
                rw [hr2, level_nil, List.append_nil, List.append_nil] at hlev
                have HLEV := hid hlev
                clear hlev hr2
                have hl1 := level_len i cur
                have hl2 := level_len2 i cur
                have hcl2 := cut_pos (cur.map form) (by simp; omega)
                rw [← HCS.out] at hl1 hl2 hcl2
                have hul' : ups.length = cs.length := hul
                have hnl' : nods.length = cs.length := hnl
                have HUL := hid hul'
                have HNL := hid hnl'
                obtain ⟨A8, c8, rfl, hc8, hrd8, _, _⟩ := Rd.own' hou
                clear hul hnl hul' hnl' hl1 hl2
                have hup1 : (levelS i cur).1 = ups := by rw [HLEV.out]
                have hup2 : (levelS i cur).2 = nods := by rw [HLEV.out]
                by_cases hone : ups.length = 1
                · obtain ⟨b8, o8, rfl, hq1, hq2⟩ := rd_itm hrd8 (j := 0) (by omega)
                  have hnx := next_one i cur (by rw [hup1]; exact hone)
                  rw [hup1, hup2] at hnx
                  have hfu := level_fine i cur HFC.out
                  rw [hup1] at hfu
                  have hv40 := hfu.2 0 (by omega)
                  have e9 : treeS l = ((itm ups 0).2.take 32, acc ++ nods) := by rw [HE.out, hnx]
                  have E9 := hid e9
                  obtain ⟨q, hq⟩ : ∃ q, q = (itm ups 0).2 := ⟨_, rfl⟩
                  rw [← hq] at hv40 hq2 E9
                  rw [Nat.zero_mul, Nat.add_zero] at hq2
                  have hb1' : ((ups.length : Int) == 1) = true := beq_iff_eq.2 (by omega)
                  have HON := hid hon
                  clear hnx hfu e9 hq hq1 hup1 hup2 hon
                  go_wp2
                  go_ret3
                  refine ⟨.inr ⟨hr, ?_⟩, hB4⟩
                  rw [E9.out]
                  exact ⟨_, rfl, by rw [List.length_append]; exact HON.out⟩
                · have hb1' : ((ups.length : Int) == 1) = false := beq_eq_false_iff_ne.2 (by omega)
                  have hge : 2 ≤ ups.length := by have := HUL.out; omega
                  have hnx := next_more i cur (by rw [hup1]; exact hge)
                  rw [hup1, hup2] at hnx
                  have hfu := level_fine i cur HFC.out
                  rw [hup1] at hfu
                  have hsum := level_sum i cur.length cur (Nat.le_refl _) (by have := HW.out; omega)
                  rw [hup1, HW.out, ← wts_pos (i + 1) (by omega)] at hsum
                  have hlt2 : ups.length < cur.length := by
                    have h1 := cut_lt (cur.map form) (by have := HUL.out; simp; omega)
                    rw [← HCS.out, List.length_map] at h1
                    have := HUL.out
                    omega
                  have HNX := hid hnx
                  have HFU := hid hfu
                  have HSUM := hid hsum
                  have hou' := own_base hou hB2s.out
                  have hdl : ∀ a, A8 = some a → a.block < wr.heap.size := by
                    intro a ha
                    subst ha
                    exact own_lt hou a.block rfl
                  clear hnx hfu hsum hup1 hup2
                  go_wp2
                  go_roundw
                  case rel =>
                    have hul := HUL.out
                    have hnl := HNL.out
                    refine ⟨i + 1, ups, A8, c8, acc ++ nods, by omega, by omega, by simp only [List.length_append]; omega, by go_num, rfl, hc8, hid (.inr ⟨hou', hdl⟩), hid HFU.out.1, hid (fun _ => HFU.out.2), HSUM, ?_, ?_, hB4⟩
                    · rw [List.length_append]; exact hon
                    · refine hid ?_
                      rw [HE.out, HNX.out, List.append_assoc]
                  case measure => exact hlt2
end Go.Proofs.Ytidbaagdajkojaa.W08
