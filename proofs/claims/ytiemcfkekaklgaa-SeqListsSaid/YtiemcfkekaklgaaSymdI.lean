/- The standard library's stable sort of pairs of a text and a number: the merge in place, whole. -/
import Derived.Test.YtiemcfkekaklgaaSymbI
import Derived.Test.YtiemcfkekaklgaaSymcI
import Derived.Deep.CutRange
set_option linter.unusedVariables false
set_option linter.unusedSimpArgs false
namespace Go.Proofs.Ytiemcfkekaklgaa.StabI
open Go.RowKit Go.Shelf Go.Proofs.Ytiemcfkekaklgaa.Lib Go.Proofs.Ytiemcfkekaklgaa.Prs Go.Proofs.Ytiemcfkekaklgaa.Run Go.Proofs.Ytiemcfkekaklgaa.Stab Go.Proofs.Ytiemcfkekaklgaa.QTail
set_option maxRecDepth 100000 in
set_option maxHeartbeats 3200000 in
theorem sym_any (base g cap cf : Nat) (cmp : Itm → Itm → Int) (hcf : CmpOk cf cmp) (eg : ∀ args w, (callFunc cf args).run Try.prog w = .ok (.enter cf args) w) : ∀ (N : Nat) (L : List Itm) (a m b : Nat) (hN : b - a ≤ N) (hl : L.length ≤ 1000000000) (ha : a < m) (hm : m < b) (hb : b ≤ L.length) (w : World) (h : RowL w base g cap L),
    Calls Try.prog 56 #[.slice (some ⟨g, 0, none⟩) L.length cap, .int .i64 (a : Int), .int .i64 (m : Int), .int .i64 (b : Int), .func (.func cf) #[] #[]] w fun e w' => (∃ v, e = .returned v) ∧ RowL w' base g cap (sym d0 (ltC cmp) L a m b) ∧ Mv (fun k => k = g) w w' := by
  intro N
  induction N with
  | zero => intro L a m b hN hl ha hm hb; omega
  | succ N ih =>
  intro L a m b hN hl ha hm hb w h
  by_cases h1 : m - a = 1
  · exact sym_one base g cap L a m b cf cmp hcf eg hl ha hm hb h1 w h
  by_cases h2 : b - m = 1
  · exact sym_two base g cap L a m b cf cmp hcf eg hl ha hm hb h1 h2 w h
  have HIH := hid ih
  have HDEF : Hid (sym d0 (ltC cmp) L a m b = _) := hid (by rw [sym.eq_1, if_neg h1, if_neg h2])
  obtain ⟨mid, hmid⟩ : ∃ mid, mid = (a + b) / 2 := ⟨_, rfl⟩
  obtain ⟨nn, hnn⟩ : ∃ nn, nn = mid + m := ⟨_, rfl⟩
  have hI : ((a : Int) + (b : Int)) / 2 = (mid : Int) := by omega
  have hJ : (mid : Int) + (m : Int) = (nn : Int) := by omega
  obtain ⟨pp, hpp⟩ : ∃ pp, pp = nn - 1 := ⟨_, rfl⟩
  have hK : (nn : Int) - 1 = (pp : Int) := by omega
  have HPP := hid hpp
  have g0 : ((m : Int) - (a : Int) == (1 : Int)) = false := beq_eq_false_iff_ne.2 (by omega)
  have g00 : ((b : Int) - (m : Int) == (1 : Int)) = false := beq_eq_false_iff_ne.2 (by omega)
  have f1 : mid < b := by omega
  have f2 : a < mid := by omega
  have f3 : nn ≤ a + b + (if mid < m then b else 0) := by split <;> omega
  have HF3 : Hid (¬ mid < m → nn ≤ a + b) := hid (fun _ => by omega)
  have HF4 : Hid (mid < m → a + b ≤ nn) := hid (fun _ => by omega)
  have HMI := hid hmid
  have HNN := hid hnn
  have f5 : nn ≤ 4000000000 := by omega
  have HST : Hid (symStart d0 (ltC cmp) L a m b = bsearch (symP3 d0 (ltC cmp) L pp) (if mid < m then nn - b else a) (if mid < m then mid else m)) := hid (by unfold symStart; rw [← hmid, ← hnn, ← hpp])
  have HNB := hid hN
  clear ih h1 h2 f3 hmid hnn hN hpp
  go_enter Try.func56, Try.ntmps56
  go_upto_if 140 with fail
  go_cut [20, 21] from 25 (fun s20 s21 wx => ∃ p q : Nat, s20 = .int .i64 (p : Int) ∧ s21 = .int .i64 (q : Int) ∧ a ≤ p ∧ nn ≤ p + b ∧ p ≤ q ∧ q ≤ mid ∧ q ≤ m ∧ Hid (bsearch (symP3 d0 (ltC cmp) L pp) p q = symStart d0 (ltC cmp) L a m b) ∧ w = wx)
  case first =>
    by_cases hc : mid < m
    · have q1 : decide ((mid : Int) < (m : Int)) = true := decide_eq_true (by omega)
      have q2 : (nn : Int) - (b : Int) = ((nn - b : Nat) : Int) := by have := HF4.out hc; omega
      go_wp2_with fail
      go_meet
      exact ⟨nn - b, mid, rfl, rfl, by have := HF4.out hc; omega, by omega, by have := HNN.out; omega, Nat.le_refl _, by omega, hid (by rw [HST.out, if_pos hc, if_pos hc]), rfl⟩
    · have q1 : decide ((mid : Int) < (m : Int)) = false := decide_eq_false (by omega)
      go_wp2_with fail
      go_meet
      exact ⟨a, m, rfl, rfl, Nat.le_refl _, HF3.out hc, by omega, by omega, Nat.le_refl _, hid (by rw [HST.out, if_neg hc, if_neg hc]), rfl⟩
  case rest =>
    obtain ⟨p0, q0, rfl, rfl, k1, k2, k3, k4, k5, HS, rfl⟩ := hcut
    clear HST HF3 HF4
    go_wp2
    go_loopw [20, 21] (fun i j wr => ∃ i' j' : Nat, a ≤ i' ∧ nn ≤ i' + b ∧ i' ≤ j' ∧ j' ≤ mid ∧ j' ≤ m ∧ i = .int .i64 (i' : Int) ∧ j = .int .i64 (j' : Int) ∧ RowL wr base g cap L ∧ Hid (bsearch (symP3 d0 (ltC cmp) L pp) i' j' = symStart d0 (ltC cmp) L a m b) ∧ Hid (Mv (fun j => j = g) w wr)) (fun i j _ => (intOf j).toNat - (intOf i).toNat)
    case atStart => exact ⟨p0, q0, k1, k2, k3, k4, k5, rfl, rfl, h, HS, hid (Mv.refl _ _)⟩
    case round =>
      clear k1 k2 k3 k4 k5 HS h
      obtain ⟨i, j, k1, k2, k3, k4, k5, rfl, rfl, hrow, HE, HM⟩ := hrel
      by_cases hlt : i < j
      · as_aux_lemma =>
          obtain ⟨h, hh⟩ : ∃ h, h = (i + j) / 2 := ⟨_, rfl⟩
          have hI2 : ((i : Int) + (j : Int)) / 2 = (h : Int) := by omega
          have hh1 : i ≤ h := by omega
          have hh2 : h < j := by omega
          have hL1 : h < L.length := by omega
          have hnn := HNN.out
          have hmi := HMI.out
          have hpp := HPP.out
          obtain ⟨q, hq⟩ : ∃ q, q = pp - h := ⟨_, rfl⟩
          have hL2 : q < L.length := by omega
          have hI3 : (pp : Int) - (h : Int) = (q : Int) := by omega
          have hwq : IntKind.i64.wrap (q : Int) = (q : Int) := by rw [IntKind.wrap_i64]; omega
          clear hnn hmi hpp
          obtain ⟨y, hy⟩ : ∃ y, y = itm L h := ⟨_, rfl⟩
          obtain ⟨x, hx⟩ : ∃ x, x = itm L q := ⟨_, rfl⟩
          have hc1 := fun W (hW : Below wr.heap.size wr W) => hrow.bcells hW hL1
          have hc2 := fun W (hW : Below wr.heap.size wr W) => hrow.bcells hW hL2
          rw [← hy] at hc1
          rw [← hx] at hc2
          have hcm := fun W (hW : Below wr.heap.size wr W) => hcf.at x y hW
          obtain ⟨r, hr⟩ : ∃ r, r = cmp x y := ⟨_, rfl⟩
          rw [← hr] at hcm
          have hP : Hid (symP3 d0 (ltC cmp) L pp h = !decide (r < 0)) := hid (by unfold symP3 ltC; rw [el_itm, el_itm, ← hq, ← hy, ← hx, ← hr])
          have HST := hid (bsearch.eq_1 (symP3 d0 (ltC cmp) L pp) i j)
          rw [if_pos hlt, ← hh] at HST
          have HH := hid hh
          clear hy hx hr hh hq
          go_wp2
          refine wp_region_mild wr.heap.size (by kernel_rfl) (by kernel_rfl) ?_
          repeat (
            refine wpQuiet_step (fun K hK => ?_)
            first
              | (refine mild_skip (by rfl) (hK _ ?_)
                 clear hK K)
              | (refine mild_read (by rfl) ?_
                 apply Exists.intro
                 refine ⟨fun W hW => ?_, hK _ ?_⟩
                 (go_simp; first | rfl | (rw [if_neg (by omega)]) | (rw [if_pos (by omega)]))
                 clear hK K)
              | (refine mild_call (by rfl) ?_
                 apply Exists.intro
                 apply Exists.intro
                 refine ⟨fun W hW => ?_, ?_⟩
                 (go_simp; exact ⟨rfl, rfl⟩)
                 apply Exists.intro
                 refine ⟨fun W hW => ?_, hK _ ?_⟩
                 (with_reducible exact (hcm W hW))
                 clear hK K)
            go_simp)
          refine wpQuiet_nil ?_
          intro W2 hW2
          have hr2 := hrow.mv (Mv.of_below (O := fun _ => False) hW2) (fun h => h)
          have HM2 := hid (HM.out.trans (Mv.of_below (O := fun j => j = g) hW2) (O := fun j => j = g) (fun _ h => h) (fun _ _ h => h))
          clear hc1 hc2 hcm hrow hW2 HM
          by_cases hlt0 : r < 0
          · rw [hP.out, if_neg (by simpa using hlt0)] at HST
            go_wp2
            · exfalso; have hx : (!decide (r < 0)) = true := by assumption
              simp at hx; omega
            go_roundw
            case rel => exact ⟨i, h, by omega, by omega, by omega, by omega, by omega, rfl, rfl, hr2, hid (HST.out.symm.trans HE.out), HM2⟩
            case measure => simp [intOf]; omega
          · rw [hP.out, if_pos (by simpa using hlt0)] at HST
            have hge0 : 0 ≤ r := by omega
            go_wp2
            rotate_left
            · exfalso; have hx : (!decide (r < 0)) = false := by assumption
              simp at hx; omega
            go_roundw
            case rel => exact ⟨h + 1, j, by omega, by omega, by omega, by omega, by omega, by simp, rfl, hr2, hid (HST.out.symm.trans HE.out), HM2⟩
            case measure => simp [intOf]; omega
      · obtain rfl : i = j := by omega
        have HSS : Hid (i = symStart d0 (ltC cmp) L a m b) := hid (by rw [← HE.out, bsearch.eq_1, if_neg (by omega)])
        obtain ⟨e, he⟩ : ∃ e, e = nn - i := ⟨_, rfl⟩
        have hI4 : (nn : Int) - (i : Int) = (e : Int) := by have := HNN.out; omega
        have k6 : e ≤ b := by omega
        have k7 : i ≤ m ∧ mid ≤ e := by have := HNN.out; omega
        obtain ⟨k7, k8⟩ := k7
        have HDE : Hid (sym d0 (ltC cmp) L a m b = (if mid < e ∧ e < b then sym d0 (ltC cmp) (if a < i ∧ i < mid then sym d0 (ltC cmp) (symRot d0 (ltC cmp) L a m b) a i mid else symRot d0 (ltC cmp) L a m b) mid e b else (if a < i ∧ i < mid then sym d0 (ltC cmp) (symRot d0 (ltC cmp) L a m b) a i mid else symRot d0 (ltC cmp) L a m b))) := hid (by
          rw [HDEF.out, ← HMI.out, ← HNN.out, ← HSS.out, ← he])
        have HRT : Hid (symRot d0 (ltC cmp) L a m b = if i < m ∧ m < e then rot d0 L i m e else L) := hid (by unfold symRot; rw [← HMI.out, ← HNN.out, ← HSS.out, ← he])
        have HEE := hid he
        clear he HE HSS
        go_upto_region 39 with fail
        go_cut [185] from 25 (fun s185 wx => s185 = .bool (decide (i < m ∧ m < e)) ∧ wr = wx)
        case first =>
          by_cases c1 : i < m <;> by_cases c2 : m < e <;> (go_wp2_with fail; go_meet; exact ⟨by simp [c1, c2], rfl⟩)
        case rest =>
        obtain ⟨rfl, rfl⟩ := hcut
        go_upto_if 185 with fail
        go_cut [] from 25 (fun wx => ∃ M : List Itm, Hid (M = symRot d0 (ltC cmp) L a m b) ∧ Hid (M.length = L.length) ∧ RowL wx base g cap M ∧ Hid (Mv (fun j => j = g) w wx))
        case first =>
          as_aux_lemma =>
            by_cases c : i < m ∧ m < e
            · have q1 : decide (i < m ∧ m < e) = true := decide_eq_true c
              have hro := rot_any base g cap L i m e (.func (.func cf) #[] #[]) hl c.1 c.2 (by omega) wr hrow
              have HRO := hid hro
              have HRT2 : Hid (symRot d0 (ltC cmp) L a m b = rot d0 L i m e) := hid (by rw [HRT.out, if_pos c])
              clear hro
              go_wp2_with fail
              refine HRO.out.mono ?_; rintro e w1 ⟨⟨v, rfl⟩, hr1, hm1⟩
              have HR1 := hid hr1
              have HM1 := hid hm1
              clear hr1 hm1
              go_wp2_with fail
              go_meet
              exact ⟨_, hid HRT2.out.symm, hid (rot_len d0 _ _ _ _), HR1.out, hid (HM.out.trans HM1.out (fun _ h => h) (fun _ _ h => h))⟩
            · have q1 : decide (i < m ∧ m < e) = false := decide_eq_false c
              have HRT2 : Hid (symRot d0 (ltC cmp) L a m b = L) := hid (by rw [HRT.out, if_neg c])
              go_wp2_with fail
              go_meet
              exact ⟨_, hid HRT2.out.symm, hid rfl, hrow, HM⟩
        case rest =>
          clear hrow HM HRT
          obtain ⟨M, HMM, HMl, hrow, HM⟩ := hcut
          have hih : ∀ (a' m' b' : Nat), b' - a' ≤ N → a' < m' → m' < b' → b' ≤ L.length → ∀ (M : List Itm), M.length = L.length → ∀ w, RowL w base g cap M → Calls Try.prog 56 #[.slice (some ⟨g, 0, none⟩) L.length cap, .int .i64 (a' : Int), .int .i64 (m' : Int), .int .i64 (b' : Int), .func (.func cf) #[] #[]] w fun e w' => (∃ v, e = .returned v) ∧ RowL w' base g cap (sym d0 (ltC cmp) M a' m' b') ∧ Mv (fun k => k = g) w w' :=
            fun a' m' b' g1 g2 g3 g4 M hM w hw => hM ▸ HIH.out M a' m' b' g1 (by rw [hM]; exact hl) g2 g3 (by rw [hM]; exact g4) w hw
          have HIH2 := hid hih
          clear hih
          go_upto_region 41 with fail
          go_cut [199] from 25 (fun s199 wx => s199 = .bool (decide (a < i ∧ i < mid)) ∧ wc = wx)
          case first =>
            by_cases c1 : a < i <;> by_cases c2 : i < mid <;> (go_wp2_with fail; go_meet; exact ⟨by simp [c1, c2], rfl⟩)
          case rest =>
          obtain ⟨rfl, rfl⟩ := hcut
          go_upto_if 199 with fail
          go_cut [] from 25 (fun wx => ∃ M' : List Itm, Hid (M' = if a < i ∧ i < mid then sym d0 (ltC cmp) (symRot d0 (ltC cmp) L a m b) a i mid else symRot d0 (ltC cmp) L a m b) ∧ Hid (M'.length = L.length) ∧ RowL wx base g cap M' ∧ Hid (Mv (fun j => j = g) w wx))
          case first =>
            as_aux_lemma =>
              by_cases c : a < i ∧ i < mid
              · have q1 : decide (a < i ∧ i < mid) = true := decide_eq_true c
                have HRO := hid (HIH2.out a i mid (by have := HMI.out; have := HNB.out; omega) c.1 c.2 (by omega) M HMl.out _ hrow)
                have HRT2 : Hid (sym d0 (ltC cmp) M a i mid = if a < i ∧ i < mid then sym d0 (ltC cmp) (symRot d0 (ltC cmp) L a m b) a i mid else symRot d0 (ltC cmp) L a m b) := hid (by rw [if_pos c, HMM.out])
                go_wp2_with fail
                refine HRO.out.mono ?_; rintro e w1 ⟨⟨v, rfl⟩, hr1, hm1⟩
                have HR1 := hid hr1
                have HM1 := hid hm1
                clear hr1 hm1
                go_wp2_with fail
                go_meet
                exact ⟨_, HRT2, hid (by rw [sym_len d0 _ _ _ _ _ _ (Nat.le_refl _)]; exact HMl.out), HR1.out, hid (HM.out.trans HM1.out (fun _ h => h) (fun _ _ h => h))⟩
              · have q1 : decide (a < i ∧ i < mid) = false := decide_eq_false c
                have HRT2 : Hid (M = if a < i ∧ i < mid then sym d0 (ltC cmp) (symRot d0 (ltC cmp) L a m b) a i mid else symRot d0 (ltC cmp) L a m b) := hid (by rw [if_neg c, HMM.out])
                go_wp2_with fail
                go_meet
                exact ⟨_, HRT2, HMl, hrow, HM⟩
          case rest =>
            as_aux_lemma =>
              clear hrow HM HMM HMl
              obtain ⟨M', HMM, HMl, hrow, HM⟩ := hcut
              by_cases c1 : mid < e
              · by_cases c2 : e < b
                · have q1 : decide ((mid : Int) < (e : Int)) = true := decide_eq_true (by omega)
                  have q2 : decide ((e : Int) < (b : Int)) = true := decide_eq_true (by omega)
                  have HRO := hid (HIH2.out mid e b (by have := HMI.out; have := HNB.out; omega) c1 c2 (by omega) M' HMl.out wc hrow)
                  have HRT2 : Hid (sym d0 (ltC cmp) L a m b = sym d0 (ltC cmp) M' mid e b) := hid (by rw [HDE.out, if_pos ⟨c1, c2⟩, HMM.out])
                  go_wp2_with fail
                  refine HRO.out.mono ?_; rintro e w1 ⟨⟨v, rfl⟩, hr1, hm1⟩
                  have HR1 := hid hr1
                  have HM1 := hid hm1
                  clear hr1 hm1
                  go_wp2
                  go_end0
                  exact ⟨⟨_, rfl⟩, by rw [HRT2.out]; exact HR1.out, HM.out.trans HM1.out (fun _ h => h) (fun _ _ h => h)⟩
                · have q1 : decide ((mid : Int) < (e : Int)) = true := decide_eq_true (by omega)
                  have q2 : decide ((e : Int) < (b : Int)) = false := decide_eq_false (by omega)
                  have HRT2 : Hid (sym d0 (ltC cmp) L a m b = M') := hid (by rw [HDE.out, if_neg (fun h => c2 h.2), HMM.out])
                  go_wp2
                  go_end0
                  exact ⟨⟨_, rfl⟩, by rw [HRT2.out]; exact hrow, HM.out⟩
              · have q1 : decide ((mid : Int) < (e : Int)) = false := decide_eq_false (by omega)
                have HRT2 : Hid (sym d0 (ltC cmp) L a m b = M') := hid (by rw [HDE.out, if_neg (fun h => c1 h.1), HMM.out])
                go_wp2
                go_end0
                exact ⟨⟨_, rfl⟩, by rw [HRT2.out]; exact hrow, HM.out⟩
end Go.Proofs.Ytiemcfkekaklgaa.StabI
