/- SeqWithin: what is within two keys is the document's; the parts are all. -/
import Derived.Test.YtiemcfkekaklgaaSeqLib
import Derived.Deep.CutRange
import Derived.Deep.DeepCutAuto
set_option linter.unusedVariables false
set_option linter.unusedSimpArgs false
namespace Go.Proofs.Ytiemcfkekaklgaa.W02
open Go.RowKit Go.Shelf Go.Proofs.Ytiemcfkekaklgaa.Lib Go.Proofs.Ytiemcfkekaklgaa.Prs Go.Proofs.Ytiemcfkekaklgaa.Run Go.Proofs.Ytiemcfkekaklgaa.Runs Go.Proofs.Ytiemcfkekaklgaa.Lt Go.Proofs.Ytiemcfkekaklgaa.Sp
attribute [local go_sem] Str_toList
theorem own_lta {w : World} {base n m c : Nat} {e : TypeId} {size : Nat} {xs : List Value} {A : Option Addr} (h : w.ownsRow base e size (.slice A m c) n xs) : ∀ b o, A = some ⟨b, o, none⟩ → b < w.heap.size := by
  rintro b o rfl
  exact own_lt' h b rfl
set_option maxRecDepth 100000 in
theorem within1_any (B : Nat) (fr : List UInt8) (x : Itm) (w : World) (h : w.cell? ⟨B, 0, none⟩ = some (.string (Str fr))) :
    Calls Try.prog 20 #[.string (Str x.1), (.int .i64 (x).2), .pointer (some ⟨B, 0, none⟩)] w fun e w' => e = .returned (.bool (!ltS x.1 fr)) ∧ w' = w := by
  go_enter Try.func20, Try.ntmps20
  cases r : ltS x.1 fr with
  | true =>
    have r' : Op.bytesLess x.1 fr = true := r
    go_wp2
    go_ret
    exact ⟨rfl, rfl⟩
  | false =>
    have r' : Op.bytesLess x.1 fr = false := r
    go_wp2
    go_ret
    exact ⟨rfl, rfl⟩
theorem inW_nil (fr : List UInt8) (x : Itm) : inW [] fr x = ltS x.1 fr := by
  have : ltS x.1 [] = false := by unfold ltS; cases x.1 <;> rfl
  unfold inW; rw [this]; rfl
theorem parts (fr : List UInt8) : ∀ (l : List Itm), Ris l → l.filter (inW [] fr) ++ l.filter (fun x => !ltS x.1 fr) = l := by
  intro l
  induction l with
  | nil => intro _; rfl
  | cons x l ih =>
    intro h
    unfold Ris at h
    rw [List.pairwise_cons] at h
    have hi := ih h.2
    cases r : ltS x.1 fr with
    | true =>
      rw [List.filter_cons, if_pos (by rw [inW_nil, r]), List.filter_cons, if_neg (by rw [r]; decide), List.cons_append, hi]
    | false =>
      have hno : (x :: l).filter (inW [] fr) = [] := by
        rw [List.filter_eq_nil_iff]
        intro y hy
        rw [inW_nil]
        rcases List.mem_cons.1 hy with e | hy
        · rw [e, r]; decide
        · cases r2 : ltS y.1 fr with
          | false => decide
          | true => rw [lt_trans _ _ _ (h.1 y hy) r2] at r; cases r
      have hall : (x :: l).filter (fun x => !ltS x.1 fr) = x :: l := by
        rw [List.filter_eq_self]
        intro y hy
        have : ¬ inW [] fr y = true := (List.filter_eq_nil_iff.1 hno) y hy
        rw [inW_nil] at this
        simpa using this
      rw [hno, hall]; rfl
set_option maxRecDepth 100000 in
set_option maxHeartbeats 6400000 in
theorem seqwithin_any (A : Option Addr) (c : Nat) (l : List Itm) (fr tk : List UInt8) (hl : l.length ≤ 100000000000000) (w : World) (hrl : Rd w A (its l)) :
    Calls Try.prog 4 #[.slice A l.length c, .string (Str fr), .string (Str tk)] w fun e w' => e = .returned (.bool true) ∧ Below w.heap.size w w' := by
  have HRL := hid hrl
  clear hrl
  obtain ⟨wz, hwz⟩ : ∃ wz, wz = w.alloc (.cells #[.string (Str fr)] 9) := ⟨_, rfl⟩
  have hbz : Below w.heap.size w wz := by rw [hwz]; exact below_al (below_rf w) _
  have hfz : wz.cell? ⟨w.heap.size, 0, none⟩ = some (.string (Str fr)) := by rw [hwz, World.cell?_alloc_at _ _ _ _ rfl]; rfl
  have hltz : w.heap.size < wz.heap.size := by rw [hwz]; simp
  have HBZ := hid hbz
  have HFR : Hid (∀ W, Below wz.heap.size wz W → W.cell? ⟨w.heap.size, 0, none⟩ = some (.string (Str fr))) := hid (fun W hW => (hW.cell hltz).trans hfz)
  clear hbz hfz
  go_enter Try.func4, Try.ntmps4
  go_wp2_with fail
  rw [← hwz]
  clear hwz
  refine (awake_any wz).mono ?_; rintro e w0 ⟨rfl, hb0⟩
  have HB0 := hid hb0
  clear hb0
  by_cases h1 : 300 < l.length
  · have q1 : decide ((300 : Int) < (l.length : Int)) = true := decide_eq_true (by omega)
    go_wp2
    go_ret
    exact ⟨rfl, below_tr HBZ.out HB0.out⟩
  have q1 : decide ((300 : Int) < (l.length : Int)) = false := decide_eq_false (by omega)
  have HSL := hid (R02.sorted_any A c l (by omega) w0 (HRL.out.below (below_tr HBZ.out HB0.out)))
  go_wp2_with fail
  refine HSL.out.mono ?_; rintro e w1 ⟨⟨rl, v1, rfl, hown1, hso1, hlen1⟩, hb1⟩
  obtain ⟨A1, c1, rfl, hcc1, hrd1, hA1, hsp1⟩ := Rd.own' hown1
  have HPA := hid (pairs_any A1 c1 rl (by omega) w1 hrd1)
  have HB1 := hid (below_tr HB0.out hb1)
  have HR1 := hid hrd1
  have HSO1 := hid hso1.ris
  clear hb1 hown1 hrd1 hso1 hA1 hsp1 hcc1
  go_wp2_with fail
  refine HPA.out.mono ?_; rintro e w2 ⟨⟨va, rfl, hown2⟩, hb2⟩
  obtain ⟨Aa, ca, rfl, hca, hrda, hAa, hspa⟩ := Rd.own' hown2
  have HB2 := hid (below_tr HB1.out hb2)
  have HR2 := hid (HR1.out.below hb2)
  have HOF := hid (of_new Aa ca rl w2 hrda (own_lta hown2))
  have hge2 : ∀ k, ROf w2.heap.size Aa k → w.heap.size < k := fun k hk => by
    have g1 := HB1.out.size
    have g2 := HB2.out.size
    rcases hk with h | ⟨b, o, e, h⟩
    · omega
    · subst e; have := own_block_base hown2 b rfl; omega
  have HGE := hid hge2
  clear hb2 hown2 hrda hAa hspa hca hge2
  go_wp2_with fail
  refine HOF.out.mono ?_; rintro e w3 ⟨rfl, hof3, hb3⟩
  have HB3 := hid (below_tr HB2.out hb3)
  have HR3 := hid (HR2.out.below hb3)
  have HO3 := hid hof3
  have hs3 := hof3.box.lt
  have HLT3 := hid hof3.rlt
  clear hb3 hof3
  -- the contracts of the region
  obtain ⟨Bs, hBs⟩ : ∃ Bs, Bs = w2.heap.size := ⟨_, rfl⟩
  rw [← hBs] at HO3 hs3 HLT3 HGE ⊢
  clear hBs
  have HWI : Hid (∀ W, Below w3.heap.size w3 W → Calls Try.prog 17 #[FOf Bs, .string (Str fr), .string (Str tk)] W fun e W1 => ∃ q, e = .returned (FWi q) ∧ Below w3.heap.size w3 W1 ∧ Hid (WithinAt W1 q Bs fr tk ∧ w3.heap.size ≤ q ∧ Below W.heap.size W W1)) := hid (fun W hW =>
    (within_new Bs fr tk W).mono fun e W1 h => ⟨W.heap.size, h.1, hW.trans (h.2.2.mono hW.size), hid ⟨h.2.1, hW.size, h.2.2⟩⟩)
  have HLI : Hid (∀ q W1 W, Below w3.heap.size w3 W → WithinAt W1 q Bs fr tk ∧ w3.heap.size ≤ q → Below W1.heap.size W1 W → Calls Try.prog 16 #[FWi q] W fun e W2 => ∃ A c, e = .returned (.slice A (rl.filter (inW fr tk)).length c) ∧ Below w3.heap.size w3 W2 ∧ Hid (Rd W2 A (its (rl.filter (inW fr tk))) ∧ Below W.heap.size W W2)) := hid (fun q W1 W hW hq h1 =>
    (list_within (HO3.out.below hW) (by omega) HSO1.out (hq.1.below h1) (fun k hk => Nat.lt_of_lt_of_le (HLT3.out k hk) hq.2)).mono fun e W2 ⟨⟨v, he, ho⟩, hb⟩ => by
      obtain ⟨A, c, rfl, _, hr, _, _⟩ := Rd.own' ho
      exact ⟨A, c, he, hW.trans (hb.mono hW.size), hid ⟨hr, hb⟩⟩)
  have HRW : Hid (∀ W, Below w3.heap.size w3 W → Calls Try.prog 18 #[.slice A1 rl.length c1, .string (Str fr), .string (Str tk)] W fun e W2 => ∃ A c, e = .returned (.slice A (rl.filter (inW fr tk)).length c) ∧ Below w3.heap.size w3 W2 ∧ Hid (Rd W2 A (its (rl.filter (inW fr tk))) ∧ Below W.heap.size W W2)) := hid (fun W hW =>
    (R02.rwithin_any A1 c1 rl fr tk (by omega) W (HR3.out.below hW)).mono fun e W2 ⟨⟨v, he, ho⟩, hb⟩ => by
      obtain ⟨A, c, rfl, _, hr, _, _⟩ := Rd.own' ho
      exact ⟨A, c, he, hW.trans (hb.mono hW.size), hid ⟨hr, hb⟩⟩)
  have hfl := List.length_filter_le (inW fr tk) rl
  have HSM : Hid (∀ (Ax Ay : Option Addr) (cx cy : Nat) W, Below w3.heap.size w3 W → Rd W Ax (its (rl.filter (inW fr tk))) → Rd W Ay (its (rl.filter (inW fr tk))) → Calls Try.prog 12 #[.slice Ax (rl.filter (inW fr tk)).length cx, .slice Ay (rl.filter (inW fr tk)).length cy] W fun e W2 => e = .returned (.bool true) ∧ Below w3.heap.size w3 W2) := hid (fun Ax Ay cx cy W hW h1 h2 =>
    (same_any Ax Ay cx cy _ _ (by omega) (by omega) W h1 h2).mono fun e W2 h => ⟨by rw [h.1, decide_eq_true rfl], hW.trans (h.2.mono hW.size)⟩)
  have HF3 : Hid (∀ W, Below w3.heap.size w3 W → W.cell? ⟨w.heap.size, 0, none⟩ = some (.string (Str fr))) := hid (fun W hW => HFR.out W (below_tr HB3.out hW))
  have hl3 : rl.length ≤ 300 := by omega
  obtain ⟨F, hF⟩ : ∃ F, F = rl.filter (inW fr tk) := ⟨_, rfl⟩
  rw [← hF] at HLI HRW HSM hfl
  clear hF
  go_upto_region 7 with fail
  go_cut [31] from 21 to 31 (fun v wx => v = .bool false ∧ Below w3.heap.size w3 wx)
  case first =>
    have hbc : Below w3.heap.size w3 w3.drew := below_drewN (below_rf w3) 1
    have cc := HF3.out _ hbc
    go_region_with (first
      | (with_reducible refine (HWI.out _ (by assumption)).mono ?_; rintro e W1 ⟨q, rfl, hb1, HW1⟩; have cc1 := HF3.out _ hb1)
      | (with_reducible refine (HLI.out _ _ _ (by assumption) ⟨HW1.out.1, HW1.out.2.1⟩ (by first | exact below_rf _ | exact HR9.out.2)).mono ?_; rintro e W2 ⟨A8, c8, rfl, hb2, HL8⟩; have cc2 := HF3.out _ hb2)
      | (with_reducible refine (HRW.out _ (by assumption)).mono ?_; rintro e W3 ⟨A9, c9, rfl, hb3, HR9⟩; have cc3 := HF3.out _ hb3)
      | (with_reducible refine (HSM.out _ _ _ _ _ (by assumption) (by first | exact HL8.out.1 | exact HL8.out.1.below HR9.out.2) (by first | exact HR9.out.1 | exact HR9.out.1.below HL8.out.2 | exact (HR9.out.1.below HW1.out.2.2).below HL8.out.2)).mono ?_; rintro e W4 ⟨rfl, hb4⟩))
    all_goals
      go_wp2_with fail
      go_meet
      exact ⟨rfl, hb4⟩
  case rest =>
    obtain ⟨rfl, hbc⟩ := hcut
    have HBC := hid hbc
    have cc := HF3.out _ hbc
    have hwn := within_new Bs [] fr wc
    rw [Str_nil] at hwn
    have HWN := hid hwn
    have hsc := hbc.size
    clear hbc hwn HWI HLI HRW HSM hfl
    go_wp2_with fail
    (with_reducible refine HWN.out.mono ?_)
    rintro e w4 ⟨rfl, hw4, hb4⟩
    have HB4 := hid (below_tr HBC.out hb4)
    have cc4 := HF3.out _ HB4.out
    have HLW := hid (list_within (HO3.out.below HB4.out) (by omega) HSO1.out hw4 (fun k hk => by have := HLT3.out k hk; omega))
    clear hb4 hw4
    go_wp2_with fail
    (with_reducible refine HLW.out.mono ?_)
    rintro e w5 ⟨⟨v5, rfl, hown5⟩, hb5⟩
    have HB5 := hid (below_tr HB4.out hb5)
    have cc5 := HF3.out _ HB5.out
    have s5 := hb5.size
    have HOW5 := hid hown5
    obtain ⟨A5, c5, rfl⟩ := own_succ hown5
    have HON := hid (only_new Bs 20 #[.pointer (some ⟨w.heap.size, 0, none⟩)] w5)
    have hl5 := List.length_filter_le (inW [] fr) rl
    clear hb5 hown5
    go_wp2_with fail
    (with_reducible refine HON.out.mono ?_)
    rintro e w6 ⟨rfl, hw6, hb6⟩
    have HB6 := hid (below_tr HB5.out hb6)
    have cc6 := HF3.out _ HB6.out
    have hs35 := HB5.out.size
    have hs3z := HB3.out.size
    have HS56 := hid (Nat.le_trans s5 hb6.size)
    have hlo := list_only (enters_of Try.func20 (by kernel_rfl) rfl) (fun x => !ltS x.1 fr) (fun k => k = w.heap.size) (fun k hk => by
        subst hk
        have := hb6.size
        refine ⟨by omega, by omega, by omega, fun h => ?_⟩
        exact absurd (HGE.out _ h) (by omega)) (fun i W' hi hs => within1_any w.heap.size fr (itm rl i) W' (cell_same cc6 (hs _ rfl))) (HO3.out.below HB6.out) (by omega) hw6 (fun k hk => by have := HLT3.out k hk; omega)
    have HLO := hid hlo
    have HO5 := hid (own_of_below HOW5.out hb6)
    clear hb6 hw6 hlo hs35 hs3z
    go_wp2_with fail
    (with_reducible refine HLO.out.mono ?_)
    rintro e w7 ⟨⟨v7, rfl, hown7⟩, hb7⟩
    obtain ⟨A7, c7, rfl, hc7, hr7, hA7, hsp7⟩ := Rd.own' hown7
    have hown57 := own_of_below HO5.out hb7
    have HB7 := hid (below_tr HB6.out hb7)
    have hlf := List.length_filter_le (fun x : Itm => !ltS x.1 fr) rl
    have hbs5 : w4.heap.size ≤ w7.heap.size := by have := hb7.size; have := HS56.out; omega
    have hpa := parts fr rl HSO1.out
    obtain ⟨F5, hF5⟩ : ∃ F5, F5 = rl.filter (inW [] fr) := ⟨_, rfl⟩
    obtain ⟨F7, hF7⟩ : ∃ F7, F7 = rl.filter (fun x => !ltS x.1 fr) := ⟨_, rfl⟩
    rw [← hF5] at hown57 hpa hl5 ⊢
    rw [← hF7] at hr7 hA7 hpa hlf ⊢
    have HPA2 := hid hpa
    clear hb7 hown7 hpa hF5 hF7
    go_wp2_with (at_builtin; (refine wpList_appS (w0 := w7) ti_pairR (.tmp 40) (.tmp 41) (by rfl) (by rfl) w4.heap.size A7 F7.length c7 (its F7) (by rfl) (by rfl) hown57 (by rw [its_len, Nat.mul_comm]) hr7 hA7 hsp7 (its_one F7) (Below.refl w4.heap.size w7) hbs5 (by omega) ?_; intro v8 w8 ho8 hg8 hv8 hB8 hs8; obtain ⟨A8, c8, rfl⟩ := own_succ ho8))
    have HBB : Hid (Below w3.heap.size w3 w8) := hid (HB7.out.trans (hB8.mono (by have := HB4.out.size; omega)))
    obtain ⟨_, _, e8, _, hr8, _, _⟩ := Rd.own' ho8
    injection e8 with e81 e82 e83
    subst e81
    have hcat : its F5 ++ its F7 = its rl := by rw [← its_app, HPA2.out]
    have hlen : F5.length + F7.length = rl.length := by rw [← List.length_append, HPA2.out]
    rw [hcat] at hr8
    have hsa := same_any A8 A1 c8 c1 rl rl (by omega) (by omega) w8 hr8 (HR3.out.below HBB.out)
    rw [decide_eq_true rfl] at hsa
    have HSA := hid hsa
    rw [hlen]
    clear hB8 hg8 ho8 hr8 hcat hlen hsa hv8
    (with_reducible refine HSA.out.mono ?_)
    rintro e w9 ⟨rfl, hb9⟩
    have HB9 := hid ((HBZ.out.trans (HB3.out.mono HBZ.out.size)).trans ((HBB.out.trans (hb9.mono HBB.out.size)).mono (by have := HBZ.out.size; have := HB3.out.size; omega)))
    clear hb9
    go_wp2
    go_ret
    exact ⟨rfl, HB9.out⟩
end Go.Proofs.Ytiemcfkekaklgaa.W02
