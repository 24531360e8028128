/- SeqJoined: two joined are the document's. -/
import Derived.Test.YtiemcfkekaklgaaMeets
import Derived.Test.YtiemcfkekaklgaaR02j
set_option linter.unusedVariables false
set_option linter.unusedSimpArgs false
namespace Go.Proofs.Ytiemcfkekaklgaa.W02
open Go.RowKit Go.Shelf Go.Proofs.Ytiemcfkekaklgaa.Lib Go.Proofs.Ytiemcfkekaklgaa.Prs Go.Proofs.Ytiemcfkekaklgaa.Run Go.Proofs.Ytiemcfkekaklgaa.Runs Go.Proofs.Ytiemcfkekaklgaa.Stab Go.Proofs.Ytiemcfkekaklgaa.QTail Go.Proofs.Ytiemcfkekaklgaa.Lt Go.Proofs.Ytiemcfkekaklgaa.Sp Go.Proofs.Ytiemcfkekaklgaa.Join
attribute [local go_sem] Str_toList
set_option maxRecDepth 100000 in
set_option maxHeartbeats 3200000 in
theorem seqjoined_any (A B : Option Addr) (c d : Nat) (l m : List Itm) (hl : l.length ≤ 100000000000000) (hm : m.length ≤ 100000000000000) (w : World) (hrl : Rd w A (its l)) (hrm : Rd w B (its m)) :
    Calls Try.prog 5 #[.slice A l.length c, .slice B m.length d] w fun e w' => e = .returned (.bool true) ∧ Below w.heap.size w w' := by
  have HRL := hid hrl
  have HRM := hid hrm
  clear hrl hrm
  go_enter Try.func5, Try.ntmps5
  go_wp2_with fail
  refine (awake_any w).mono ?_; rintro e w0 ⟨rfl, hb0⟩
  have HB0 := hid hb0
  clear hb0
  by_cases h1 : 300 < l.length
  · have q1 : decide ((300 : Int) < (l.length : Int)) = true := decide_eq_true (by omega)
    go_wp2
    go_ret
    exact ⟨rfl, HB0.out⟩
  have q1 : decide ((300 : Int) < (l.length : Int)) = false := decide_eq_false (by omega)
  by_cases h2 : 300 < m.length
  · have q2 : decide ((300 : Int) < (m.length : Int)) = true := decide_eq_true (by omega)
    go_wp2
    go_ret
    exact ⟨rfl, HB0.out⟩
  have q2 : decide ((300 : Int) < (m.length : Int)) = false := decide_eq_false (by omega)
  have HSL := hid (R02.sorted_any A c l (by omega) w0 (HRL.out.below HB0.out))
  go_wp2_with fail
  refine HSL.out.mono ?_; rintro e w1 ⟨⟨rl, v1, rfl, hown1, hso1, hlen1⟩, hb1⟩
  have HB1 := hid (below_tr HB0.out hb1)
  have HSM := hid (R02.sorted_any B d m (by omega) w1 (HRM.out.below HB1.out))
  have HO1 := hid hown1
  clear hb1 hown1 hso1
  go_wp2_with fail
  refine HSM.out.mono ?_; rintro e w2 ⟨⟨rm, v2, rfl, hown2, hso2, hlen2⟩, hb2⟩
  obtain ⟨A1, c1, rfl, hcc1, hrd1, hA1, hsp1⟩ := Rd.own' (own_of_below HO1.out hb2)
  obtain ⟨A2, c2, rfl, hcc2, hrd2, hA2, hsp2⟩ := Rd.own' hown2
  have HPA := hid (pairs_any A1 c1 rl (by omega) w2 hrd1)
  have HB2 := hid (below_tr HB1.out hb2)
  have HR1 := hid hrd1
  have HR2 := hid hrd2
  clear hb2 hown2 hrd1 hrd2 hso2 hA1 hsp1 hcc1 hA2 hsp2 hcc2
  go_wp2_with fail
  refine HPA.out.mono ?_; rintro e w3 ⟨⟨va, rfl, hown3⟩, hb3⟩
  obtain ⟨Aa, ca, rfl, hca, hrda, hAa, hspa⟩ := Rd.own' hown3
  have hlta : ∀ b o, Aa = some ⟨b, o, none⟩ → b < w3.heap.size := by
    rintro b o rfl
    exact own_lt' hown3 b rfl
  have HLA := hid hlta
  have HRDA := hid hrda
  have HB3 := hid (below_tr HB2.out hb3)
  have HR13 := hid (HR1.out.below hb3)
  have HR23 := hid (HR2.out.below hb3)
  clear hb3 hown3 hrda hAa hspa hlta
  go_wp2_with fail
  refine (of_any Aa rl.length ca w3).mono ?_; rintro e w4 ⟨rfl, hw4⟩
  have hal : Below w3.heap.size w3 w4 := by rw [hw4]; exact below_al (below_rf w3) _
  have hz4 : w4.heap.size = w3.heap.size + 1 := by rw [hw4]; simp
  have hc4 : w4.cell? ⟨w3.heap.size, 0, none⟩ = some (.slice Aa rl.length ca) := by rw [hw4, World.cell?_alloc_at _ _ _ _ rfl]; rfl
  have HB4 := hid (below_tr HB3.out hal)
  have HRA4 := hid (HRDA.out.below hal)
  have HR14 := hid (HR13.out.below hal)
  have HR24 := hid (HR23.out.below hal)
  have HC4 := hid hc4
  have HPB := hid (pairs_any A2 c2 rm (by omega) w4 HR24.out)
  clear hw4 hal hc4
  go_wp2_with fail
  refine HPB.out.mono ?_; rintro e w5 ⟨⟨vb, rfl, hown5⟩, hb5⟩
  obtain ⟨Ab, cb, rfl, hcb, hrdb, hAb, hspb⟩ := Rd.own' hown5
  have hgeb : ∀ b o, Ab = some ⟨b, o, none⟩ → w4.heap.size ≤ b ∧ b < w5.heap.size := by
    rintro b o rfl
    exact ⟨own_block_base hown5 b rfl, own_lt' hown5 b rfl⟩
  have hs5 := hb5.size
  have HGB := hid hgeb
  have HB5 := hid (below_tr HB4.out hb5)
  have hRl : ∀ k, ROf w3.heap.size Aa k → k < w5.heap.size := fun k hk => by
    rcases hk with h | ⟨b, o, e, h⟩
    · omega
    · have := HLA.out b o e; omega
  have hc5 : w5.cell? ⟨w3.heap.size, 0, none⟩ = some (.slice Aa rl.length ca) := (hb5.cell (by show w3.heap.size < _; omega)).trans HC4.out
  have HJ := hid (joined_any 38 #[.pointer (some ⟨w3.heap.size, 0, none⟩)] (enters_of Try.func38 (by kernel_rfl) rfl) rl rm (by omega) (by omega) _ _ (of_iter w3.heap.size Aa ca rl (by omega) w5 hc5 (HRA4.out.below hb5) hRl) w5 hRl (fun k hk => rfl)
    (fun k => ∃ o, Ab = some ⟨k, o, none⟩) (fun k ⟨o, e⟩ hr => by
      have := HGB.out k o e
      rcases hr with h | ⟨b, o', e', h⟩
      · omega
      · have := HLA.out b o' e'; omega) (fun k ⟨o, e⟩ => by have := HGB.out k o e; omega) Ab cb hcb hrdb hAb hspb (fun bb oo e => ⟨oo, e⟩))
  have HR15 := hid (HR14.out.below hb5)
  have HR25 := hid (HR24.out.below hb5)
  clear hb5 hc5 hRl hown5 hAb hspb hgeb hrdb hcb
  go_wp2_with fail
  refine HJ.out.mono ?_; rintro e w6 ⟨⟨vj, rfl, hown6⟩, hm6, hT6⟩
  have hb6 := hm6.quiet hT6
  have HB6 := hid (below_tr HB5.out hb6)
  have HRJ := hid (R02.joinr_any A1 A2 c1 c2 rl rm (by omega) (by omega) w6 (HR15.out.below hb6) (HR25.out.below hb6))
  have HO6 := hid hown6
  clear hm6 hT6 hb6 hown6
  go_wp2_with fail
  refine HRJ.out.mono ?_; rintro e w7 ⟨⟨vk, rfl, hown7⟩, hb7⟩
  obtain ⟨Aj, cj, rfl, hcj, hrdj, _, _⟩ := Rd.own' (own_of_below HO6.out hb7)
  obtain ⟨Ak, ck, rfl, hck, hrdk, _, _⟩ := Rd.own' hown7
  have HB7 := hid (below_tr HB6.out hb7)
  have hNm : (joinP rl rm).length ≤ 1000000000 := by
    have hjl := joinL_len rl rm
    unfold joinP
    rw [List.length_append, List.length_map, List.length_drop]; omega
  obtain ⟨J, hJ⟩ : ∃ J, J = joinP rl rm := ⟨_, rfl⟩
  rw [← hJ] at hrdj hrdk hNm ⊢
  obtain ⟨N, hN⟩ : ∃ N, N = J.length := ⟨_, rfl⟩
  rw [← hN] at hNm ⊢
  have HNN := hid hN
  have HRDJ := hid hrdj
  have HRDK := hid hrdk
  clear hJ hcj hck hrdj hrdk hown7 hb7 hN
  go_wp2
  go_loopw [42] (fun i wr => ∃ k : Nat, k ≤ N ∧ i = .int .i64 (k : Int) ∧ Below w7.heap.size w7 wr) (fun i _ => N - (intOf i).toNat)
  case atStart => exact ⟨0, Nat.zero_le _, rfl, below_rf w7⟩
  case round =>
    obtain ⟨k, hk, rfl, hB⟩ := hrel
    by_cases hlt : k < N
    · have hkJ : k < J.length := by rw [← HNN.out]; exact hlt
      obtain ⟨gj, oj, e9, j1, j2, j3, j4, j5⟩ := rd_btd (HRDJ.out.below hB) hkJ
      subst e9
      obtain ⟨⟨zk, zl, zr, zh, zg⟩, hz⟩ : ∃ z, z = btd J k := ⟨_, rfl⟩
      obtain ⟨gk, ok, e9, k1, k2, k3, k4, k5⟩ := rd_btd (HRDK.out.below (below_tr hB (below_al (below_rf wr) (Obj.cells #[.string (Str zk), .int .i64 zl, .int .i64 zr, .bool zh, .bool zg] 45)))) hkJ
      subst e9
      rw [← hz] at j1 j2 j3 j4 j5 k1 k2 k3 k4 k5
      dsimp only at j1 j2 j3 j4 j5 k1 k2 k3 k4 k5
      have hal : Below w7.heap.size w7 ((wr.alloc (Obj.cells #[.string (Str zk), .int .i64 zl, .int .i64 zr, .bool zh, .bool zg] 45)).alloc (Obj.cells #[.string (Str zk), .int .i64 zl, .int .i64 zr, .bool zh, .bool zg] 46)) := below_tr hB (below_al (below_al (below_rf wr) _) _)
      have HAL := hid hal
      clear hz hal hkJ
      go_wp2
      go_roundw
      case rel => exact ⟨k + 1, by omega, by simp, HAL.out⟩
      case measure => simp [intOf]; omega
    · obtain rfl : k = N := by omega
      have HB8 := hid (below_tr HB7.out hB)
      go_wp2
      go_ret
      exact ⟨rfl, HB8.out⟩
end Go.Proofs.Ytiemcfkekaklgaa.W02
