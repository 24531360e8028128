/- The laws of layer 11, walked: awake; bytes that are too long. -/
import Derived.Test.YteeonfnaikndfaaW11
import Derived.Test.YteeonfnaikndfaaWit
import Derived.Test.YteeonfnaikndfaaL08
import Derived.Test.YteeonfnaikndfaaW08k
set_option linter.unusedVariables false
set_option linter.unusedSimpArgs false
namespace Go.Proofs.Yteeonfnaikndfaa.W11
open Go Go.RowKit Go.Proofs.Yteeonfnaikndfaa.Lib Go.Proofs.Yteeonfnaikndfaa.Sha Go.Proofs.Yteeonfnaikndfaa.T07 Go.Proofs.Yteeonfnaikndfaa.T08 Go.Proofs.Yteeonfnaikndfaa.QTail Go.Proofs.Yteeonfnaikndfaa.Itms Go.Proofs.Yteeonfnaikndfaa.WSeq Go.Proofs.Yteeonfnaikndfaa.Ord Go.Proofs.Yteeonfnaikndfaa.Tree Go.Proofs.Yteeonfnaikndfaa.W08 Go.Proofs.Yteeonfnaikndfaa.Wit Go.Proofs.Yteeonfnaikndfaa.W01 Go.Proofs.Yteeonfnaikndfaa.Bld Go.Proofs.Yteeonfnaikndfaa.Mp Go.Proofs.Yteeonfnaikndfaa.Inj
open Go.Proofs.Yteeonfnaikndfaa.Run hiding round_any yield_any
attribute [local go_sem] Str_size Str_toList Str_extract
def l1 : List Itm := [([97], [49])]
def nd1 : List UInt8 := [80, 0, 1, 0, 1, 97, 0, 1, 49]
theorem nd1_eq : nodeB 0 l1 = nd1 := by decide
theorem right1 : rightS l1 = true := by decide
theorem parse1 : parseS nd1 = some (0, l1) := by decide
theorem cut1 : cutS (l1.map form) = [1] := by
  have hp : partS (l1.map form) = 1 := by
    unfold partS
    rw [partGo_stop _ _ _ _ (by decide)]
    rfl
  rw [cut_cons _ (by decide), hp]
  rfl
theorem tree1 : treeS l1 = (sha nd1, [nd1]) := by
  have h1 : levelS 0 l1 = ([upS 0 l1], [nodeB 0 l1]) := by
    unfold levelS; rw [cut1]; rfl
  rw [treeS, if_neg (by decide), h1, rise_one 1 _ rfl, List.append_nil, nd1_eq]
  have h2 : (upS 0 l1).2 = sha nd1 ++ be 1 8 := by rw [upS, nd1_eq]; rfl
  show ((upS 0 l1).2.take 32, [nd1]) = _
  rw [h2, List.take_left' (sha_len _)]
theorem heap1 : heapF [nd1] = putF (fun _ => none) (sha nd1) nd1 := rfl
/-- a source of one node -/
theorem one_src (rt nd : List UInt8) (l : List Itm) (hp : parseS nd = some (0, l)) (hrt : sha nd = rt) (hnd : nd.length ≤ 1000) : (∀ p s, putF (fun _ => none) rt nd p = some s → sha s = p ∧ s.length < 4294967296) ∧ ∀ key, wayS (srcNx (putF (fun _ => none) rt nd)) key () rt = some ([nd], (0, l), ()) := by
  refine ⟨fun p s h => ?_, fun key => ?_⟩
  · unfold putF at h
    split at h
    · rename_i e; injection h with h; subst h; exact ⟨hrt.trans e.symm, by omega⟩
    · cases h
  · unfold wayS
    rw [way_step]
    have e1 : srcNx (putF (fun _ => none) rt nd) () rt = some (nd, ()) := by unfold srcNx putF; rw [if_pos rfl]
    rw [e1]
    dsimp only
    have e2 : nodeS nd 0 none = some (0, l) := by unfold nodeS; rw [hp]
    rw [e2]
    dsimp only
    rw [if_pos (by unfold endsAt; rfl)]
set_option maxRecDepth 100000 in
set_option maxHeartbeats 1600000 in
theorem awake_gen11 (rt nd p : List UInt8) (f : Src) (hT : treeS l1 = (rt, [nd])) (hrt : rt.length ≤ 1000000000) (hnd : nd.length ≤ 1000000000) (hF : heapF [nd] = f) (hff : ∀ k s, f k = some s → s.length ≤ 1000000000)
    (hw : wayS (srcNx f) [97] () rt = some ([nd], (0, l1), ())) (hp : p = bytesS [nd]) (hpl : p.length ≤ 1000000) (h1 : verifyS rt [97] p = some (some [49])) (h2 : verifyS rt [98] p = some none) (h3 : verifyS rt [97] (p ++ [120]) = none) (w : World) :
    Calls Try.prog 12 #[] w fun e w' => e = .returned (.bool true) ∧ Below w.heap.size w w' := by
  obtain ⟨w1, hw1⟩ : ∃ w1, w1 = w.alloc (Obj.cells #[.string (Str [97]), .string (Str [49])] 27) := ⟨_, rfl⟩
  have hal1 : Below w.heap.size w w1 := by rw [hw1]; exact below_al (below_rf w) _
  have hr1 : Rd w1 (some ⟨w.heap.size, 0, none⟩) (its l1) := by
    refine .inr ⟨_, _, rfl, fun j x hj => ?_⟩
    rw [hw1, World.cell?_alloc_at _ _ _ _ rfl, Nat.zero_add, ← hj]
    simp [its, l1]
  have HPA := hid (pairs_any (some ⟨w.heap.size, 0, none⟩) 1 l1 (by decide) w1 hr1)
  have HHW := hid hw
  have HHP := hid hp
  have HV1 := hid h1
  have HV2 := hid h2
  have HV3 := hid h3
  have HFF := hid hff
  clear hr1 hw hp h1 h2 h3 hff
  rw [Str_def, Str_def] at hw1
  go_enter Try.func12, Try.ntmps12
  go_wp2_with fail
  rw [← hw1]
  clear hw1
  refine HPA.out.mono ?_; rintro e w2 ⟨⟨v, rfl, hown2⟩, hb2⟩
  obtain ⟨Ap, cp, rfl, hcp, hrp, _, _⟩ := Rd.own' hown2
  have hbu := build_any Ap cp l1 hcp (by decide) w2 (fun b o e => own_low hown2 e) hrp
  have HBU := hid hbu
  have HB2 := hid (below_tr hal1 hb2)
  clear hbu hown2 hrp hcp hb2 hal1 HPA
  go_wp2_with fail
  refine HBU.out.mono ?_; rintro e w3 ⟨ho, hb3⟩
  rcases ho with ⟨hf, _⟩ | ⟨_, v, rfl, hown⟩
  · rw [right1] at hf; cases hf
  rw [hT] at hown ⊢
  obtain ⟨A, c, rfl, hcc, hrd, _, _⟩ := Rd.own' hown
  have hnh := newheap_any [nd] A c w3 (by simp) hrd (fun i hi => by
    obtain rfl : i = 0 := by simp at hi; omega
    exact hnd)
  rw [hF] at hnh
  have HNH := hid hnh
  have HB3 := hid (below_tr HB2.out hb3)
  clear hown hrd hnh HBU hb3 hcc
  go_wp2_with fail
  refine HNH.out.mono ?_; rintro e w4 ⟨⟨hb, mb, n, rfl, hn, hH, _, _⟩, hb4⟩
  have HPR := hid (prove_any hb mb n f HFF.out rt [97] hrt w4 hH)
  have HB4 := hid (below_tr HB3.out hb4)
  clear hH HNH hb4
  go_wp2_with fail
  rw [show (⟨#[97]⟩ : ByteArray) = Str [97] by rw [Str_def]]
  refine HPR.out.mono ?_; rintro e w5 ⟨ho, hb5⟩
  rw [HHW.out] at ho
  obtain rfl : e = _ := ho
  rw [← HHP.out]
  have HB5 := hid (below_tr HB4.out hb5)
  have HW1 := hid (verify_any rt [97] p hrt w5)
  rw [HV1.out] at HW1
  clear hb5 HPR
  go_wp2_with fail
  rw [show (⟨#[97]⟩ : ByteArray) = Str [97] by rw [Str_def]]
  (with_reducible refine HW1.out.mono ?_); rintro e w6 ⟨ho, hb6⟩
  obtain rfl : e = _ := ho
  have HB6 := hid (below_tr HB5.out hb6)
  have HW2 := hid (verify_any rt [98] p hrt w6)
  rw [HV2.out] at HW2
  clear hb6 HW1
  go_wp2_with fail
  rw [show (⟨#[98]⟩ : ByteArray) = Str [98] by rw [Str_def]]
  (with_reducible refine HW2.out.mono ?_); rintro e w7 ⟨ho, hb7⟩
  obtain rfl : e = _ := ho
  have HB7 := hid (below_tr HB6.out hb7)
  have HW3 := hid (verify_any rt [97] (p ++ [120]) hrt w7)
  rw [HV3.out] at HW3
  clear hb7 HW2
  go_wp2_with fail
  rw [show (⟨#[97]⟩ : ByteArray) = Str [97] by rw [Str_def], show Str p ++ (⟨#[120]⟩ : ByteArray) = Str (p ++ [120]) by rw [← Str_append]; congr 1; rw [Str_def]]
  (with_reducible refine HW3.out.mono ?_); rintro e w8 ⟨ho, hb8⟩
  obtain rfl : e = _ := ho
  have HB8 := hid (below_tr HB7.out hb8)
  clear hb8 HW3
  go_wp2
  go_ret
  exact ⟨rfl, HB8.out⟩
theorem nd1_short : nd1.length ≤ 1000 := by decide
theorem b1_eq (nd : List UInt8) (h : nd.length = 9) : (bytesS [nd]).length = 13 := by simp [bytesS, four, h]
theorem awake11_any (w : World) : Calls Try.prog 12 #[] w fun e w' => e = .returned (.bool true) ∧ Below w.heap.size w w' := by
  obtain ⟨o1, o2⟩ := one_src (sha nd1) nd1 l1 parse1 rfl nd1_short
  have hb : (bytesS [nd1]).length = 13 := b1_eq nd1 rfl
  have v1 := verify_way _ o1 (sha nd1) [97] _ _ _ (o2 [97]) (by omega)
  have v2 := verify_way _ o1 (sha nd1) [98] _ _ _ (o2 [98]) (by omega)
  have v3 := verify_more _ o1 (sha nd1) [97] _ _ _ [120] (o2 [97]) (by simp)
  have s1 : shownS (0, l1) [97] = some [49] := by decide
  have s2 : shownS (0, l1) [98] = none := by decide
  rw [s1] at v1
  rw [s2] at v2
  exact awake_gen11 (sha nd1) nd1 (bytesS [nd1]) (putF (fun _ => none) (sha nd1) nd1) tree1 (sha_short nd1) (by decide) heap1 (put_hff _ _ _ (by decide)) (o2 [97]) rfl (by omega) v1 v2 v3 w
end Go.Proofs.Yteeonfnaikndfaa.W11
