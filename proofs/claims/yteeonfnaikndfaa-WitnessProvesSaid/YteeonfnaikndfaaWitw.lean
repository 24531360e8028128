/- The walk of layer 9's statements' look for two unlike texts of one fingerprint, in several lists. Layer 11 in plain words: in a whole tree each key has a way, whose last node shows what the map has. Layer 11 in plain words: a proof of a map is short, is taken and shows what the map has; by another root it isn't taken; that a key isn't there is proved by the map without it alone. -/
import Derived.Test.YteeonfnaikndfaaW08o
import Derived.Test.YteeonfnaikndfaaW11f
import Derived.Test.YteeonfnaikndfaaTreed
set_option linter.unusedVariables false
set_option linter.unusedSimpArgs false
namespace Go.Proofs.Yteeonfnaikndfaa.W08
open Go.RowKit Go.Proofs.Yteeonfnaikndfaa.Lib Go.Proofs.Yteeonfnaikndfaa.Sha Go.Proofs.Yteeonfnaikndfaa.T08 Go.Proofs.Yteeonfnaikndfaa.QTail Go.Proofs.Yteeonfnaikndfaa.Itms Go.Proofs.Yteeonfnaikndfaa.WSeq Go.Proofs.Yteeonfnaikndfaa.Bld Go.Proofs.Yteeonfnaikndfaa.Mp Go.Proofs.Yteeonfnaikndfaa.W01 Go.Proofs.Yteeonfnaikndfaa.Inj
attribute [local go_sem] Str_size Str_toList Str_extract sha_len
def lat (ls : List (List (List UInt8))) (j : Nat) : List (List UInt8) := ls.getD j []
/-- a row of rows of texts -/
def RdRows (w : World) (b o : Nat) (ls : List (List (List UInt8))) : Prop := ∀ j, j < ls.length → ∃ A c, w.cell? ⟨b, o + j, none⟩ = some (.slice A (lat ls j).length c) ∧ Rd w A (strs (lat ls j))
theorem RdRows.below {w w1 : World} {b o : Nat} {ls : List (List (List UInt8))} (h : RdRows w b o ls) (hb : Below w.heap.size w w1) : RdRows w1 b o ls := fun j hj => by
  obtain ⟨A, c, h1, h2⟩ := h j hj
  exact ⟨A, c, (hb.cell (p := ⟨b, o + j, none⟩) (World.block_lt_of_cell? _ _ h1)).trans h1, h2.below hb⟩
theorem flat_take (ls : List (List (List UInt8))) (k : Nat) (h : k < ls.length) : (ls.take (k + 1)).flatten = (ls.take k).flatten ++ lat ls k := by
  rw [List.take_succ_eq_append_getElem h, List.flatten_append]
  simp [lat, List.getD_eq_getElem?_getD, List.getElem?_eq_getElem h]
theorem flat_len_take (ls : List (List (List UInt8))) (k : Nat) : (ls.take k).flatten.length ≤ ls.flatten.length := by
  conv => rhs; rw [← List.take_append_drop k ls, List.flatten_append, List.length_append]
  omega
theorem lat_mem (ls : List (List (List UInt8))) (k : Nat) (h : k < ls.length) : lat ls k ∈ ls := by
  unfold lat; rw [List.getD_eq_getElem?_getD, List.getElem?_eq_getElem h]; exact List.getElem_mem h
set_option maxRecDepth 100000 in
set_option maxHeartbeats 2000000 in
theorem clash9_any (b o c : Nat) (ls : List (List (List UInt8))) (hl : ls.length ≤ 100) (hn : ls.flatten.length ≤ 1000000) (hs : ∀ l ∈ ls, ∀ s ∈ l, s.length ≤ 1000000000) (w : World) (hrd : RdRows w b o ls) :
    Calls Try.prog 23 #[.slice (some ⟨b, o, none⟩) ls.length c] w fun e w' => (∃ r, e = .returned (.bool r) ∧ (r = false → NoC ls.flatten ls.flatten)) ∧ Below w.heap.size w w' := by
  have H0 := hid hrd
  have HS := hid hs
  clear hrd hs
  have hmm : ∀ W : World, (Instr.makeMap 107 none).run Try.prog W = .ok (.map (some W.heap.size)) (W.alloc (.map #[] 0)) := fun W => by kernel_rfl
  obtain ⟨w2, hw2⟩ : ∃ w2, w2 = w.alloc (.map #[] 0) := ⟨_, rfl⟩
  have hb2 : Below w.heap.size w w2 := by rw [hw2]; exact below_al (below_rf w) _
  have hM2 : MapT w2 w.heap.size 0 (fun _ => none) := by rw [hw2]; exact MapT.made w
  have HM2 := hid hM2
  clear hM2
  go_enter Try.func23, Try.ntmps23
  go_wp2
  rw [← hw2]
  clear hw2
  go_loopw [14] (fun i wr => ∃ (k n : Nat) (f : List UInt8 → Option (List UInt8)), k ≤ ls.length ∧ n ≤ (ls.take k).flatten.length ∧ i = .int .i64 (k : Int) ∧ Hid (MapT wr w.heap.size n f) ∧ Hid (∀ s ∈ (ls.take k).flatten, f (sha s) = some s) ∧ Below w.heap.size w wr) (fun i _ => ls.length - (intOf i).toNat)
  case atStart => exact ⟨0, 0, _, by omega, by omega, rfl, HM2, hid (fun s h => by simp at h), hb2⟩
  case round =>
    obtain ⟨k, n, f, hk, hnk, rfl, HM, HF, hB⟩ := hrel
    by_cases hlt : k < ls.length
    · obtain ⟨A, cc, hc00, hrA⟩ := H0.out k hlt
      have hc0 := (hB.cell (p := ⟨b, o + k, none⟩) (World.block_lt_of_cell? _ _ hc00)).trans hc00
      have hft := flat_take ls k hlt
      have hfl := flat_len_take ls (k + 1)
      have hsl0 := HS.out _ (lat_mem ls k hlt)
      obtain ⟨l, hl2⟩ : ∃ l, l = lat ls k := ⟨_, rfl⟩
      clear hc00
      rw [← hl2] at hc0 hrA hft hsl0
      rw [hft, List.length_append] at hfl
      have HFT := hid hft
      have HRA := hid hrA
      have HSL := hid hsl0
      have HB := hid hB
      obtain ⟨F, hFe⟩ : ∃ F, F = (ls.take k).flatten := ⟨_, rfl⟩
      rw [← hFe] at hnk HF HFT hfl
      clear hft hl2 hFe hrA hsl0 hb2
      go_wp2
      go_loopw [20] (fun i wi => ∃ (j n : Nat) (f : List UInt8 → Option (List UInt8)), j ≤ l.length ∧ n ≤ F.length + j ∧ i = .int .i64 (j : Int) ∧ Hid (MapT wi w.heap.size n f) ∧ Hid (∀ s ∈ F ++ l.take j, f (sha s) = some s) ∧ Hid (Below w.heap.size w wi)) (fun i _ => l.length - (intOf i).toNat)
      case atStart => exact ⟨0, n, f, by omega, by omega, rfl, HM, hid (fun s h => HF.out s (by simpa using h)), HB⟩
      case round =>
        clear hnk
        obtain ⟨j, n, f, hj, hnj, rfl, HM, HF, HB⟩ := hrel
        by_cases hlj : j < l.length
        · obtain ⟨ba, oa, rfl, hc1⟩ := (HRA.out.below HB.out).str hlj
          have hsl := HSL.out (sat l j) (by rw [sat_eq l j hlj]; exact List.getElem_mem hlj)
          have htk := take_sat l j hlj
          obtain ⟨x, hx⟩ : ∃ x, x = sat l j := ⟨_, rfl⟩
          rw [← hx] at hc1 hsl htk
          have HTK := hid htk
          obtain ⟨p, hp⟩ : ∃ p, p = sha x := ⟨_, rfl⟩
          have hpr := print_ref_any x wr (by omega)
          rw [← hp] at hpr
          have hpl : p.length ≤ maxLen := by rw [hp]; exact sha_ok x
          have HP := hid hp
          have HPR := hid hpr
          clear hx htk hp hpr
          go_wp2_with fail
          (with_reducible refine HPR.out.mono ?_); rintro e w5 ⟨rfl, hb5⟩
          have hB5 := below_tr HB.out hb5
          have hM5 := HM.out.below hb5
          have hlook := hM5.look p hpl
          obtain ⟨w6, hrun, hM6, hg6⟩ := hM5.put (by unfold maxLen; omega) p x hpl (by unfold maxLen; omega)
          have hB6 : Below w.heap.size w w6 := hB5.grown hg6 hB5.size (fun k hk => by injection hk with hk; omega)
          have HM6 := hid hM6
          have HB6 := hid hB6
          have HB5 := hid hB5
          clear hM6 hM5 hg6 hpl hB6 hB5 hb5
          cases hf : f p with
          | none =>
            rw [hf] at hlook
            have hnew : ∀ s ∈ F ++ l.take (j + 1), putF f p x (sha s) = some s := by
              intro s hs
              rw [HTK.out, ← List.append_assoc] at hs
              rcases List.mem_append.1 hs with hs | hs
              · have h1 := HF.out s hs
                rw [putF, if_neg (fun e => by rw [e, hf] at h1; cases h1)]
                exact h1
              · obtain rfl : s = x := by simpa using hs
                rw [putF, if_pos HP.out.symm]
            have HN := hid hnew
            clear hnew hf
            go_wp2
            go_roundw
            case rel => exact ⟨j + 1, n + 1, _, by omega, by omega, by go_num, HM6, HN, HB6⟩
            case measure => simp [intOf]; omega
          | some t =>
            rw [hf] at hlook
            by_cases htx : t = x
            · subst htx
              have hnew : ∀ s ∈ F ++ l.take (j + 1), putF f p t (sha s) = some s := by
                intro s hs
                rw [HTK.out, ← List.append_assoc] at hs
                rcases List.mem_append.1 hs with hs | hs
                · have h1 := HF.out s hs
                  by_cases e : sha s = p
                  · rw [putF, if_pos e, ← h1, e, hf]
                  · rw [putF, if_neg e]; exact h1
                · obtain rfl : s = t := by simpa using hs
                  rw [putF, if_pos HP.out.symm]
              have HN := hid hnew
              clear hnew hf
              go_wp2
              go_roundw
              case rel => exact ⟨j + 1, n + 1, _, by omega, by omega, by go_num, HM6, HN, HB6⟩
              case measure => simp [intOf]; omega
            · have hxb : (t == x) = false := beq_eq_false_iff_ne.2 htx
              clear hf hrun HM6 HB6
              go_wp2
              go_ret
              exact ⟨⟨true, rfl, fun h => (by cases h)⟩, HB5.out⟩
        · obtain rfl : j = l.length := by omega
          have hf2 : ∀ s ∈ (ls.take (k + 1)).flatten, f (sha s) = some s := fun s hs => HF.out s (by rw [HFT.out] at hs; rw [List.take_length]; exact hs)
          have hn2 : n ≤ (ls.take (k + 1)).flatten.length := by rw [HFT.out, List.length_append]; exact hnj
          have HF2 := hid hf2
          have HN2 := hid hn2
          have HHB := HB
          clear hf2 hn2
          go_wp2
          go_roundw
          case rel => exact ⟨k + 1, n, f, by omega, HN2.out, by go_num, HM, HF2, HHB.out⟩
          case measure => simp [intOf]; omega
    · obtain rfl : k = ls.length := by omega
      have hno : NoC ls.flatten ls.flatten := fun s hs1 t ht e => by
        have a1 := HF.out s (by rw [List.take_length]; exact hs1)
        have a2 := HF.out t (by rw [List.take_length]; exact ht)
        rw [e, a2] at a1
        injection a1 with a1; exact a1.symm
      have HNO := hid hno
      clear hno
      go_wp2
      go_ret
      exact ⟨⟨false, rfl, fun _ => HNO.out⟩, hB⟩
end Go.Proofs.Yteeonfnaikndfaa.W08
namespace Go.Proofs.Yteeonfnaikndfaa.W11
open Go Go.RowKit Go.Proofs.Yteeonfnaikndfaa Go.Proofs.Yteeonfnaikndfaa.Lib Go.Proofs.Yteeonfnaikndfaa.Sha Go.Proofs.Yteeonfnaikndfaa.T07 Go.Proofs.Yteeonfnaikndfaa.T08 Go.Proofs.Yteeonfnaikndfaa.Itms Go.Proofs.Yteeonfnaikndfaa.WSeq Go.Proofs.Yteeonfnaikndfaa.Ord Go.Proofs.Yteeonfnaikndfaa.W08 Go.Proofs.Yteeonfnaikndfaa.Inj Go.Proofs.Yteeonfnaikndfaa.Tree Go.Proofs.Yteeonfnaikndfaa.Wit
/-- what a map has at a key -/
def lookS (m : List Itm) (key : List UInt8) : Option (List UInt8) := (m.find? fun x => x.1 == key).map (·.2)
theorem look_app (a b : List Itm) (key : List UInt8) : lookS (a ++ b) key = (lookS a key).or (lookS b key) := by
  unfold lookS
  rw [List.find?_append]
  cases a.find? fun x => x.1 == key <;> rfl
theorem look_none (m : List Itm) (key : List UInt8) (h : ∀ x ∈ m, x.1 ≠ key) : lookS m key = none := by
  unfold lookS
  rw [List.find?_eq_none.2 (fun x hx => by simpa using h x hx)]; rfl
theorem lt_ne {a b : List UInt8} (h : ltS a b = true) : a ≠ b := fun e => by rw [e, lt_irrefl] at h; cases h
/-- keys of pairs whose last key is below a key are not that key -/
theorem below_ne (P : List Itm) (key : List UInt8) (hu : Up P) (h : 0 < P.length → ltS (lastKey P) key = true) : ∀ x ∈ P, x.1 ≠ key := by
  intro x hx
  have h0 : 0 < P.length := List.length_pos_of_mem hx
  have hn := from_none key P hu h0 (h h0)
  unfold fromP at hn
  rw [List.filter_eq_nil_iff] at hn
  have := hn x hx
  simp at this
  exact lt_ne this
theorem look_leaf (l : List Itm) (key : List UInt8) (hok : okS l = true) : shownS (0, l) key = lookS l key := by
  have hp := place_s l key hok
  have hu : Up l := (okS_iff l).1 hok
  unfold shownS
  dsimp only
  obtain ⟨i, hi⟩ : ∃ i, i = placeS l key := ⟨_, rfl⟩
  rw [← hi] at hp ⊢
  have hsp : l = l.take i ++ l.drop i := (List.take_append_drop i l).symm
  have h1 : lookS (l.take i) key = none := look_none _ _ (fun x hx => by
    obtain ⟨t, ht, rfl⟩ := List.getElem_of_mem hx
    rw [List.length_take] at ht
    have := hp.2.1 t (by omega)
    rw [itm_eq l t (by omega)] at this
    rw [List.getElem_take]; exact lt_ne this)
  have h2 : lookS l key = lookS (l.drop i) key := by
    conv => lhs; rw [hsp, look_app, h1]
    rfl
  rw [h2]
  by_cases hlt : i < l.length
  · rw [List.drop_eq_getElem_cons hlt]
    have hx : (itm l i) = l[i] := itm_eq l i hlt
    by_cases he : (itm l i).1 = key
    · rw [if_pos ⟨rfl, hlt, he⟩]
      unfold lookS
      rw [List.find?_cons_of_pos (by rw [← hx]; simpa using he), ← hx]; rfl
    · rw [if_neg (fun h => he h.2.2)]
      symm
      refine look_none _ _ (fun x hx' => ?_)
      rcases List.mem_cons.1 hx' with e | hx'
      · rw [e, ← hx]; exact he
      · obtain ⟨t, ht, rfl⟩ := List.getElem_of_mem hx'
        rw [List.length_drop] at ht
        have h3 := okS_lt l hok i t (by omega)
        have h4 := hp.2.2 i (Nat.le_refl _) hlt
        intro e
        have e2 : (itm l (i + t + 1)).1 = key := by
          rw [← e, List.getElem_drop, show i + t + 1 = i + 1 + t by omega, itm_eq l (i + 1 + t) (by omega)]
        rw [e2] at h3
        rw [h3] at h4; cases h4
  · rw [if_neg (fun h => hlt h.2.1), List.drop_of_length_le (by omega)]; rfl
/-- In a whole tree a way from a node ends at one that shows what the pairs below have. -/
theorem end_whole (f : Src) (key : List UInt8) : ∀ (lv k : Nat) (l P : List Itm), lv ≤ k → treeP f lv l = some P → Up P → okS l = true → ∃ n, endFrom f key k (lv, l) = some n ∧ shownS n key = lookS P key := by
  intro lv
  induction lv with
  | zero =>
    intro k l P _ hT hu hok
    rw [treeP] at hT
    injection hT with hT
    subst hT
    refine ⟨(0, l), ?_, look_leaf l key hok⟩
    unfold endFrom
    rw [if_pos (by unfold endsAt; rfl)]
  | succ lv ih =>
    intro k l P hk hT hu hok
    have hp := place_s l key hok
    obtain ⟨i, hi⟩ : ∃ i, i = placeS l key := ⟨_, rfl⟩
    rw [← hi] at hp
    have hsplit := tree_app f (lv + 1) (l.take i) (l.drop i)
    rw [List.take_append_drop, hT] at hsplit
    obtain ⟨a0, ha0⟩ : ∃ a0, treeP f (lv + 1) (l.take i) = some a0 := by
      cases h : treeP f (lv + 1) (l.take i) with
      | none => rw [h] at hsplit; cases hsplit
      | some a => exact ⟨a, rfl⟩
    obtain ⟨Q, hQ⟩ : ∃ Q, treeP f (lv + 1) (l.drop i) = some Q := by
      cases h : treeP f (lv + 1) (l.drop i) with
      | none => rw [ha0, h] at hsplit; cases hsplit
      | some a => exact ⟨a, rfl⟩
    rw [ha0, hQ] at hsplit
    injection hsplit with hsplit
    have hsplit : P = a0 ++ Q := hsplit
    have hua : Up a0 := by rw [hsplit] at hu; exact (List.pairwise_append.1 hu).1
    have huq : Up Q := by rw [hsplit] at hu; exact (List.pairwise_append.1 hu).2.1
    have hla : lookS a0 key = none := by
      refine look_none _ _ (below_ne a0 key hua (fun h0 => ?_))
      rcases Nat.eq_zero_or_pos i with hz | hz
      · rw [hz, List.take_zero, tree_nil] at ha0
        injection ha0 with ha0
        rw [← ha0] at h0; simp at h0
      · have hlt := last_tree f (lv + 1) _ (l.take i) a0 (Nat.le_refl _) ha0 (by rw [List.length_take]; have := hp.1; omega)
        rw [hlt.2]
        have hlk : lastKey (l.take i) = (itm l (i - 1)).1 := by
          unfold lastKey itm
          rw [List.length_take, show min i l.length - 1 = i - 1 by have := hp.1; omega]
          simp only [List.getD_eq_getElem?_getD]
          rw [List.getElem?_take_of_lt (by omega)]
        rw [hlk]
        exact hp.2.1 (i - 1) (by omega)
    have hlp : lookS P key = lookS Q key := by rw [hsplit, look_app, hla]; rfl
    rw [hlp]
    by_cases hil : i = l.length
    · rw [hil, List.drop_length, tree_nil] at hQ
      injection hQ with hQ
      refine ⟨(lv + 1, l), ?_, ?_⟩
      · unfold endFrom
        rw [if_pos (by unfold endsAt; dsimp only; rw [← hi, hil]; simp)]
      · unfold shownS
        rw [if_neg (fun h => by have := h.1; dsimp only at this; omega), ← hQ]; rfl
    · have hlt : i < l.length := by have := hp.1; omega
      obtain ⟨⟨pm, ys⟩, a, b, hbel, hta, htb, hQe⟩ := tree_step f lv l i Q hlt hQ
      obtain ⟨hpm, hys0, hlast, _, hat⟩ := below_lv hbel
      dsimp only at hpm hys0 hlast hta
      obtain rfl : pm = lv := by omega
      obtain ⟨_, _, _, hyr, _⟩ := at_facts hat
      rw [hQe] at huq
      have hua2 := (List.pairwise_append.1 huq).1
      obtain ⟨k', rfl⟩ : ∃ k', k = k' + 1 := ⟨k - 1, by omega⟩
      obtain ⟨n, hn1, hn2⟩ := ih k' ys a (by omega) hta hua2 (right_ok hyr)
      refine ⟨n, ?_, ?_⟩
      · rw [end_step f key k' (pm + 1) l (by unfold endsAt; dsimp only; rw [← hi]; simp; omega), ← hi, hbel]
        exact hn1
      · rw [hn2, hQe, look_app]
        have hlb : lookS b key = none := by
          refine look_none _ _ (fun x hx e => ?_)
          have hl2 := last_tree f pm _ ys a (Nat.le_refl _) hta hys0
          have hge := hp.2.2 i (Nat.le_refl _) hlt
          have hm : ∃ z ∈ a, z.1 = (itm l i).1 := by
            refine ⟨a[a.length - 1]'(by omega), List.getElem_mem _, ?_⟩
            have : lastKey a = (a[a.length - 1]'(by omega)).1 := by
              unfold lastKey; rw [List.getD_eq_getElem?_getD, List.getElem?_eq_getElem (by omega)]; rfl
            rw [← this, hl2.2, hlast]
          obtain ⟨z, hz, hzk⟩ := hm
          have h3 := (List.pairwise_append.1 huq).2.2 z hz x hx
          rw [hzk, e] at h3
          rw [h3] at hge; cases hge
        rw [hlb]; cases lookS a key <;> rfl
/-- In a map's whole tree each key has a way, whose last node shows what the map has there. -/
theorem way_whole (f : Src) (root key : List UInt8) (v : Nat) (X m : List Itm) (hat : atS f root = some (v, X)) (hT : treeP f v X = some m) (hu : Up m) : ∃ ts n z, wayS (srcNx f) key () root = some (ts, n, z) ∧ shownS n key = lookS m key := by
  obtain ⟨hv, _, _, hr, _⟩ := at_facts hat
  obtain ⟨n, h1, h2⟩ := end_whole f key v 33 X m (by omega) hT hu (right_ok hr)
  have hw := way_root f key root
  rw [hat] at hw
  dsimp only at hw
  rw [h1] at hw
  rcases hws : wayS (srcNx f) key () root with _ | ⟨ts, n', z⟩
  · rw [hws] at hw; cases hw
  · rw [hws] at hw
    injection hw with hw
    have hw : n' = n := hw
    exact ⟨ts, n', z, rfl, by rw [hw]; exact h2⟩
theorem proof_texts (ns : List (List UInt8)) : ∀ (st p t st' : List UInt8), (∃ ts', st = bytesS ts' ∧ ∀ x ∈ ts', x ∈ ns ∧ x.length < 4294967296) → proofNx st p = some (t, st') → t ∈ ns ∧ ∃ ts', st' = bytesS ts' ∧ ∀ x ∈ ts', x ∈ ns ∧ x.length < 4294967296 := by
  rintro st p t st' ⟨ts, rfl, hts⟩ h
  cases ts with
  | nil =>
    have hc : cutP (bytesS []) = none := rfl
    unfold proofNx at h
    rw [hc] at h; cases h
  | cons t0 rest =>
    obtain ⟨h0, h1⟩ := hts t0 (by simp)
    have e : bytesS (t0 :: rest) = four t0.length ++ t0 ++ bytesS rest := by simp [bytesS]
    unfold proofNx at h
    rw [e, cut_four t0 _ h1] at h
    dsimp only at h
    split at h
    · injection h with h; injection h with q1 q2
      subst q1; subst q2
      exact ⟨h0, rest, rfl, fun x hx => hts x (List.mem_cons_of_mem _ hx)⟩
    · cases h
/-- the bytes that Prove answers -/
def proveP (f : Src) (root key : List UInt8) : List UInt8 := match wayS (srcNx f) key () root with
  | none => []
  | some (ts, _, _) => bytesS ts
/-- A proof of one map and key shows nothing wrong of another map and key. -/
theorem other_law (ns1 ns2 : List (List UInt8)) (h1 : ∀ s ∈ ns1, s.length < 4294967296) (hc : NoC (ns1 ++ ns2) (ns1 ++ ns2)) (a b k0 k1 : List UInt8) (v : Nat) (X y : List Itm) (hat : atS (heapF ns2) b = some (v, X)) (hT : treeP (heapF ns2) v X = some y) (hu : Up y) (s : Option (List UInt8))
    (hv : verifyS b k1 (proveP (heapF ns1) a k0) = some s) : s = lookS y k1 := by
  obtain ⟨ts2, n2, z, hw2, hs2⟩ := way_whole (heapF ns2) b k1 v X y hat hT hu
  unfold verifyS at hv
  rcases ht : toldS b k1 (proveP (heapF ns1) a k0) with _ | ⟨us, m⟩
  · rw [ht] at hv; cases hv
  rw [ht] at hv
  injection hv with hv
  have hv : shownS m k1 = s := hv
  have hu2 : ∃ r, wayS proofNx k1 (proveP (heapF ns1) a k0) b = some (us, m, r) := by
    unfold toldS at ht
    split at ht
    · cases ht
    · split at ht
      · cases ht
      · rename_i ts' n' r' hw'
        split at ht
        · injection ht with ht; injection ht with e1 e2
          subst e1; subst e2
          exact ⟨r', hw'⟩
        · cases ht
  obtain ⟨r, hu2⟩ := hu2
  have hp : ∃ ts', proveP (heapF ns1) a k0 = bytesS ts' ∧ ∀ x ∈ ts', x ∈ ns1 ∧ x.length < 4294967296 := by
    unfold proveP
    rcases hw : wayS (srcNx (heapF ns1)) k0 () a with _ | ⟨ts, n, z⟩
    · exact ⟨[], rfl, fun x hx => by cases hx⟩
    · exact ⟨ts, rfl, fun x hx => by
        have := way_all (heapF ns1) (fun t => t ∈ ns1) (fun k s h => (heap_mem h).1) k0 _ _ _ _ _ _ _ hw x hx
        exact ⟨this, h1 x this⟩⟩
  rcases two_ways (srcNx (heapF ns2)) proofNx (fun st p t st' h => by
      unfold srcNx at h
      cases h9 : heapF ns2 p with
      | none => rw [h9] at h; cases h
      | some s' => rw [h9] at h; injection h with h; injection h with h; subst h; exact (heap_mem h9).2) proof_sha k1 _ _ _ _ _ _ _ _ _ _ _ _ hw2 hu2 with ⟨i1, _⟩ | ⟨x, x', i1, i2, i3, i4, i5⟩
  · rw [← hv, ← i1, hs2]
  · have m1 : x ∈ ns2 := way_all (heapF ns2) (fun t => t ∈ ns2) (fun k s h => (heap_mem h).1) k1 _ _ _ _ _ _ _ hw2 x i4
    have m2 : x' ∈ ns1 := way_inv proofNx (fun r => ∃ ts', r = bytesS ts' ∧ ∀ x ∈ ts', x ∈ ns1 ∧ x.length < 4294967296) (fun t => t ∈ ns1) (proof_texts ns1) k1 _ _ _ _ _ _ _ _ hp hu2 x' i5
    exact absurd (hc x (List.mem_append_right _ m1) x' (List.mem_append_left _ m2) i3) i2
end Go.Proofs.Yteeonfnaikndfaa.W11
namespace Go.Proofs.Yteeonfnaikndfaa.W11
open Go Go.RowKit Go.Proofs.Yteeonfnaikndfaa Go.Proofs.Yteeonfnaikndfaa.Lib Go.Proofs.Yteeonfnaikndfaa.Sha Go.Proofs.Yteeonfnaikndfaa.T07 Go.Proofs.Yteeonfnaikndfaa.T08 Go.Proofs.Yteeonfnaikndfaa.Itms Go.Proofs.Yteeonfnaikndfaa.WSeq Go.Proofs.Yteeonfnaikndfaa.Ord Go.Proofs.Yteeonfnaikndfaa.W08 Go.Proofs.Yteeonfnaikndfaa.Inj Go.Proofs.Yteeonfnaikndfaa.Tree Go.Proofs.Yteeonfnaikndfaa.Wit
theorem bytes_cons (s : List UInt8) (ts : List (List UInt8)) : (bytesS (s :: ts)).length = 4 + s.length + (bytesS ts).length := by
  simp [bytesS, four]; omega
theorem way_size (f : Src) (hf : ∀ p s, f p = some s → ∃ v P, parseS s = some (v, P) ∧ s.length ≤ nmax v) (key : List UInt8) : ∀ (k : Nat) (p : List UInt8) (lv : Nat) (x : Option Itm) (ts : List (List UInt8)) (n : Nat × List Itm) (z : Unit) (M : Nat),
    (∀ s m, f p = some s → nodeS s lv x = some m → m.1 ≤ M) → wayGo (srcNx f) key k () p lv x = some (ts, n, z) → (bytesS ts).length ≤ M * 32711 + 160071 := by
  intro k
  induction k with
  | zero => intro p lv x ts n z M _ h; rw [wayGo] at h; cases h
  | succ k ih =>
    intro p lv x ts n z M hM h
    rw [way_step] at h
    cases hp : f p with
    | none => simp only [srcNx, hp] at h; cases h
    | some s =>
      simp only [srcNx, hp] at h
      cases h2 : nodeS s lv x with
      | none => rw [h2] at h; cases h
      | some m =>
        rw [h2] at h
        dsimp only at h
        have hm := hM s m hp h2
        obtain ⟨v, P, q1, q2⟩ := hf p s hp
        have q3 := (node_facts h2).1
        rw [q1] at q3
        injection q3 with q3
        have hv : v = m.1 := by rw [← q3]
        rw [hv] at q2
        by_cases he : endsAt m key = true
        · rw [if_pos he] at h
          injection h with h; injection h with e1 e2
          subst e1
          rw [bytes_cons]
          have e3 : (bytesS []).length = 0 := rfl
          rw [e3]
          have : nmax m.1 ≤ 160067 := by unfold nmax; split <;> omega
          omega
        · rw [if_neg he] at h
          have h0 : m.1 ≠ 0 := fun e => he (by unfold endsAt; rw [e]; rfl)
          cases h3 : wayGo (srcNx f) key k () ((itm m.2 (placeS m.2 key)).2.take 32) m.1 (some (itm m.2 (placeS m.2 key))) with
          | none => rw [h3] at h; cases h
          | some r =>
            obtain ⟨ts', n', z'⟩ := r
            rw [h3] at h
            dsimp only at h
            injection h with h; injection h with e1 e2
            subst e1
            have := ih _ _ _ _ _ _ (M - 1) (fun s' m' _ hn => by
              have := (stands_lv ((node_facts hn).2 _ rfl)).1
              omega) h3
            rw [bytes_cons]
            have q4 : nmax m.1 = 32707 := by unfold nmax; rw [if_neg h0]
            omega
theorem src_q {m : List Itm} (h : MapQ m) : ∀ p s, heapF (treeS m).2 p = some s → sha s = p ∧ s.length < 4294967296 := fun p s hs => by
  have h1 := heap_mem hs
  have h2 := h.short s h1.1
  exact ⟨h1.2, by omega⟩
theorem first_text {f : Src} {key root : List UInt8} {ts : List (List UInt8)} {n : Nat × List Itm} {z : Unit} (h : wayS (srcNx f) key () root = some (ts, n, z)) : ∃ t rest, ts = t :: rest ∧ f root = some t := by
  unfold wayS at h
  rw [way_step] at h
  cases hp : f root with
  | none => simp only [srcNx, hp] at h; cases h
  | some s =>
    simp only [srcNx, hp] at h
    cases h2 : nodeS s 0 none with
    | none => rw [h2] at h; cases h
    | some m =>
      rw [h2] at h
      dsimp only at h
      split at h
      · injection h with h; injection h with e1 e2
        exact ⟨s, [], e1.symm, rfl⟩
      · split at h
        · cases h
        · injection h with h; injection h with e1 e2
          exact ⟨s, _, e1.symm, rfl⟩
/-- A proof of a map is the texts of a way, is taken, and shows what the map has at the key. -/
theorem proves_law (m : List Itm) (h : MapQ m) (hc : NoC (treeS m).2 (treeS m).2) (key : List UInt8) : ∃ ts n z, wayS (srcNx (heapF (treeS m).2)) key () (treeS m).1 = some (ts, n, z) ∧ proveP (heapF (treeS m).2) (treeS m).1 key = bytesS ts ∧ (bytesS ts).length ≤ 1048576 ∧ verifyS (treeS m).1 key (bytesS ts) = some (lookS m key) := by
  obtain ⟨v, X, hat, hT⟩ := h.whole hc
  obtain ⟨ts, n, z, hw, hs⟩ := way_whole _ _ key v X m hat hT h.up
  have hlen : (bytesS ts).length ≤ 10 * 32711 + 160071 := way_size _ (fun p s hp => by
      obtain ⟨v, P, q1, _, _, q4⟩ := h.real s (heap_mem hp).1
      exact ⟨v, P, q1, q4⟩) key 34 (treeS m).1 0 none ts n z 10 (fun s m' hp hn => by
      obtain ⟨v, P, q1, _, q3, _⟩ := h.real s (heap_mem hp).1
      have := (node_facts hn).1
      rw [q1] at this
      injection this with this
      rw [← this]; exact q3) hw
  refine ⟨ts, n, z, hw, ?_, by omega, ?_⟩
  · unfold proveP; rw [hw]
  · rw [verify_way _ (src_q h) _ _ _ _ _ hw (by omega), hs]
/-- By another root it isn't taken. -/
theorem wrong_law (m : List Itm) (h : MapQ m) (hc : NoC (treeS m).2 (treeS m).2) (key b : List UInt8) (hb : b ≠ (treeS m).1) : verifyS b key (proveP (heapF (treeS m).2) (treeS m).1 key) = none := by
  obtain ⟨ts, n, z, hw, hp, hl, _⟩ := proves_law m h hc key
  rw [hp]
  obtain ⟨t, rest, rfl, hr⟩ := first_text hw
  have hs := (src_q h) _ _ hr
  have e : bytesS (t :: rest) = four t.length ++ t ++ bytesS rest := by simp [bytesS]
  have hx : proofNx (bytesS (t :: rest)) b = none := by
    unfold proofNx
    rw [e, cut_four t _ hs.2]
    dsimp only
    rw [if_neg (fun q => hb (q.symm.trans hs.1))]
  unfold verifyS toldS wayS
  rw [if_neg (by omega), way_step, hx]
theorem look_mem (m : List Itm) (x : Itm) (hu : Up m) (hx : x ∈ m) : lookS m x.1 = some x.2 := by
  obtain ⟨i, hi, rfl⟩ := List.getElem_of_mem hx
  have hsp : m = m.take i ++ m.drop i := (List.take_append_drop i m).symm
  have h1 : lookS (m.take i) m[i].1 = none := look_none _ _ (fun y hy => by
    rw [hsp] at hu
    have := (List.pairwise_append.1 hu).2.2 y hy m[i] (by rw [List.drop_eq_getElem_cons hi]; exact List.mem_cons_self ..)
    exact lt_ne this)
  conv => lhs; arg 1; rw [hsp]
  rw [look_app, h1, List.drop_eq_getElem_cons hi]
  unfold lookS
  rw [List.find?_cons_of_pos (by simp)]; rfl
theorem insR_keep : ∀ (m : List Itm) (x y : Itm), y ∈ m → y ∈ insR m x
  | z :: m, x, y, h => by
    rw [insR_cons]
    split
    · rcases List.mem_cons.1 h with e | h
      · rw [e]; simp
      · exact List.mem_cons_of_mem _ (insR_keep m x y h)
    · split
      · exact h
      · exact List.mem_cons_of_mem _ h
theorem fold_keep : ∀ (l m : List Itm) (y : Itm), y ∈ m → y ∈ l.foldl insS m
  | [], m, y, h => h
  | x :: l, m, y, h => fold_keep l (insS m x) y (by rw [ins_eq]; exact insR_keep m x y h)
theorem rising_first (x : Itm) (l : List Itm) : x ∈ risingS (x :: l) := by
  unfold risingS
  refine fold_keep l (insS [] x) x ?_
  rw [ins_eq]; simp [insR]
/-- the map without a key -/
def lessS (m : List Itm) (key : List UInt8) : List Itm := m.filter fun y => !(y.1 == key)
theorem less_q (l : List Itm) (h : FewS l) (key : List UInt8) : MapQ (lessS (risingS l) key) := by
  have hq := map_q l h
  have hu : Up (lessS (risingS l) key) := List.Pairwise.sublist (List.filter_sublist) hq.up
  have hs : Shrt (lessS (risingS l) key) := fun x hx => hq.shrt x (List.mem_filter.1 hx).1
  refine map_q' _ (Nat.le_trans (List.length_filter_le _ _) hq.len) (shrt_right _ hu hs) hu hs (shrt_sm _ hs)
theorem less_few (l : List Itm) (h : FewS l) (key : List UInt8) : (lessS (risingS l) key).length ≤ 200 := by
  have h1 := rising_len l l.length (Nat.le_refl _)
  rw [List.take_length] at h1
  have h2 := h.1
  have h3 := List.length_filter_le (fun y : Itm => !(y.1 == key)) (risingS l)
  unfold lessS; omega
theorem more_q (l : List Itm) (h : FewS l) (x : Itm) (h1 : x.1.length ≤ 2000) (h2 : x.2.length ≤ 8000) : MapQ (risingS (x :: lessS (risingS l) x.1)) := by
  have hq := less_q l h x.1
  have hn := less_few l h x.1
  have hl := rising_len (x :: lessS (risingS l) x.1) _ (Nat.le_refl _)
  rw [List.take_length, List.length_cons] at hl
  have hu := rising_up (x :: lessS (risingS l) x.1)
  have hs : Shrt (risingS (x :: lessS (risingS l) x.1)) := fun y hy => by
    rcases List.mem_cons.1 (rising_mem _ y hy) with e | hy
    · rw [e]; exact ⟨h1, h2⟩
    · exact hq.shrt y hy
  exact map_q' _ (by omega) (shrt_right _ hu hs) hu hs (shrt_sm _ hs)
theorem noc_left {A B : List (List UInt8)} (h : NoC (A ++ B) (A ++ B)) : NoC A A := fun a ha b hb => h a (List.mem_append_left _ ha) b (List.mem_append_left _ hb)
theorem noc_right {A B : List (List UInt8)} (h : NoC (A ++ B) (A ++ B)) : NoC B B := fun a ha b hb => h a (List.mem_append_right _ ha) b (List.mem_append_right _ hb)
theorem noc_cross {A B : List (List UInt8)} (h : NoC (A ++ B) (A ++ B)) : NoC A B := fun a ha b hb => h a (List.mem_append_left _ ha) b (List.mem_append_right _ hb)
/-- That a key isn't there is proved by the map without it, and not by the map with it; and the other way round. -/
theorem absent_law (l : List Itm) (hf : FewS l) (x : Itm) (h1 : x.1.length ≤ 2000) (h2 : x.2.length ≤ 8000) (u v : List Itm) (hu : u = lessS (risingS l) x.1) (hv : v = risingS (x :: u)) (hc : NoC ((treeS u).2 ++ (treeS v).2) ((treeS u).2 ++ (treeS v).2)) :
    (wayS (srcNx (heapF (treeS u).2)) x.1 () (treeS u).1).isSome = true ∧ (wayS (srcNx (heapF (treeS v).2)) x.1 () (treeS v).1).isSome = true ∧
    verifyS (treeS u).1 x.1 (proveP (heapF (treeS u).2) (treeS u).1 x.1) = some none ∧ verifyS (treeS v).1 x.1 (proveP (heapF (treeS v).2) (treeS v).1 x.1) = some (some x.2) ∧
    verifyS (treeS v).1 x.1 (proveP (heapF (treeS u).2) (treeS u).1 x.1) = none ∧ verifyS (treeS u).1 x.1 (proveP (heapF (treeS v).2) (treeS v).1 x.1) = none := by
  have qu : MapQ u := by rw [hu]; exact less_q l hf x.1
  have qv : MapQ v := by rw [hv, hu]; exact more_q l hf x h1 h2
  have lu : lookS u x.1 = none := by
    rw [hu]
    refine look_none _ _ (fun y hy => ?_)
    have := (List.mem_filter.1 hy).2
    simpa using this
  have lv : lookS v x.1 = some x.2 := look_mem v x qv.up (by rw [hv]; exact rising_first x u)
  obtain ⟨ts, n, z, w1, p1, _, v1⟩ := proves_law u qu (noc_left hc) x.1
  obtain ⟨ts', n', z', w2, p2, _, v2⟩ := proves_law v qv (noc_right hc) x.1
  have hlu : u.length ≤ 256 := by rw [hu]; have := less_few l hf x.1; omega
  have hlv : v.length ≤ 256 := by
    have hl := rising_len (x :: u) _ (Nat.le_refl _)
    rw [List.take_length, List.length_cons, ← hv] at hl
    have h3 := less_few l hf x.1
    rw [← hu] at h3; omega
  have hne : (treeS u).1 ≠ (treeS v).1 := fun e => by
    have := tree_inj u v hlu hlv qu.sm qv.sm e (noc_cross hc)
    rw [this, lv] at lu; cases lu
  refine ⟨by rw [w1]; rfl, by rw [w2]; rfl, ?_, ?_, wrong_law u qu (noc_left hc) x.1 _ (fun e => hne e.symm), wrong_law v qv (noc_right hc) x.1 _ hne⟩
  · rw [p1, v1, lu]
  · rw [p2, v2, lv]
end Go.Proofs.Yteeonfnaikndfaa.W11
namespace Go.Proofs.Yteeonfnaikndfaa.W11
open Go Go.RowKit Go.Proofs.Yteeonfnaikndfaa.Lib Go.Proofs.Yteeonfnaikndfaa.Sha Go.Proofs.Yteeonfnaikndfaa.T07 Go.Proofs.Yteeonfnaikndfaa.T08 Go.Proofs.Yteeonfnaikndfaa.QTail Go.Proofs.Yteeonfnaikndfaa.Itms Go.Proofs.Yteeonfnaikndfaa.WSeq Go.Proofs.Yteeonfnaikndfaa.Ord Go.Proofs.Yteeonfnaikndfaa.Tree Go.Proofs.Yteeonfnaikndfaa.W08 Go.Proofs.Yteeonfnaikndfaa.Wit Go.Proofs.Yteeonfnaikndfaa.W01 Go.Proofs.Yteeonfnaikndfaa.Bld Go.Proofs.Yteeonfnaikndfaa.Mp Go.Proofs.Yteeonfnaikndfaa.Inj
open Go.Proofs.Yteeonfnaikndfaa.Run hiding round_any yield_any
/-- prolly.NewHeap over a map's nodes, in one form -/
theorem newheap_gen (l : List (List UInt8)) (A : Option Addr) (c : Nat) (w : World) (hl : l.length ≤ 1000000) (hrd : Rd w A (strs l)) (hs : ∀ s ∈ l, s.length ≤ 3000000) :
    Calls Try.prog 22 #[.slice A l.length c] w fun e w' => (∃ hb mb n, e = .returned (.pointer (some ⟨hb, 0, none⟩)) ∧ HeapT w' hb mb n (heapF l)) ∧ Below w.heap.size w w' :=
  (newheap_any l A c w hl hrd (fun i hi => by have := sat_all hs i hi; omega)).mono fun e w' ⟨⟨hb, mb, n, he, _, hH, _⟩, hB⟩ => ⟨⟨hb, mb, n, he, hH⟩, hB⟩
/-- witness.Prove, in one form -/
theorem prove_gen (hb mb n : Nat) (f : Src) (hf : ∀ k s, f k = some s → s.length ≤ 1000000000) (root key : List UInt8) (hroot : root.length ≤ 1000000000) (w : World) (hH : HeapT w hb mb n f) :
    Calls Try.prog 21 #[.iface 43 (.pointer (some ⟨hb, 0, none⟩)), .string (Str root), .string (Str key)] w fun e w' => (∃ k : Int, e = .returned (.tuple #[.string (Str (proveP f root key)), .int .i64 k]) ∧ ((wayS (srcNx f) key () root).isSome = true → k = 0)) ∧ Below w.heap.size w w' := by
  refine (prove_any hb mb n f hf root key hroot w hH).mono ?_
  rintro e w' ⟨ho, hB⟩
  refine ⟨?_, hB⟩
  unfold proveP
  rcases hw : wayS (srcNx f) key () root with _ | ⟨ts, n', z⟩
  · rw [hw] at ho; exact ⟨6, ho, fun h => by cases h⟩
  · rw [hw] at ho; exact ⟨0, ho, fun _ => rfl⟩
/-- what Verify answers, as three values -/
def vT (r : Option (Option (List UInt8))) : List UInt8 × Bool × Bool := match r with
  | none => ([], false, false)
  | some none => ([], false, true)
  | some (some v) => (v, true, true)
theorem verify_vt (root key proof : List UInt8) (hroot : root.length ≤ 1000000000) (w : World) :
    Calls Try.prog 17 #[.string (Str root), .string (Str key), .string (Str proof)] w fun e w' => e = .returned (.tuple #[.string (Str (vT (verifyS root key proof)).1), .bool (vT (verifyS root key proof)).2.1, .bool (vT (verifyS root key proof)).2.2]) ∧ Below w.heap.size w w' :=
  (verify_any root key proof hroot w).mono fun e w' h => ⟨by rcases hr : verifyS root key proof with _ | _ | v <;> (rw [hr] at h; exact h.1), h.2⟩
end Go.Proofs.Yteeonfnaikndfaa.W11
