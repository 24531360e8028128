/- The walk of layer 9's statements' look for two unlike texts of one fingerprint, in several lists. -/
import Derived.Test.YtoidbgedpakjmaaW08o
import Derived.Test.YtoidbgedpakjmaaTreed
set_option linter.unusedVariables false
set_option linter.unusedSimpArgs false
namespace Go.Proofs.Ytoidbgedpakjmaa.W08
open Go.RowKit Go.Proofs.Ytoidbgedpakjmaa.Lib Go.Proofs.Ytoidbgedpakjmaa.Sha Go.Proofs.Ytoidbgedpakjmaa.T08 Go.Proofs.Ytoidbgedpakjmaa.QTail Go.Proofs.Ytoidbgedpakjmaa.Itms Go.Proofs.Ytoidbgedpakjmaa.WSeq Go.Proofs.Ytoidbgedpakjmaa.Bld Go.Proofs.Ytoidbgedpakjmaa.Mp Go.Proofs.Ytoidbgedpakjmaa.W01 Go.Proofs.Ytoidbgedpakjmaa.Inj
attribute [local go_sem] Str_size Str_toList Str_extract sha_len
def lat (ls : List (List (List UInt8))) (j : Nat) : List (List UInt8) := ls.getD j []
/-- a row of rows of texts -/
def RdRows (w : World) (b o : Nat) (ls : List (List (List UInt8))) : Prop := ∀ j, j < ls.length → ∃ A c, w.cell? ⟨b, o + j, none⟩ = some (.slice A (lat ls j).length c) ∧ Rd w A (strs (lat ls j))
theorem RdRows.below {w w1 : World} {b o : Nat} {ls : List (List (List UInt8))} (h : RdRows w b o ls) (hb : Below w.heap.size w w1) : RdRows w1 b o ls := fun j hj => by
  obtain ⟨A, c, h1, h2⟩ := h j hj
  exact ⟨A, c, (hb.cell (p := ⟨b, o + j, none⟩) (World.block_lt_of_cell? _ _ h1)).trans h1, h2.below hb⟩
theorem flat_take (ls : List (List (List UInt8))) (k : Nat) (h : k < ls.length) : (ls.take (k + 1)).flatten = (ls.take k).flatten ++ lat ls k := by
  rw [List.take_succ_eq_append_getElem h, List.flatten_append]
  simp [lat, List.getD_eq_getElem?_getD, List.getElem?_eq_getElem h]
theorem flat_len_take (ls : List (List (List UInt8))) (k : Nat) : (ls.take k).flatten.length ≤ ls.flatten.length := by
  conv => rhs; rw [← List.take_append_drop k ls, List.flatten_append, List.length_append]
  omega
theorem lat_mem (ls : List (List (List UInt8))) (k : Nat) (h : k < ls.length) : lat ls k ∈ ls := by
  unfold lat; rw [List.getD_eq_getElem?_getD, List.getElem?_eq_getElem h]; exact List.getElem_mem h
set_option maxRecDepth 100000 in
set_option maxHeartbeats 2000000 in
theorem clash9_any (b o c : Nat) (ls : List (List (List UInt8))) (hl : ls.length ≤ 100) (hn : ls.flatten.length ≤ 1000000) (hs : ∀ l ∈ ls, ∀ s ∈ l, s.length ≤ 1000000000) (w : World) (hrd : RdRows w b o ls) :
    Calls Try.prog 13 #[.slice (some ⟨b, o, none⟩) ls.length c] w fun e w' => (∃ r, e = .returned (.bool r) ∧ (r = false → NoC ls.flatten ls.flatten)) ∧ Below w.heap.size w w' := by
  have H0 := hid hrd
  have HS := hid hs
  clear hrd hs
  have hmm : ∀ W : World, (Instr.makeMap 64 none).run Try.prog W = .ok (.map (some W.heap.size)) (W.alloc (.map #[] 0)) := fun W => by kernel_rfl
  obtain ⟨w2, hw2⟩ : ∃ w2, w2 = w.alloc (.map #[] 0) := ⟨_, rfl⟩
  have hb2 : Below w.heap.size w w2 := by rw [hw2]; exact below_al (below_rf w) _
  have hM2 : MapT w2 w.heap.size 0 (fun _ => none) := by rw [hw2]; exact MapT.made w
  have HM2 := hid hM2
  clear hM2
  go_enter Try.func13, Try.ntmps13
  go_wp2
  rw [← hw2]
  clear hw2
  go_loopw [14] (fun i wr => ∃ (k n : Nat) (f : List UInt8 → Option (List UInt8)), k ≤ ls.length ∧ n ≤ (ls.take k).flatten.length ∧ i = .int .i64 (k : Int) ∧ Hid (MapT wr w.heap.size n f) ∧ Hid (∀ s ∈ (ls.take k).flatten, f (sha s) = some s) ∧ Below w.heap.size w wr) (fun i _ => ls.length - (intOf i).toNat)
  case atStart => exact ⟨0, 0, _, by omega, by omega, rfl, HM2, hid (fun s h => by simp at h), hb2⟩
  case round =>
    obtain ⟨k, n, f, hk, hnk, rfl, HM, HF, hB⟩ := hrel
    by_cases hlt : k < ls.length
    · obtain ⟨A, cc, hc00, hrA⟩ := H0.out k hlt
      have hc0 := (hB.cell (p := ⟨b, o + k, none⟩) (World.block_lt_of_cell? _ _ hc00)).trans hc00
      have hft := flat_take ls k hlt
      have hfl := flat_len_take ls (k + 1)
      have hsl0 := HS.out _ (lat_mem ls k hlt)
      obtain ⟨l, hl2⟩ : ∃ l, l = lat ls k := ⟨_, rfl⟩
      clear hc00
      rw [← hl2] at hc0 hrA hft hsl0
      rw [hft, List.length_append] at hfl
      have HFT := hid hft
      have HRA := hid hrA
      have HSL := hid hsl0
      have HB := hid hB
      obtain ⟨F, hFe⟩ : ∃ F, F = (ls.take k).flatten := ⟨_, rfl⟩
      rw [← hFe] at hnk HF HFT hfl
      clear hft hl2 hFe hrA hsl0 hb2
      go_wp2
      go_loopw [20] (fun i wi => ∃ (j n : Nat) (f : List UInt8 → Option (List UInt8)), j ≤ l.length ∧ n ≤ F.length + j ∧ i = .int .i64 (j : Int) ∧ Hid (MapT wi w.heap.size n f) ∧ Hid (∀ s ∈ F ++ l.take j, f (sha s) = some s) ∧ Hid (Below w.heap.size w wi)) (fun i _ => l.length - (intOf i).toNat)
      case atStart => exact ⟨0, n, f, by omega, by omega, rfl, HM, hid (fun s h => HF.out s (by simpa using h)), HB⟩
      case round =>
        clear hnk
        obtain ⟨j, n, f, hj, hnj, rfl, HM, HF, HB⟩ := hrel
        by_cases hlj : j < l.length
        · obtain ⟨ba, oa, rfl, hc1⟩ := (HRA.out.below HB.out).str hlj
          have hsl := HSL.out (sat l j) (by rw [sat_eq l j hlj]; exact List.getElem_mem hlj)
          have htk := take_sat l j hlj
          obtain ⟨x, hx⟩ : ∃ x, x = sat l j := ⟨_, rfl⟩
          rw [← hx] at hc1 hsl htk
          have HTK := hid htk
          obtain ⟨p, hp⟩ : ∃ p, p = sha x := ⟨_, rfl⟩
          have hpr := print_ref_any x wr (by omega)
          rw [← hp] at hpr
          have hpl : p.length ≤ maxLen := by rw [hp]; exact sha_ok x
          have HP := hid hp
          have HPR := hid hpr
          clear hx htk hp hpr
          go_wp2_with fail
          (with_reducible refine HPR.out.mono ?_); rintro e w5 ⟨rfl, hb5⟩
          have hB5 := below_tr HB.out hb5
          have hM5 := HM.out.below hb5
          have hlook := hM5.look p hpl
          obtain ⟨w6, hrun, hM6, hg6⟩ := hM5.put (by unfold maxLen; omega) p x hpl (by unfold maxLen; omega)
          have hB6 : Below w.heap.size w w6 := hB5.grown hg6 hB5.size (fun k hk => by injection hk with hk; omega)
          have HM6 := hid hM6
          have HB6 := hid hB6
          have HB5 := hid hB5
          clear hM6 hM5 hg6 hpl hB6 hB5 hb5
          cases hf : f p with
          | none =>
            rw [hf] at hlook
            have hnew : ∀ s ∈ F ++ l.take (j + 1), putF f p x (sha s) = some s := by
              intro s hs
              rw [HTK.out, ← List.append_assoc] at hs
              rcases List.mem_append.1 hs with hs | hs
              · have h1 := HF.out s hs
                rw [putF, if_neg (fun e => by rw [e, hf] at h1; cases h1)]
                exact h1
              · obtain rfl : s = x := by simpa using hs
                rw [putF, if_pos HP.out.symm]
            have HN := hid hnew
            clear hnew hf
            go_wp2
            go_roundw
            case rel => exact ⟨j + 1, n + 1, _, by omega, by omega, by go_num, HM6, HN, HB6⟩
            case measure => simp [intOf]; omega
          | some t =>
            rw [hf] at hlook
            by_cases htx : t = x
            · subst htx
              have hnew : ∀ s ∈ F ++ l.take (j + 1), putF f p t (sha s) = some s := by
                intro s hs
                rw [HTK.out, ← List.append_assoc] at hs
                rcases List.mem_append.1 hs with hs | hs
                · have h1 := HF.out s hs
                  by_cases e : sha s = p
                  · rw [putF, if_pos e, ← h1, e, hf]
                  · rw [putF, if_neg e]; exact h1
                · obtain rfl : s = t := by simpa using hs
                  rw [putF, if_pos HP.out.symm]
              have HN := hid hnew
              clear hnew hf
              go_wp2
              go_roundw
              case rel => exact ⟨j + 1, n + 1, _, by omega, by omega, by go_num, HM6, HN, HB6⟩
              case measure => simp [intOf]; omega
            · have hxb : (t == x) = false := beq_eq_false_iff_ne.2 htx
              clear hf hrun HM6 HB6
              go_wp2
              go_ret
              exact ⟨⟨true, rfl, fun h => (by cases h)⟩, HB5.out⟩
        · obtain rfl : j = l.length := by omega
          have hf2 : ∀ s ∈ (ls.take (k + 1)).flatten, f (sha s) = some s := fun s hs => HF.out s (by rw [HFT.out] at hs; rw [List.take_length]; exact hs)
          have hn2 : n ≤ (ls.take (k + 1)).flatten.length := by rw [HFT.out, List.length_append]; exact hnj
          have HF2 := hid hf2
          have HN2 := hid hn2
          have HHB := HB
          clear hf2 hn2
          go_wp2
          go_roundw
          case rel => exact ⟨k + 1, n, f, by omega, HN2.out, by go_num, HM, HF2, HHB.out⟩
          case measure => simp [intOf]; omega
    · obtain rfl : k = ls.length := by omega
      have hno : NoC ls.flatten ls.flatten := fun s hs1 t ht e => by
        have a1 := HF.out s (by rw [List.take_length]; exact hs1)
        have a2 := HF.out t (by rw [List.take_length]; exact ht)
        rw [e, a2] at a1
        injection a1 with a1; exact a1.symm
      have HNO := hid hno
      clear hno
      go_wp2
      go_ret
      exact ⟨⟨false, rfl, fun _ => HNO.out⟩, hB⟩
end Go.Proofs.Ytoidbgedpakjmaa.W08
namespace Go.Proofs.Ytoidbgedpakjmaa.W08
open Go.RowKit Go.Proofs.Ytoidbgedpakjmaa.Lib Go.Proofs.Ytoidbgedpakjmaa.Sha Go.Proofs.Ytoidbgedpakjmaa.T08 Go.Proofs.Ytoidbgedpakjmaa.QTail Go.Proofs.Ytoidbgedpakjmaa.Itms Go.Proofs.Ytoidbgedpakjmaa.WSeq Go.Proofs.Ytoidbgedpakjmaa.Bld Go.Proofs.Ytoidbgedpakjmaa.Mp Go.Proofs.Ytoidbgedpakjmaa.W01 Go.Proofs.Ytoidbgedpakjmaa.Inj Go.Proofs.Ytoidbgedpakjmaa.Tree
/-- prolly.NewHeap over a map's nodes, in one form -/
theorem newheap_gen (l : List (List UInt8)) (A : Option Addr) (c : Nat) (w : World) (hl : l.length ≤ 1000000) (hrd : Rd w A (strs l)) (hs : ∀ s ∈ l, s.length ≤ 3000000) :
    Calls Try.prog 11 #[.slice A l.length c] w fun e w' => (∃ hb mb n, e = .returned (.pointer (some ⟨hb, 0, none⟩)) ∧ HeapT w' hb mb n (heapF l)) ∧ Below w.heap.size w w' :=
  (newheap_any l A c w hl hrd (fun i hi => by have := sat_all hs i hi; omega)).mono fun e w' ⟨⟨hb, mb, n, he, _, hH, _⟩, hB⟩ => ⟨⟨hb, mb, n, he, hH⟩, hB⟩
end Go.Proofs.Ytoidbgedpakjmaa.W08
