/- strings.Builder at this dump: the copy check, WriteString, Write; String lies on the shelf. -/
import Derived.Test.YtoidbgedpakjmaaShelf
import Derived.Test.YtoidbgedpakjmaaBlk
set_option linter.unusedVariables false
set_option linter.unusedSimpArgs false
namespace Go.Proofs.Ytoidbgedpakjmaa.Bld
open Go.RowKit Go.Proofs.Ytoidbgedpakjmaa.Lib
theorem infoB : ∃ i, Try.prog.info? 94 = some i ∧ i.size = 2 := by
  have h : (Try.prog.info? 94).map (·.size) = some 2 := by kernel_rfl
  obtain ⟨i, hi, hs⟩ := Option.map_eq_some_iff.1 h
  exact ⟨i, hi, hs⟩
theorem info8 : ∃ i, Try.prog.info? 5 = some i ∧ i.zero = some (.int .u8 0) ∧ i.size = 1 ∧ i.bytes = 1 := by
  have h : (Try.prog.info? 5).map (fun i => (i.zero, i.size, i.bytes)) = some (some (.int .u8 0), 1, 1) := by kernel_rfl
  obtain ⟨i, hi, hs⟩ := Option.map_eq_some_iff.1 h
  simp only [Prod.mk.injEq] at hs
  exact ⟨i, hi, hs.1, hs.2.1, hs.2.2⟩
theorem liesB : liesAt Try.prog Try.prog.depth 94 (2 / Try.prog.cellsOf 94) 0 94 1 = true := by kernel_rfl
set_option maxHeartbeats 1000000 in
set_option maxRecDepth 100000 in
theorem check_used (b : Nat) (w : World) (h0 : w.cell? ⟨b, 0, none⟩ = some (.pointer (some ⟨b, 0, none⟩))) :
    Calls Try.prog 54 #[.pointer (some ⟨b, 0, none⟩)] w fun e w' => e = .returned (.tuple #[]) ∧ w' = w := by
  obtain ⟨j, hj, _⟩ := infoB
  go_enter Try.func54, Try.ntmps54
  go_wp2
  rw [Go.Lib.run_neq_ptr_same w _ Try.underlying91 hj]
  go_wp2
  go_end0
  exact ⟨rfl, rfl⟩
set_option maxHeartbeats 1000000 in
set_option maxRecDepth 100000 in
theorem check_fresh (b : Nat) (w : World) (h0 : w.cell? ⟨b, 0, none⟩ = some (.pointer none)) (hsh : w.shape? b = some (94, 2)) (hfz : w.frozen? ⟨b, 0, none⟩ = false) :
    Calls Try.prog 54 #[.pointer (some ⟨b, 0, none⟩)] w fun e w' => e = .returned (.tuple #[]) ∧ w' = w.setCell ⟨b, 0, none⟩ (.pointer (some ⟨b, 0, none⟩)) := by
  obtain ⟨j, hj, hjs⟩ := infoB
  go_enter Try.func54, Try.ntmps54
  go_wp2
  rw [Go.Lib.run_to_unsafe w ⟨b, 0, none⟩ Try.underlying91 Try.underlying141 hj (by rw [hjs]; decide) hsh (Nat.zero_lt_succ 1)]
  simp only [Result.andThen]
  rw [Oper.upon_value]
  go_wp2
  rw [run_callFunc_extern Try.func68 (by kernel_rfl) (by kernel_rfl) (by kernel_rfl) (e := Extern.AbiNoEscape.same) (by kernel_rfl)]
  rw [Go.Lib.run_noEscape]
  simp only [Result.andThen]
  rw [Oper.upon_value]
  go_wp2
  rw [Go.Lib.run_from_unsafe w ⟨b, 0, none⟩ Try.underlying141 Try.underlying91 hj hsh liesB]
  simp only [Result.andThen]
  rw [Oper.upon_value]
  go_wp2
  go_end0
  exact ⟨rfl, rfl⟩
theorem cell?_of_heap {w w1 : World} {p : Addr} (h : w1.heap[p.block]? = w.heap[p.block]?) : w1.cell? p = w.cell? p := by
  simp only [World.cell?, h]
theorem byts_one (l : List UInt8) : ∀ u ∈ byts l, u.oneCell' = true := by
  intro u hu
  obtain ⟨b, _, rfl⟩ := List.mem_map.1 hu
  rfl
theorem ti_u8 : TI Try.prog 92 5 1 1 := TI.of Try.underlying92 (by kernel_rfl) (by decide) (by decide)
abbrev IsB (B b : Nat) (l : List UInt8) (w : World) : Prop := Go.Lib.IsBuilder 94 5 B b (byts l) w
theorem check_any (B b : Nat) (bs : List Value) (w : World) (h : Go.Lib.IsBuilder 94 5 B b bs w) :
    Calls Try.prog 54 #[.pointer (some ⟨b, 0, none⟩)] w fun e w' => e = .returned (.tuple #[]) ∧ (Go.Lib.BuilderAt 94 5 B b (.pointer (some ⟨b, 0, none⟩)) bs w' ∧ Below B w w') ∧ ∀ k, k ≠ b → w'.heap[k]? = w.heap[k]? := by
  rcases h with h | h
  · refine (check_fresh b w h.cell0 h.shape h.frozen0).mono ?_
    rintro e w' ⟨rfl, rfl⟩
    exact ⟨rfl, ⟨h.used _, (Below.refl B w).setCell (p := ⟨b, 0, none⟩) h.1 _⟩, fun k hk => heap_setCell_other w ⟨b, 0, none⟩ k _ hk⟩
  · refine (check_used b w h.cell0).mono ?_
    rintro e w' ⟨rfl, rfl⟩
    exact ⟨rfl, ⟨h, Below.refl B _⟩, fun _ _ => rfl⟩
theorem strCells_str (l : List UInt8) : Go.Lib.strCells (Str l) = byts l := by
  rw [Str_def]; simp [Go.Lib.strCells, byts]
set_option maxHeartbeats 2000000 in
set_option maxRecDepth 100000 in
theorem wstr_any (B b : Nat) (l s : List UInt8) (w : World) (h : IsB B b l w) (hlen : l.length + s.length ≤ 140737488355328) (hBw : B ≤ w.heap.size) :
    Calls Try.prog 37 #[.pointer (some ⟨b, 0, none⟩), .string (Str s)] w fun e w' => e = .returned (.tuple #[.int .i64 s.length, .nilIface]) ∧ (IsB B b (l ++ s) w' ∧ Below B w w') := by
  obtain ⟨i0, hi, hz0, hz1, hz2⟩ := info8
  go_enter Try.func37, Try.ntmps37
  go_wp2_with fail
  refine (check_any B b _ _ h).mono ?_
  rintro e w1 ⟨rfl, ⟨h1, hb1⟩, hsame⟩
  obtain ⟨hB, v, hbk, hown, hne⟩ := h1
  have c0 : w1.cell? ⟨b, 0, none⟩ = some (.pointer (some ⟨b, 0, none⟩)) := by rw [Go.Lib.cell_of_heap hbk]; rfl
  have c1 : w1.cell? ⟨b, 1, none⟩ = some v := by rw [Go.Lib.cell_of_heap hbk]; rfl
  rw [byts_len] at hown
  go_wp2_with (at_builtin; refine Go.Lib.wpList_append_own_string _ rfl _ _ 92 9 rfl B 5 i0 Try.underlying92 Try.underlying9 hi hz0 hz1 hz2 _ _ _ rfl hown (Str s) rfl ?c3 ?c4 ?c5 ?_)
  case c3 => rw [Str_size]; unfold maxLen; omega
  case c4 => rw [Str_size]; omega
  case c5 => have := hb1.size; omega
  intro v' w2 hown' hgrow _
  have hlt : b < w1.heap.size := by
    rcases Nat.lt_or_ge b w1.heap.size with h' | h'
    · exact h'
    · simp [Array.getElem?_eq_none h'] at hbk
  have hb2 : w2.heap[b]? = some (.cells #[.pointer (some ⟨b, 0, none⟩), v] 94 (0, 0)) := by
    rw [hgrow.block b hlt (fun e => hne e.symm)]
    exact hbk
  have d0 : w2.cell? ⟨b, 0, none⟩ = some (.pointer (some ⟨b, 0, none⟩)) := by rw [Go.Lib.cell_of_heap hb2]; rfl
  have d1 : w2.cell? ⟨b, 1, none⟩ = some v := by rw [Go.Lib.cell_of_heap hb2]; rfl
  have f1 : w2.frozen? ⟨b, 1, none⟩ = false := Go.Lib.frozen_of_heap hb2 1
  obtain ⟨ao, n', cap, rfl⟩ : ∃ ao n' cap, v' = .slice ao n' cap := by
    rcases hown'.2 with ⟨hv, _⟩ | ⟨g, cap, cur, hv, _⟩
    · exact ⟨_, _, _, hv⟩
    · exact ⟨_, _, _, hv⟩
  rw [strCells_str, byts_app, Str_size] at hown'
  go_wp2
  go_ret2
  refine ⟨by simp [Str_size], .inr ?_, ?_⟩
  · exact Go.Lib.BuilderAt.put (T := 94) (e := 5) hB hb2 (bs' := byts (l ++ s)) (by rw [byts_len, List.length_append]; exact hown') (by decide)
  · exact (hb1.grown hgrow (by have := hb1.size; omega) (fun k hk => (hown.lt k hk).1)).setCell (p := ⟨b, 1, none⟩) hB _
set_option maxHeartbeats 2000000 in
set_option maxRecDepth 100000 in
/-- Write, of a row in another block. -/
theorem wbytes_any (B b : Nat) (l s : List UInt8) (A : Option Addr) (c : Nat) (w : World) (h : IsB B b l w) (hrd : Rd w A (byts s)) (hlen : l.length + s.length ≤ 140737488355328) (hBw : B ≤ w.heap.size) (hother : ∀ a, A = some a → a.block ≠ b) (hA : A = none → s.length = 0) (hsp : ∀ a, A = some a → a.spot = none) :
    Calls Try.prog 36 #[.pointer (some ⟨b, 0, none⟩), .slice A s.length c] w fun e w' => e = .returned (.tuple #[.int .i64 s.length, .nilIface]) ∧ (IsB B b (l ++ s) w' ∧ Below B w w') := by
  obtain ⟨i0, hi, hz0, hz1, hz2⟩ := info8
  go_enter Try.func36, Try.ntmps36
  go_wp2_with fail
  refine (check_any B b _ _ h).mono ?_
  rintro e w1 ⟨rfl, ⟨h1, hb1⟩, hsame⟩
  obtain ⟨hB, v, hbk, hown, hne⟩ := h1
  have c0 : w1.cell? ⟨b, 0, none⟩ = some (.pointer (some ⟨b, 0, none⟩)) := by rw [Go.Lib.cell_of_heap hbk]; rfl
  have c1 : w1.cell? ⟨b, 1, none⟩ = some v := by rw [Go.Lib.cell_of_heap hbk]; rfl
  rw [byts_len] at hown
  have hrd1 : Rd w1 A (byts s) := by
    rcases hrd with h0 | ⟨g, o, rfl, hc⟩
    · exact .inl h0
    · refine .inr ⟨g, o, rfl, fun j x hj => ?_⟩
      rw [← hc j x hj]
      exact cell?_of_heap (hsame g (hother _ rfl))
  go_wp2_with (at_builtin; refine wpList_appS ti_u8 _ _ (by rfl) (by rfl) B A s.length c (byts s) (by rfl) (by rfl) hown (by rw [byts_len, Nat.mul_one]) hrd1 hA hsp (byts_one s) (w0 := w) hb1 (by have := hb1.size; omega) (by omega) ?_)
  intro v' w2 hown' hgrow hor hB2 hs2
  have hlt : b < w1.heap.size := by
    rcases Nat.lt_or_ge b w1.heap.size with h' | h'
    · exact h'
    · simp [Array.getElem?_eq_none h'] at hbk
  have hb2 : w2.heap[b]? = some (.cells #[.pointer (some ⟨b, 0, none⟩), v] 94 (0, 0)) := by
    rw [hgrow.block b hlt (fun e => hne e.symm)]
    exact hbk
  have d0 : w2.cell? ⟨b, 0, none⟩ = some (.pointer (some ⟨b, 0, none⟩)) := by rw [Go.Lib.cell_of_heap hb2]; rfl
  have d1 : w2.cell? ⟨b, 1, none⟩ = some v := by rw [Go.Lib.cell_of_heap hb2]; rfl
  have f1 : w2.frozen? ⟨b, 1, none⟩ = false := Go.Lib.frozen_of_heap hb2 1
  obtain ⟨ao, n', cap, rfl⟩ : ∃ ao n' cap, v' = .slice ao n' cap := by
    rcases hown'.2 with ⟨hv, _⟩ | ⟨g, cap, cur, hv, _⟩
    · exact ⟨_, _, _, hv⟩
    · exact ⟨_, _, _, hv⟩
  rw [byts_app] at hown'
  go_wp2
  go_ret2
  refine ⟨rfl, .inr ?_, hB2.setCell (p := ⟨b, 1, none⟩) hB _⟩
  exact Go.Lib.BuilderAt.put (T := 94) (e := 5) hB hb2 (bs' := byts (l ++ s)) (by rw [byts_len, List.length_append]; exact hown') (by decide)
theorem isb_below {B b : Nat} {l : List UInt8} {w w1 : World} (h : IsB B b l w) (hb : Below w.heap.size w w1) : IsB B b l w1 := by
  have key : ∀ p, Go.Lib.BuilderAt 94 5 B b p (byts l) w → Go.Lib.BuilderAt 94 5 B b p (byts l) w1 := by
    intro p hp
    have hlt := hp.lt
    obtain ⟨h1, v, h2, h3, h4⟩ := hp
    exact ⟨h1, v, by rw [hb.block b hlt]; exact h2, own_of_below h3 hb, h4⟩
  rcases h with h | h
  · exact .inl (key _ h)
  · exact .inr (key _ h)
theorem wstring_any (B b : Nat) (l : List UInt8) (w : World) (h : IsB B b l w) (hBw : B ≤ w.heap.size) :
    Calls Try.prog 39 #[.pointer (some ⟨b, 0, none⟩)] w fun e w' => e = .returned (.string (Str l)) ∧ Below B w w' := by
  rw [Str_def]
  exact Try.Builder_String_any B b l w h hBw
end Go.Proofs.Ytoidbgedpakjmaa.Bld
