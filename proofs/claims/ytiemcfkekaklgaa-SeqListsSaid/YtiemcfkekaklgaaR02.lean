/- The document's sorted list of pairs. -/
import Derived.Test.YtiemcfkekaklgaaSp02
import Derived.Test.YtiemcfkekaklgaaRun
import Derived.Test.YtiemcfkekaklgaaProg
set_option linter.unusedVariables false
set_option linter.unusedSimpArgs false
namespace Go.Proofs.Ytiemcfkekaklgaa.R02
open Go.RowKit Go.Proofs.Ytiemcfkekaklgaa.Lib Go.Proofs.Ytiemcfkekaklgaa.Prs Go.Proofs.Ytiemcfkekaklgaa.Run Go.Proofs.Ytiemcfkekaklgaa.Lt Go.Proofs.Ytiemcfkekaklgaa.Sp
attribute [local go_sem] Str_toList
theorem ti_P : TI Try.prog 22 52 2 24 := TI.of (by kernel_rfl) (by kernel_rfl) (by decide) (by decide)
def vlen : Value → Nat | .slice _ n _ => n | _ => 0
def vstr : Value → List UInt8 | .string b => b.toList | _ => []
theorem left_v (l out : List Itm) (done : List UInt8) (A : Option Addr) (c : Nat) : left l out done = (l.filter fun x => (vlen (.slice A out.length c) == 0) || ltS (vstr (.string (Str done))) x.1).length := by
  unfold left cand
  have h1 : (vlen (.slice A out.length c) == 0) = out.isEmpty := by cases out <;> simp [vlen]
  have h2 : vstr (.string (Str done)) = done := Str_toList done
  rw [h1, h2]
theorem step_skip {l out : List Itm} {done : List UInt8} {i : Nat} {b : Option Nat} (h : Least l out done i b) (hc : cand out done (itm l i).1 = false) : Least l out done (i + 1) b := by
  cases b with
  | none =>
    intro j hj
    by_cases e : j = i
    · subst e; exact hc
    · exact h j (by omega)
  | some t =>
    obtain ⟨h1, h2, h3, h4⟩ := h
    refine ⟨by omega, h2, fun j hj hcj => ?_, fun j h5 h6 => ?_⟩
    · by_cases e : j = i
      · subst e; rw [hc] at hcj; cases hcj
      · exact h3 j (by omega) hcj
    · by_cases e : j = i
      · subst e; intro e2; rw [e2, h2] at hc; cases hc
      · exact h4 j h5 (by omega)
theorem step_keep {l out : List Itm} {done : List UInt8} {i t : Nat} (h : Least l out done i (some t)) (hl : leS (itm l i).1 (itm l t).1 = false) : Least l out done (i + 1) (some t) := by
  obtain ⟨h1, h2, h3, h4⟩ := h
  have hlt : ltS (itm l t).1 (itm l i).1 = true := by unfold leS at hl; simpa using hl
  refine ⟨by omega, h2, fun j hj hcj => ?_, fun j h5 h6 => ?_⟩
  · by_cases e : j = i
    · subst e; unfold leS; rw [lt_asymm _ _ hlt]; rfl
    · exact h3 j (by omega) hcj
  · by_cases e : j = i
    · subst e; intro e2; rw [e2, lt_irrefl] at hlt; cases hlt
    · exact h4 j h5 (by omega)
theorem step_take {l out : List Itm} {done : List UInt8} {i : Nat} {b : Option Nat} (h : Least l out done i b) (hc : cand out done (itm l i).1 = true) (hl : ∀ t, b = some t → leS (itm l i).1 (itm l t).1 = true) : Least l out done (i + 1) (some i) := by
  refine ⟨by omega, hc, fun j hj hcj => ?_, fun j h5 h6 => by omega⟩
  by_cases e : j = i
  · subst e; unfold leS; rw [lt_irrefl]; rfl
  · cases b with
    | none => have := h j (by omega); rw [this] at hcj; cases hcj
    | some t =>
      have h3 := h.2.2.1 j (by omega) hcj
      have h1 := hl t rfl
      unfold leS at *
      cases hq : ltS (itm l j).1 (itm l i).1 with
      | false => rfl
      | true =>
        have := le_trans' (a := (itm l t).1) h3 hq
        rw [this] at h1; cases h1
/-- the least so far as the machine has it -/
def bint : Option Nat → Int | none => -1 | some t => (t : Int)
set_option maxRecDepth 100000 in
set_option maxHeartbeats 800000 in
theorem sorted_any (A : Option Addr) (c : Nat) (l : List Itm) (hl : l.length ≤ 1000000000) (w : World) (hrd : Rd w A (its l)) :
    Calls Try.prog 13 #[.slice A l.length c] w fun e w' => (∃ r v, e = .returned v ∧ w'.ownsRow w.heap.size 52 2 v r.length (its r) ∧ SortOf l r ∧ r.length ≤ l.length) ∧ Below w.heap.size w w' := by
  have H0 := hid hrd
  obtain ⟨n, hn⟩ : ∃ n, n = l.length := ⟨_, rfl⟩
  rw [← hn] at hl ⊢
  have HN := hid hn
  clear hrd hn
  go_enter Try.func13, Try.ntmps13
  go_wp2
  go_loopw [3, 4] (fun v s wr => ∃ (out : List Itm) (done : List UInt8), s = .string (Str done) ∧ wr.ownsRow w.heap.size 52 2 v out.length (its out) ∧ Below w.heap.size w wr ∧ Hid (Upto l out done) ∧ Hid (out.length + left l out done ≤ n)) (fun v s _ => (l.filter fun x => (vlen v == 0) || ltS (vstr s) x.1).length)
  case atStart => exact ⟨[], [], by rw [Str_nil], own_nil _ _ _ _, below_rf w, hid (upto_nil l), hid (by rw [HN.out, List.length_nil, Nat.zero_add]; exact List.length_filter_le _ _)⟩
  case round =>
    obtain ⟨out, done, rfl, hown, hB, HU, HLN⟩ := hrel
    obtain ⟨Av, cv, rfl⟩ := own_succ hown
    have hol : out.length ≤ 1000000000 := by have := HLN.out; omega
    have HOWN := hid hown
    clear hown
    go_wp2
    go_loopw [5, 6] (fun b i wq => ∃ (k : Nat) (bb : Option Nat), k ≤ n ∧ i = .int .i64 (k : Int) ∧ b = .int .i64 (bint bb) ∧ Hid (Least l out done k bb) ∧ ∃ q, wq = wr.drewN q) (fun _ i _ => n - (intOf i).toNat)
    case atStart => exact ⟨0, none, by omega, rfl, rfl, hid (fun j hj => by omega), 0, rfl⟩
    case round =>
      obtain ⟨k, bb, hk, rfl, rfl, HL, q, rfl⟩ := hrel
      by_cases hlt : k < n
      · obtain ⟨b, o, rfl, hc1, hc2⟩ := rd_itm (Rd.below H0.out hB) (j := k) (by rw [← HN.out]; exact hlt)
        obtain ⟨x, hx⟩ : ∃ x, x = itm l k := ⟨_, rfl⟩
        rw [← hx] at hc1 hc2
        have HX := hid hx
        by_cases hskip : cand out done x.1 = false
        · have HS := hid (step_skip HL.out (by rw [← hx]; exact hskip))
          unfold cand at hskip
          rw [Bool.or_eq_false_iff] at hskip
          have hne : out.length ≠ 0 := fun e => by rw [List.length_eq_zero_iff.1 e] at hskip; exact absurd hskip.1 (by decide)
          have q0 : 0 < out.length := by omega
          have hle : leS x.1 done = true := by unfold leS; rw [hskip.2]; rfl
          rw [le_lt] at hle
          have HLE := hid hle
          clear hskip hle hx
          cases r1 : ltS x.1 done with
          | true =>
            have r1' : Op.bytesLess x.1 done = true := r1
            clear r1
            go_wp2
            go_roundw
            case rel => exact ⟨k + 1, bb, by omega, by simp, rfl, HS, q, rfl⟩
            case measure => simp [intOf]; omega
          | false =>
            have r1' : Op.bytesLess x.1 done = false := r1
            have r2' : (x.1 == done) = true := by have := HLE.out; rw [r1] at this; simpa using this
            clear r1
            go_wp2
            go_roundw
            case rel => exact ⟨k + 1, bb, by omega, by simp, rfl, HS, q, rfl⟩
            case measure => simp [intOf]; omega
        · have hcand : cand out done (itm l k).1 = true := by rw [← hx]; simpa using hskip
          clear hskip
          have hq : ¬ 0 < out.length ∨ (0 < out.length ∧ Op.bytesLess x.1 done = false ∧ (x.1 == done) = false) := by
            by_cases h0 : out.length = 0
            · exact .inl (by omega)
            · refine .inr ⟨by omega, ?_⟩
              unfold cand at hcand
              rw [← hx] at hcand
              have h1 : out.isEmpty = false := by cases out <;> simp_all
              rw [h1, Bool.false_or] at hcand
              have := lt_asymm _ _ hcand
              exact ⟨this, beq_eq_false_iff_ne.2 (fun e => by rw [e, lt_irrefl] at hcand; cases hcand)⟩
          clear hx
          rcases hq with q0 | ⟨q0, q1, q2⟩
          · cases bb with
            | none =>
              have hs := step_take HL.out hcand (fun t h => by cases h)
              have HS := hid hs
              have g2 : bint none = -1 := rfl
              clear hs hcand
              go_wp2
              go_quiet (fail)
              go_wp2
              go_roundw
              case rel => exact ⟨k + 1, some k, by omega, by simp, rfl, HS, _, rfl⟩
              case measure => simp [intOf]; omega
            | some t =>
              have htk := HL.out.1
              obtain ⟨b2, o2, e2, hd1, hd2⟩ := rd_itm (Rd.below H0.out hB) (j := t) (by rw [← HN.out]; omega)
              injection e2 with e2; injection e2 with e3 e4; subst e3; subst e4
              obtain ⟨z, hz⟩ : ∃ z, z = itm l t := ⟨_, rfl⟩
              rw [← hz] at hd1 hd2
              have g1 : decide ((t : Int) < 0) = false := decide_eq_false (by omega)
              have g2 : bint (some t) = (t : Int) := rfl
              have htn : t < n := by omega
              have hwt : IntKind.i64.wrap (t : Int) = (t : Int) := by rw [IntKind.wrap_i64]; omega
              have hLt : leS x.1 z.1 = true → Least l out done (k + 1) (some k) := fun h => step_take HL.out hcand (fun t' e => by injection e with e; subst e; rw [← HX.out, ← hz]; exact h)
              have hLk : leS x.1 z.1 = false → Least l out done (k + 1) (some t) := fun h => step_keep HL.out (by rw [← HX.out, ← hz]; exact h)
              rw [le_lt] at hLt hLk
              have HLT := hid hLt
              have HLK := hid hLk
              clear hLt hLk hz hcand htk
              cases r1 : ltS x.1 z.1 with
              | true =>
                have r1' : Op.bytesLess x.1 z.1 = true := r1
                have HS := hid (HLT.out (by rw [r1]; rfl))
                clear r1
                go_wp2
                go_quiet (fail)
                go_wp2
                go_roundw
                case rel => exact ⟨k + 1, some k, by omega, by simp, rfl, HS, _, rfl⟩
                case measure => simp [intOf]; omega
              | false =>
                have r1' : Op.bytesLess x.1 z.1 = false := r1
                by_cases r2 : x.1 = z.1
                · have r2' : (x.1 == z.1) = true := beq_iff_eq.2 r2
                  have HS := hid (HLT.out (by rw [r2']; simp))
                  clear r1 r2
                  go_wp2
                  go_quiet (fail)
                  go_wp2
                  go_roundw
                  case rel => exact ⟨k + 1, some k, by omega, by simp, rfl, HS, _, rfl⟩
                  case measure => simp [intOf]; omega
                · have r2' : (x.1 == z.1) = false := beq_eq_false_iff_ne.2 r2
                  have HS := hid (HLK.out (by rw [r1, r2']; rfl))
                  clear r1 r2
                  go_wp2
                  go_quiet (fail)
                  go_wp2
                  go_roundw
                  case rel => exact ⟨k + 1, some t, by omega, by simp, rfl, HS, _, rfl⟩
                  case measure => simp [intOf]; omega
          · cases bb with
            | none =>
              have hs := step_take HL.out hcand (fun t h => by cases h)
              have HS := hid hs
              have g2 : bint none = -1 := rfl
              clear hs hcand
              go_wp2
              go_quiet (fail)
              go_wp2
              go_roundw
              case rel => exact ⟨k + 1, some k, by omega, by simp, rfl, HS, _, rfl⟩
              case measure => simp [intOf]; omega
            | some t =>
              have htk := HL.out.1
              obtain ⟨b2, o2, e2, hd1, hd2⟩ := rd_itm (Rd.below H0.out hB) (j := t) (by rw [← HN.out]; omega)
              injection e2 with e2; injection e2 with e3 e4; subst e3; subst e4
              obtain ⟨z, hz⟩ : ∃ z, z = itm l t := ⟨_, rfl⟩
              rw [← hz] at hd1 hd2
              have g1 : decide ((t : Int) < 0) = false := decide_eq_false (by omega)
              have g2 : bint (some t) = (t : Int) := rfl
              have htn : t < n := by omega
              have hwt : IntKind.i64.wrap (t : Int) = (t : Int) := by rw [IntKind.wrap_i64]; omega
              have hLt : leS x.1 z.1 = true → Least l out done (k + 1) (some k) := fun h => step_take HL.out hcand (fun t' e => by injection e with e; subst e; rw [← HX.out, ← hz]; exact h)
              have hLk : leS x.1 z.1 = false → Least l out done (k + 1) (some t) := fun h => step_keep HL.out (by rw [← HX.out, ← hz]; exact h)
              rw [le_lt] at hLt hLk
              have HLT := hid hLt
              have HLK := hid hLk
              clear hLt hLk hz hcand htk
              cases r1 : ltS x.1 z.1 with
              | true =>
                have r1' : Op.bytesLess x.1 z.1 = true := r1
                have HS := hid (HLT.out (by rw [r1]; rfl))
                clear r1
                go_wp2
                go_quiet (fail)
                go_wp2
                go_roundw
                case rel => exact ⟨k + 1, some k, by omega, by simp, rfl, HS, _, rfl⟩
                case measure => simp [intOf]; omega
              | false =>
                have r1' : Op.bytesLess x.1 z.1 = false := r1
                by_cases r2 : x.1 = z.1
                · have r2' : (x.1 == z.1) = true := beq_iff_eq.2 r2
                  have HS := hid (HLT.out (by rw [r2']; simp))
                  clear r1 r2
                  go_wp2
                  go_quiet (fail)
                  go_wp2
                  go_roundw
                  case rel => exact ⟨k + 1, some k, by omega, by simp, rfl, HS, _, rfl⟩
                  case measure => simp [intOf]; omega
                · have r2' : (x.1 == z.1) = false := beq_eq_false_iff_ne.2 r2
                  have HS := hid (HLK.out (by rw [r1, r2']; rfl))
                  clear r1 r2
                  go_wp2
                  go_quiet (fail)
                  go_wp2
                  go_roundw
                  case rel => exact ⟨k + 1, some t, by omega, by simp, rfl, HS, _, rfl⟩
                  case measure => simp [intOf]; omega
      · obtain rfl : k = n := by omega
        have HLL := HL
        rw [HN.out] at HLL
        cases bb with
        | none =>
          have HS := hid (upto_end HU.out HLL.out)
          have g2 : bint none = -1 := rfl
          go_wp2
          go_ret
          exact ⟨⟨out, _, rfl, HOWN.out, HS.out, by have := HLN.out; omega⟩, below_drewN hB _⟩
        | some t =>
          have htk := HL.out.1
          obtain ⟨b, o, rfl, hc1, hc2⟩ := rd_itm (Rd.below H0.out hB) (j := t) (by rw [← HN.out]; exact htk)
          obtain ⟨z, hz⟩ : ∃ z, z = itm l t := ⟨_, rfl⟩
          have HS := hid (upto_step HU.out HLL.out)
          have HLF := hid (left_lt HU.out HLL.out)
          rw [← hz] at hc1 hc2 HS HLF
          have g1 : decide ((t : Int) < 0) = false := decide_eq_false (by omega)
          have g2 : bint (some t) = (t : Int) := rfl
          have hown6 := own_of_below HOWN.out (below_drewN (below_rf wr) q)
          have hB6 := below_drewN hB q
          clear hz
          go_wp2_with (at_builtin; (refine wpList_appN ti_P (.tmp 49) (.tmp 54) (by rfl) (by rfl) w.heap.size [.string (Str z.1), .int .i64 z.2] 52 1 1 (by rfl) (by rw [show (wr.drewN q).heap.size = wr.heap.size by simp]; rfl) hown6 (by rfl) (by simp [Value.oneCell']) hB6 hB6.size (by omega) ?_; intro A2 c2 w7 ho7 hg7 hB7 hsz7))
          go_wp2
          go_roundw
          case rel => exact ⟨out ++ [z], z.1, rfl, by rw [its_app, List.length_append]; exact ho7, hB7, HS, hid (by have := HLF.out; have := HLN.out; rw [List.length_append]; simp only [List.length_cons, List.length_nil]; omega)⟩
          case measure =>
            have := HLF.out
            rw [left_v l _ _ A2 c2, left_v l out done Av cv, List.length_append] at this
            exact this
end Go.Proofs.Ytiemcfkekaklgaa.R02
