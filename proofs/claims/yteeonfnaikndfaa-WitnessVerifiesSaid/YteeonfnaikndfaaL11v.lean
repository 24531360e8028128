/- The law of which bytes are taken, walked. -/
import Derived.Test.YteeonfnaikndfaaL11
import Derived.Test.YteeonfnaikndfaaP11
set_option linter.unusedVariables false
set_option linter.unusedSimpArgs false
namespace Go.Proofs.Yteeonfnaikndfaa.W11
open Go Go.RowKit Go.Proofs.Yteeonfnaikndfaa.Lib Go.Proofs.Yteeonfnaikndfaa.Sha Go.Proofs.Yteeonfnaikndfaa.T07 Go.Proofs.Yteeonfnaikndfaa.T08 Go.Proofs.Yteeonfnaikndfaa.QTail Go.Proofs.Yteeonfnaikndfaa.Itms Go.Proofs.Yteeonfnaikndfaa.WSeq Go.Proofs.Yteeonfnaikndfaa.Ord Go.Proofs.Yteeonfnaikndfaa.Tree Go.Proofs.Yteeonfnaikndfaa.W08 Go.Proofs.Yteeonfnaikndfaa.Wit Go.Proofs.Yteeonfnaikndfaa.W01 Go.Proofs.Yteeonfnaikndfaa.Bld Go.Proofs.Yteeonfnaikndfaa.Mp Go.Proofs.Yteeonfnaikndfaa.Inj
open Go.Proofs.Yteeonfnaikndfaa.Run hiding round_any yield_any
attribute [local go_sem] Str_size Str_toList Str_extract
/-- what is answered, as three values -/
def vTup (r : Option (Option (List UInt8))) : List UInt8 × Bool × Bool := match r with
  | none => ([], false, false)
  | some none => ([], false, true)
  | some (some v) => (v, true, true)
theorem verify_tup {r : Option (Option (List UInt8))} {e : Ending} (h : VerifyOut r e) : e = .returned (.tuple #[.string (Str (vTup r).1), .bool (vTup r).2.1, .bool (vTup r).2.2]) := by
  rcases r with _ | _ | v <;> exact h
theorem verify_tup2 (root key proof : List UInt8) (hroot : root.length ≤ 1000000000) (w : World) :
    Calls Try.prog 17 #[.string (Str root), .string (Str key), .string (Str proof)] w fun e w' => e = .returned (.tuple #[.string (Str (vTup (verifyS root key proof)).1), .bool (vTup (verifyS root key proof)).2.1, .bool (vTup (verifyS root key proof)).2.2]) ∧ Below w.heap.size w w' :=
  (verify_any root key proof hroot w).mono fun e w' h => ⟨verify_tup h.1, h.2⟩
theorem vref_tup (root key proof : List UInt8) (hp : proof.length ≤ 1000000) (w : World) :
    Calls Try.prog 18 #[.string (Str root), .string (Str key), .string (Str proof)] w fun e w' => e = .returned (.tuple #[.string (Str (vTup (verifyS root key proof)).1), .bool (vTup (verifyS root key proof)).2.1, .bool (vTup (verifyS root key proof)).2.2]) ∧ Below w.heap.size w w' :=
  (P08.vref_any root key proof hp w).mono fun e w' h => ⟨verify_tup h.1, h.2⟩
set_option maxRecDepth 100000 in
set_option maxHeartbeats 1600000 in
theorem verifies_any (text key proof : List UInt8) (w : World) :
    Calls Try.prog 4 #[.string (Str text), .string (Str key), .string (Str proof)] w fun e w' => e = .returned (.bool true) ∧ Below w.heap.size w w' := by
  go_enter Try.func4, Try.ntmps4
  go_wp2_with fail
  refine (awake11_any w).mono ?_; rintro e w1 ⟨rfl, hb1⟩
  by_cases h1 : 20000 < proof.length
  · have g1 : decide ((20000 : Int) < (proof.length : Int)) = true := decide_eq_true (by omega)
    clear h1
    go_wp2
    go_ret
    exact ⟨rfl, hb1⟩
  · have g1 : decide ((20000 : Int) < (proof.length : Int)) = false := decide_eq_false (by omega)
    by_cases h2 : 20000 < text.length
    · have g2 : decide ((20000 : Int) < (text.length : Int)) = true := decide_eq_true (by omega)
      clear h1 h2
      go_wp2
      go_ret
      exact ⟨rfl, hb1⟩
    · have g2 : decide ((20000 : Int) < (text.length : Int)) = false := decide_eq_false (by omega)
      have HPR := hid (print_ref_any text w1 (by omega))
      have HS := hid (sha_len text)
      obtain ⟨root, hr⟩ : ∃ root, root = sha text := ⟨_, rfl⟩
      rw [← hr] at HPR HS
      have HB1 := hid hb1
      have HV1 := hid (fun W => verify_tup2 root key proof (by have := HS.out; omega) W)
      have HV2 := hid (fun W => vref_tup root key proof (by omega) W)
      have HV3 := hid (fun W => verify_tup2 text key proof (by omega) W)
      have HV4 := hid (fun W => vref_tup text key proof (by omega) W)
      obtain ⟨⟨a1, a2, a3⟩, ha⟩ : ∃ t, t = vTup (verifyS root key proof) := ⟨_, rfl⟩
      obtain ⟨⟨b1, b2, b3⟩, hb⟩ : ∃ t, t = vTup (verifyS text key proof) := ⟨_, rfl⟩
      rw [← ha] at HV1 HV2
      rw [← hb] at HV3 HV4
      have ta : (a1 == a1) = true := beq_self_eq_true _
      have tb : (b1 == b1) = true := beq_self_eq_true _
      clear h1 h2 hr ha hb hb1
      go_wp2_with fail
      (with_reducible refine HPR.out.mono ?_); rintro e w2 ⟨rfl, hb2⟩
      have HB2 := hid (below_tr HB1.out hb2)
      clear hb2
      go_wp2_with fail
      (with_reducible refine (HV1.out _).mono ?_); rintro e w3 ⟨rfl, hb3⟩
      have HB3 := hid (below_tr HB2.out hb3)
      clear hb3
      go_wp2_with fail
      (with_reducible refine (HV2.out _).mono ?_); rintro e w4 ⟨rfl, hb4⟩
      have HB4 := hid (below_tr HB3.out hb4)
      clear hb4
      go_wp2_with fail
      (with_reducible refine (HV3.out _).mono ?_); rintro e w5 ⟨rfl, hb5⟩
      have HB5 := hid (below_tr HB4.out hb5)
      clear hb5
      go_wp2_with fail
      (with_reducible refine (HV4.out _).mono ?_); rintro e w6 ⟨rfl, hb6⟩
      have HB6 := hid (below_tr HB5.out hb6)
      clear hb6
      go_wp2
      go_ret
      exact ⟨rfl, HB6.out⟩
end Go.Proofs.Yteeonfnaikndfaa.W11
