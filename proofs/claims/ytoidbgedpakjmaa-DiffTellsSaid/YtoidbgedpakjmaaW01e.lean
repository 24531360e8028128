/- The walks of layer 1: the document's fingerprint. The walks of layer 1: the document's fingerprint, the great loop. The walks of layer 1: the document's fingerprint. -/
import Derived.Test.YtoidbgedpakjmaaW01
import Derived.Test.YtoidbgedpakjmaaBlk
import Derived.Test.YtoidbgedpakjmaaMild
import Derived.Deep.RegionLaw
set_option linter.unusedVariables false
set_option linter.unusedSimpArgs false
namespace Go.Proofs.Ytoidbgedpakjmaa.W01
open Go.RowKit Go.Proofs.Ytoidbgedpakjmaa.Lib Go.Proofs.Ytoidbgedpakjmaa.Sha
def stL (s : St) : List W32 := [s.a, s.b, s.c, s.d, s.e, s.f, s.g, s.h]
theorem stL_at (s : St) (j : Nat) (h : j < 8) : (us (stL s))[j]? = some (.int .u32 (V (nth s j))) := by
  rcases j with _ | _ | _ | _ | _ | _ | _ | _ | j
  all_goals first | (exfalso; omega) | rfl
theorem kL_at (j : Nat) (h : j < 64) : (us kList)[j]? = some (.int .u32 (V (kAt j))) := us_at _ _ h
theorem H_any (w : World) : Calls Try.prog 50 #[] w fun e w' => ∃ A, e = .returned (.slice A 8 8) ∧ Below w.heap.size w w' ∧ Rd w' A (us (stL st0)) := by
  go_enter Try.func50, Try.ntmps50
  go_wp2
  go_ret
  refine ⟨_, rfl, below_al (below_rf w) _, .inr ⟨_, _, rfl, fun j x hx => ?_⟩⟩
  rw [World.cell?_alloc_at _ _ _ _ rfl, Nat.zero_add, ← hx]
  simp only [us, stL, st0, List.map_cons, List.map_nil, V_def]
  simp
set_option maxHeartbeats 3200000 in
theorem K_any (w : World) : Calls Try.prog 51 #[] w fun e w' => ∃ A, e = .returned (.slice A 64 64) ∧ Below w.heap.size w w' ∧ Rd w' A (us kList) := by
  go_enter Try.func51, Try.ntmps51
  go_wp2
  go_ret
  refine ⟨_, rfl, below_al (below_rf w) _, .inr ⟨_, _, rfl, fun j x hx => ?_⟩⟩
  rw [World.cell?_alloc_at _ _ _ _ rfl, Nat.zero_add, ← hx]
  simp only [us, kList, List.map_cons, List.map_nil, V_def]
  simp
end Go.Proofs.Ytoidbgedpakjmaa.W01
namespace Go.Proofs.Ytoidbgedpakjmaa.W01
open Go.RowKit Go.Proofs.Ytoidbgedpakjmaa.Lib Go.Proofs.Ytoidbgedpakjmaa.Sha Go.Proofs.Ytoidbgedpakjmaa.QTail
theorem Str_lit_l' (a b : List UInt8) : ByteArray.mk a.toArray ++ Str b = Str (a ++ b) := by rw [Str_mk, Str_append]
theorem Str_lit_r' (a b : List UInt8) : Str a ++ ByteArray.mk b.toArray = Str (a ++ b) := by rw [Str_mk, Str_append]
theorem ch32 (a b c : W32) : a &&& b ||| ~~~a &&& c = a &&& b ^^^ ~~~a &&& c := by
  ext i hi; simp; cases a[i] <;> simp
theorem maj32 (a b c : W32) : a &&& b ||| a &&& c ||| b &&& c = a &&& b ^^^ a &&& c ^^^ b &&& c := by
  ext i hi; simp; cases a[i] <;> cases b[i] <;> cases c[i] <;> rfl
attribute [local go_sem] Str_lit_l' Str_lit_r' Str_size Str_toList Str_extract Str_append Str_get bt_nn bt_lt V_nn V_lt List.length_append take_rest bx ba bo badd unot sh3 sh10
theorem ti_u32 : TI Try.prog 123 101 1 4 := TI.of Try.underlying123 (by kernel_rfl) (by decide) (by decide)
theorem ti_u8 : TI Try.prog 92 5 1 1 := TI.of Try.underlying92 (by kernel_rfl) (by decide) (by decide)
theorem st_take (s : St) (k : Nat) (h : k < 8) : (stBytes s).take (4 * (k + 1)) = (stBytes s).take (4 * k) ++ w32b (nth s k) := by
  rcases k with _ | _ | _ | _ | _ | _ | _ | _ | k
  all_goals first | (exfalso; omega) | rfl
theorem byts_w32 (x : W32) : byts (w32b x) = [.int .u8 (V x / 16777216 % 256), .int .u8 (V x / 65536 % 256), .int .u8 (V x / 256 % 256), .int .u8 (V x % 256)] := by
  have h := V_nn x
  simp only [byts, w32b, List.map_cons, List.map_nil]
  rw [u8_toNat _ (by omega), u8_toNat _ (by omega), u8_toNat _ (by omega), u8_toNat _ (by omega)]
theorem vadd (a b : W32) : (V a + V b) % 4294967296 = V (a + b) := badd a b
def pad0 (s : List UInt8) : Nat := (119 - s.length % 64) % 64
def padAll (s : List UInt8) : List UInt8 := s ++ [128] ++ List.replicate (pad0 s) 0 ++ be (8 * s.length) 8
def slcLen : Value → Nat | .slice _ n _ => n | _ => 0
theorem byts_mod (x : Int) (h : 0 ≤ x) : [Value.int .u8 (x % 256)] = byts [u8 x] := by
  simp only [byts, List.map_cons, List.map_nil]; rw [u8_toNat _ h]
@[irreducible] def zero64 : Array Value := (List.replicate 64 (Value.int .u32 0)).toArray
theorem make64 (W : World) : (Instr.makeSlice 123 (.int .i64 64) (.int .i64 64)).run Try.prog W = .ok (.slice (some ⟨W.heap.size, 0, none⟩) 64 64) (W.alloc (.cells zero64 101)) := by
  unfold zero64
  kernel_rfl
theorem made64 (W : World) : Blk (W.alloc (.cells zero64 101)) W.heap.size (us (List.replicate 64 0#32)) 101 := by
  have e : us (List.replicate 64 0#32) = List.replicate 64 (Value.int .u32 0) := by
    rw [us, List.map_replicate, show V 0#32 = 0 from by rw [V_def]; rfl]
  rw [e]
  unfold zero64
  exact Blk.new W _ 101
theorem blk_at (b : List UInt8) (m j : Nat) (h : j < 64) (hm : m + 64 ≤ b.length) : bt ((b.drop m).take 64) j = bt b (m + j) := by
  unfold bt
  rw [List.getD_eq_getElem?_getD, List.getD_eq_getElem?_getD, List.getElem?_take_of_lt h, List.getElem?_drop]
/-- what is there in a round -/
structure R3 (b : List UInt8) (g g7 g11 : Nat) (hs ws : List W32) (w W : World) : Prop where
  l7 : hs.length = 8
  l11 : ws.length = 64
  h7 : Blk W g7 (us hs) 101
  h11 : Blk W g11 (us ws) 101
  hb : ∀ j, j < b.length → W.cell? ⟨g, j, none⟩ = some (.int .u8 (bt b j))
  hB : Below w.heap.size w W
  o1 : w.heap.size ≤ g7
  o2 : g7 < g
  o3 : g < g11
theorem R3.drewN {b : List UInt8} {g g7 g11 : Nat} {hs ws : List W32} {w W : World} (h : R3 b g g7 g11 hs ws w W) (n : Nat) : R3 b g g7 g11 hs ws w (W.drewN n) :=
  ⟨h.l7, h.l11, h.h7.drewN n, h.h11.drewN n, h.hb, below_drewN h.hB n, h.o1, h.o2, h.o3⟩
theorem R3.drew {b : List UInt8} {g g7 g11 : Nat} {hs ws : List W32} {w W : World} (h : R3 b g g7 g11 hs ws w W) : R3 b g g7 g11 hs ws w W.drew := h.drewN 1
theorem R3.alloc {b : List UInt8} {g g7 g11 : Nat} {hs ws : List W32} {w W : World} (h : R3 b g g7 g11 hs ws w W) (o : Obj) : R3 b g g7 g11 hs ws w (W.alloc o) :=
  ⟨h.l7, h.l11, h.h7.alloc o, h.h11.alloc o, fun j hj => by
    rw [← h.hb j hj]; exact World.cell?_alloc_old W o _ (Nat.ne_of_lt (Nat.lt_trans h.o3 h.h11.lt)), below_al h.hB o, h.o1, h.o2, h.o3⟩
theorem R3.setw {b : List UInt8} {g g7 g11 : Nat} {hs ws : List W32} {w W : World} (h : R3 b g g7 g11 hs ws w W) (j : Nat) (v : W32) : R3 b g g7 g11 hs (ws.set j v) w (W.setCell ⟨g11, j, none⟩ (.int .u32 (V v))) :=
  ⟨h.l7, by simp [h.l11], h.h7.set_other (by have := h.o2; have := h.o3; simp; omega) _, by rw [← us_set]; exact h.h11.set j _, fun i hi => by
    have := h.o3
    rw [World.cell?_setCell_other _ _ _ _ (by intro e; injection e with e _; omega)]; exact h.hb i hi, h.hB.setCell (by have := h.o1; have := h.o2; have := h.o3; simp; omega) _, h.o1, h.o2, h.o3⟩
theorem R3.seth {b : List UInt8} {g g7 g11 : Nat} {hs ws : List W32} {w W : World} (h : R3 b g g7 g11 hs ws w W) (j : Nat) (v : W32) : R3 b g g7 g11 (hs.set j v) ws w (W.setCell ⟨g7, j, none⟩ (.int .u32 (V v))) :=
  ⟨by simp [h.l7], h.l11, by rw [← us_set]; exact h.h7.set j _, h.h11.set_other (by have := h.o2; have := h.o3; simp; omega) _, fun i hi => by
    have := h.o2
    rw [World.cell?_setCell_other _ _ _ _ (by intro e; injection e with e _; omega)]; exact h.hb i hi, h.hB.setCell (by have := h.o1; simp; omega) _, h.o1, h.o2, h.o3⟩
theorem R3.w_at {b : List UInt8} {g g7 g11 : Nat} {hs ws : List W32} {w W : World} (h : R3 b g g7 g11 hs ws w W) (j : Nat) (hj : j < 64) : W.cell? ⟨g11, j, none⟩ = some (.int .u32 (V (ws.getD j 0#32))) := h.h11.cell (us_at _ _ (by rw [h.l11]; exact hj))
theorem R3.h_at {b : List UInt8} {g g7 g11 : Nat} {hs ws : List W32} {w W : World} (h : R3 b g g7 g11 hs ws w W) (j : Nat) (hj : j < 8) : W.cell? ⟨g7, j, none⟩ = some (.int .u32 (V (hs.getD j 0#32))) := h.h7.cell (us_at _ _ (by rw [h.l7]; exact hj))
theorem getD_set32 (l : List W32) (i j : Nat) (v : W32) (h : i < l.length) : (l.set i v).getD j 0#32 = if j = i then v else l.getD j 0#32 := by
  rw [List.getD_eq_getElem?_getD, List.getD_eq_getElem?_getD]
  by_cases e : j = i
  · subst e; rw [if_pos rfl, List.getElem?_set_self h]; rfl
  · rw [if_neg e, List.getElem?_set_ne (Ne.symm e)]
theorem turn_at (x : W32) (n : Nat) (i : Int) (w : World) (hi : i = n) (h1 : 1 ≤ n) (h2 : n ≤ 31) :
    Calls Try.prog 67 #[.int .u32 (V x), .int .i64 i] w fun e w' => e = .returned (.int .u32 (V (rr x n))) ∧ ∃ k, w' = w.drewN k := by
  subst hi; exact turn_any x n w h1 h2
theorem quiet_more {P : Program} {f : FuncId} {args : Array Value} {w : World} {n a : Nat} {v : Value}
    (h : Calls P f args (w.drewN (n + a)) fun e w' => e = .returned v ∧ ∃ k, w' = (w.drewN (n + a)).drewN k) : Calls P f args (w.drewN (n + a)) fun e w'' => e = .returned v ∧ ∃ m, w'' = w.drewN (n + m) :=
  h.mono fun _ _ ⟨he, k, hm⟩ => ⟨he, a + k, by rw [hm, World.drewN_drewN, Nat.add_assoc]⟩
theorem stL_getD (s : St) (j : Nat) (h : j < 8) : (stL s).getD j 0#32 = nth s j := by
  rcases j with _ | _ | _ | _ | _ | _ | _ | _ | j
  all_goals first | (exfalso; omega) | rfl
theorem list8 (l : List W32) (s : St) (hl : l.length = 8) (h : ∀ i, i < 8 → l.getD i 0#32 = nth s i) : l = stL s := by
  apply List.ext_getElem?
  intro i
  by_cases hi : i < 8
  · have h1 := h i hi
    have h2 := stL_getD s i hi
    rw [← h2, List.getD_eq_getElem?_getD, List.getD_eq_getElem?_getD, List.getElem?_eq_getElem (by omega), List.getElem?_eq_getElem (show i < (stL s).length from hi)] at h1
    rw [List.getElem?_eq_getElem (by omega), List.getElem?_eq_getElem (show i < (stL s).length from hi)]
    exact congrArg some h1
  · rw [List.getElem?_eq_none (by omega), List.getElem?_eq_none (show (stL s).length ≤ i from Nat.le_of_not_lt hi)]
theorem sha_all (s : List UInt8) : stBytes (shaFold st0 (padAll s)) = sha s := by
  have e : padAll s = s.take (s.length / 64 * 64) ++ padTail (shaRest s) s.length := by
    have h : (shaRest s).length = s.length % 64 := by unfold shaRest; simp; omega
    unfold padAll padTail pad0
    rw [h]
    obtain ⟨R, hR⟩ : ∃ R, R = List.replicate ((119 - s.length % 64) % 64) (0 : UInt8) := ⟨_, rfl⟩
    obtain ⟨B, hB⟩ : ∃ B, B = be (8 * s.length) 8 := ⟨_, rfl⟩
    rw [← hR, ← hB, shaRest, show s.take (s.length / 64 * 64) ++ (s.drop (s.length / 64 * 64) ++ ([128] ++ R) ++ B) = (s.take (s.length / 64 * 64) ++ s.drop (s.length / 64 * 64)) ++ [128] ++ R ++ B by simp only [List.append_assoc], List.take_append_drop]
  have e2 : shaFold st0 s = shaFold st0 (s.take (s.length / 64 * 64)) := by
    conv => lhs; rw [← List.take_append_drop (s.length / 64 * 64) s]
    rw [shaFold_app _ _ _ (by simp; omega), shaFold_short _ (s.drop _) (by simp; omega)]
  rw [e, shaFold_app _ _ _ (by simp; omega), sha, e2]
theorem us_one (l : List W32) : ∀ u ∈ us l, u.oneCell' = true := by
  intro u hu
  simp only [us, List.mem_map] at hu
  obtain ⟨x, _, rfl⟩ := hu
  rfl
set_option maxHeartbeats 40000000 in
set_option maxRecDepth 100000 in
theorem by_any (s : List UInt8) (A1 A2 : Option Addr) (c1 c2 : Nat) (w : World) (hs : s.length ≤ 140737488351232) (h1 : Rd w A1 (us (stL st0))) (h2 : Rd w A2 (us kList)) :
    Calls Try.prog 49 #[.string (Str s), .slice A1 8 c1, .slice A2 64 c2] w fun e w' => e = .returned (.string (Str (sha s))) ∧ Below w.heap.size w w' := by
  rcases h1 with h | ⟨b1, o1, rfl, h1⟩
  · cases h
  rcases h2 with h | ⟨b2, o2, rfl, h2⟩
  · cases h
  have hr1 : Rd w (some ⟨b1, o1, none⟩) (us (stL st0)) := .inr ⟨b1, o1, rfl, h1⟩
  have hk : ∀ j, j < 64 → w.cell? ⟨b2, o2 + j, none⟩ = some (.int .u32 (V (kAt j))) := fun j hj => h2 j _ (kL_at j hj)
  have HR1 := hid hr1
  have HK := hid hk
  have hb2 : b2 < w.heap.size := World.block_lt_of_cell? _ _ (hk 0 (by omega))
  clear h1 h2 hr1 hk
  go_enter Try.func49, Try.ntmps49
  go_wp2_with (first
    | (at_builtin; refine wpList_appS ti_u32 (.tmp 32) (.tmp 33) (by rfl) (by rfl) w.heap.size (some ⟨b1, o1, none⟩) 8 c1 (us (stL st0)) (by rfl) (by rfl) (own_empty w 101 1) (by rfl) (HR1.out.alloc _) (by simp) (by simp) (us_one _) (below_al (below_rf w) _) (by simp) (by decide) ?_; intro v7 w1 ho1 hg1 hv1 hB1 hb1; obtain ⟨g7, c7, rfl, hg7, hc7, hk7⟩ := own_Blk ho1 (by decide); have hgl := hk7.lt; have HK7 := hid hk7; clear ho1 hg1 hv1 hk7)
    | (refine wpList_toown 9 92 5 (.tmp 36) ?g1 ?g2 Try.underlying9 Try.underlying92 Try.underlying5 (s ++ [128]) ?g3 (by simp; omega) ?_; (case g1 => rfl); (case g2 => rfl); (case g3 => rfl); intro v8 w2 hB2 hown))
  have hp0 : pad0 s < 64 := Nat.mod_lt _ (by decide)
  have hp1 : (s.length + 1 + pad0 s) % 64 = 56 := by unfold pad0; omega
  go_loopw [8] (fun v W => ∃ k : Nat, k ≤ pad0 s ∧ OwnB W w1.heap.size 5 v (s ++ [128] ++ List.replicate k 0) ∧ Below w1.heap.size w1 W ∧ w1.heap.size ≤ W.heap.size) (fun v _ => s.length + 1 + pad0 s - slcLen v)
  case atStart => exact ⟨0, by omega, by simpa using hown, hB2, hB2.size⟩
  case round =>
    obtain ⟨k, hk, hown, hB, hsz⟩ := hrel
    obtain ⟨g8, c8, e8, _, _, _, _⟩ := hown.reads
    rw [e8] at hown ⊢
    clear e8
    by_cases hlt : k < pad0 s
    · have hne : (s.length + 1 + k) % 64 ≠ 56 := by omega
      go_wp2_with (at_builtin; go_loud (refine wpList_appB ti_u8 (.tmp 42) (.tmp 43) (by rfl) (by rfl) w1.heap.size [0] [.int .u8 0] 5 1 1 (by rfl) (by rfl) (by rfl) (by rfl) hown hB hsz (by simp; omega) ?_; intro v' w3 ho3 hB3 hs3))
      go_wp2
      go_roundw
      case rel => exact ⟨k + 1, by omega, by rw [List.replicate_succ', ← List.append_assoc]; exact ho3, hB3, hs3⟩
      case measure =>
        obtain ⟨g9, c9, e9, _, _, _, _⟩ := ho3.reads
        rw [e9]
        simp [slcLen]; omega
    · obtain rfl : k = pad0 s := by omega
      obtain ⟨P, hP⟩ : ∃ P, P = s ++ [128] ++ List.replicate (pad0 s) (0 : UInt8) := ⟨_, rfl⟩
      have hPl : P.length = s.length + 1 + pad0 s := by rw [hP]; simp; omega
      have hl1 : (s ++ [128] ++ List.replicate (pad0 s) (0 : UInt8)).length = P.length := by rw [hP]
      rw [← hP] at hown
      rw [hl1]
      have HP := hid hP
      have hPb : P.length ≤ 140737488351300 := by omega
      have hPm : ((P.length : Int) % 64 != 56) = false := by simp; omega
      have HPL := hid hPl
      clear hP hl1 hPl
      go_wp2
      go_loopw [8, 10] (fun v i W => ∃ m : Nat, m ≤ 8 ∧ i = .int .i64 ((m : Int) - 1) ∧ OwnB W w1.heap.size 5 v (P ++ (be (8 * s.length) 8).take (8 - m)) ∧ Below w1.heap.size w1 W ∧ w1.heap.size ≤ W.heap.size) (fun _ i _ => (intOf i + 1).toNat)
      case atStart => exact ⟨8, by omega, rfl, by simpa using hown, hB, hsz⟩
      case round =>
        clear hown hB hsz
        obtain ⟨m, hm, rfl, hown, hB, hsz⟩ := hrel
        rcases m with _ | j
        rotate_left
        · have e1 : ((j + 1 : Nat) : Int) - 1 = (j : Int) := by omega
          rw [e1]
          have e2 : min (8 * j) 64 = 8 * j := by omega
          have hbl : (List.take (8 - (j + 1)) (be (8 * s.length) 8)).length ≤ 8 := by simp; omega
          obtain ⟨x, hx⟩ : ∃ x, x = 8 * s.length / 2 ^ (8 * j) := ⟨_, rfl⟩
          have e3 : (s.length : Int) * 8 / 2 ^ (8 * j) = (x : Int) := by
            rw [hx, Int.natCast_ediv, Int.natCast_mul, Int.natCast_pow, Int.mul_comm]; rfl
          have HX := hid hx
          have hb9 : (P ++ List.take (8 - (j + 1)) (be (8 * s.length) 8)).length + [Go.Proofs.Ytoidbgedpakjmaa.Lib.u8 (x : Int)].length ≤ 140737488355328 := by rw [List.length_append]; simp only [List.length_cons, List.length_nil]; omega
          clear hx e1
          go_wp2_with (at_builtin; go_loud (refine wpList_appB ti_u8 (.tmp 53) (.tmp 59) (by rfl) (by rfl) w1.heap.size [Go.Proofs.Ytoidbgedpakjmaa.Lib.u8 (x : Int)] [.int .u8 ((x : Int) % 256)] 5 1 1 (byts_mod _ (Int.natCast_nonneg x)) (by rfl) (by rfl) (by rfl) hown hB hsz hb9 ?_; intro v' w3 ho3 hB3 hs3))
          go_wp2
          go_roundw
          case rel =>
            refine ⟨j, by omega, rfl, ?_, hB3, hs3⟩
            rw [be_succ (8 * s.length) j (by omega), ← HX.out, ← List.append_assoc, show 7 - j = 8 - (j + 1) by omega]
            exact ho3
          case measure => simp only [intOf]; omega
        · have hall : P ++ (be (8 * s.length) 8).take (8 - 0) = padAll s := by
            rw [HP.out, List.take_of_length_le (by rw [be_len]; omega)]; rfl
          rw [hall] at hown
          have hbl : (padAll s).length = P.length + 8 := by rw [← hall]; simp [be_len]
          have e0 : ((0 : Nat) : Int) - 1 = -1 := rfl
          rw [e0]
          obtain ⟨b, hb⟩ : ∃ b, b = padAll s := ⟨_, rfl⟩
          rw [← hb] at hown hbl
          have HBB := hid hb
          obtain ⟨g, c, rfl, hg, hgl2, hc, hrd⟩ := hown.reads
          have HRD := hid hrd
          clear hall hb e0 hown hrd
          have hmk := make64
          have hb64 : b.length % 64 = 0 := by have := HPL.out; omega
          have hbb : b.length ≤ 140737488351308 := by omega
          have HBB2 := hid hbb
          have HBL9 := hid hbl
          clear hbl
          obtain ⟨g11, hg11⟩ : ∃ g11, g11 = wr.heap.size := ⟨_, rfl⟩
          go_wp2_with fail
          rw [← hg11]
          have HG11 := hid hg11
          clear hg11
          go_loopw [12] (fun i W => ∃ (m : Nat) (q : St) (ws : List W32), i = .int .i64 (m : Int) ∧ m % 64 = 0 ∧ m ≤ b.length ∧ Hid (q = shaFold st0 (b.take m)) ∧ R3 b g g7 g11 (stL q) ws w W) (fun i _ => b.length - (intOf i).toNat)
          case atStart =>
            refine ⟨0, st0, List.replicate 64 0#32, rfl, rfl, by omega, rfl, ⟨rfl, by simp, ?_, by rw [HG11.out]; exact made64 wr, fun j hj => ?_, below_al ((below_tr hB1 hB)) _, hg7, by omega, by rw [HG11.out]; exact hgl2⟩⟩
            · exact (HK7.out.below hB hgl).alloc _
            · rw [← HRD.out j hj]; exact World.cell?_alloc_old wr _ _ (Nat.ne_of_lt hgl2)
          case round =>
            obtain ⟨m, q, ws, rfl, hm0, hmb, hq, hR⟩ := hrel
            clear hB hsz hB1 hb1 hB2
            by_cases hlt : m < b.length
            · --D<
              have hm64 : m + 64 ≤ b.length := by omega
              have hltb : decide ((m : Int) < (b.length : Int)) = true := decide_eq_true (by omega)
              obtain ⟨blk, hblk⟩ : ∃ blk, blk = (b.drop m).take 64 := ⟨_, rfl⟩
              have HBT : Hid (∀ j, j < 64 → bt b (m + j) = bt blk j) := fun j hj => by rw [hblk, blk_at b m j hj hm64]
              have HBK := hid hblk
              clear hblk
              go_wp2
              go_loopw [13] (fun i W => ∃ (t : Nat) (ws : List W32), t ≤ 64 ∧ i = .int .i64 (t : Int) ∧ R3 b g g7 g11 (stL q) ws w W ∧ Hid (∀ j, j < t → ws.getD j 0#32 = sch blk j)) (fun i _ => 64 - (intOf i).toNat)
              case atStart => exact ⟨0, ws, by omega, rfl, hR, fun j h => by omega⟩
              case round =>
                clear hR
                obtain ⟨t, ws, ht, rfl, hR, hS⟩ := hrel
                by_cases h64 : t < 64
                · have cw := hR.w_at t h64
                  have fw := hR.h11.frozen t
                  as_aux_lemma => --A<
                    by_cases h16 : t < 16
                    · have k0 : wr.cell? ⟨g, m + 4 * t, none⟩ = some (.int .u8 (bt blk (4 * t))) := by rw [hR.hb _ (by omega), HBT.out (4 * t) (by omega)]
                      have k1 : wr.cell? ⟨g, m + 4 * t + 1, none⟩ = some (.int .u8 (bt blk (4 * t + 1))) := by rw [hR.hb _ (by omega), Nat.add_assoc, HBT.out (4 * t + 1) (by omega)]
                      have k2 : wr.cell? ⟨g, m + 4 * t + 2, none⟩ = some (.int .u8 (bt blk (4 * t + 2))) := by rw [hR.hb _ (by omega), Nat.add_assoc, HBT.out (4 * t + 2) (by omega)]
                      have k3 : wr.cell? ⟨g, m + 4 * t + 3, none⟩ = some (.int .u8 (bt blk (4 * t + 3))) := by rw [hR.hb _ (by omega), Nat.add_assoc, HBT.out (4 * t + 3) (by omega)]
                      go_wp2
                      go_region
                      rw [word_walk blk (4 * t) (4 * t + 1) (4 * t + 2) (4 * t + 3) rfl rfl rfl]
                      go_wp2
                      go_roundw
                      case rel =>
                        refine ⟨t + 1, ws.set t (word blk (4 * t)), by omega, by go_num, (hR.setw t _).drew, fun j hj => ?_⟩
                        rw [getD_set32 _ _ _ _ (by rw [hR.l11]; omega)]
                        by_cases e : j = t
                        · rw [if_pos e, e, sch_lo _ _ h16]
                        · rw [if_neg e]; exact hS.out j (by omega)
                      case measure => simp [intOf]; omega
                    · have c16 := hR.w_at (t - 16) (by omega)
                      have c15 := hR.w_at (t - 15) (by omega)
                      have c7 := hR.w_at (t - 7) (by omega)
                      have c2 := hR.w_at (t - 2) (by omega)
                      rw [hS.out _ (by omega)] at c16 c15 c7 c2
                      have hv := sch_hi blk t (by omega)
                      obtain ⟨x16, hx16⟩ : ∃ x, x = sch blk (t - 16) := ⟨_, rfl⟩
                      obtain ⟨x15, hx15⟩ : ∃ x, x = sch blk (t - 15) := ⟨_, rfl⟩
                      obtain ⟨x7, hx7⟩ : ∃ x, x = sch blk (t - 7) := ⟨_, rfl⟩
                      obtain ⟨x2, hx2⟩ : ∃ x, x = sch blk (t - 2) := ⟨_, rfl⟩
                      rw [← hx16, ← hx15, ← hx7, ← hx2] at hv
                      rw [← hx16] at c16
                      rw [← hx15] at c15
                      rw [← hx7] at c7
                      rw [← hx2] at c2
                      have HV := hid hv
                      clear hv hx16 hx15 hx7 hx2
                      have s16 : IntKind.i64.wrap ((t : Int) - 16) = ((t - 16 : Nat) : Int) := by rw [IntKind.wrap_i64]; omega
                      have s7 : IntKind.i64.wrap ((t : Int) - 7) = ((t - 7 : Nat) : Int) := by rw [IntKind.wrap_i64]; omega
                      have u16 : ((t - 16 : Nat) : Int) < 64 := by omega
                      have u7 : ((t - 7 : Nat) : Int) < 64 := by omega
                      go_wp2
                      refine wp_region_qtail 32 (by kernel_rfl) (by kernel_rfl) ?_
                      simp only [List.take_succ_cons, List.take_zero, List.drop_succ_cons, List.drop_zero]
                      repeat (quiet_step (first | (go_at_call 67; with_reducible exact Calls.quiet_of (turn_at _ 7 _ _ (by decide) (by decide) (by decide))) | (go_at_call 67; with_reducible exact Calls.quiet_of (turn_at _ 18 _ _ (by decide) (by decide) (by decide))) | (go_at_call 67; with_reducible exact Calls.quiet_of (turn_at _ 17 _ _ (by decide) (by decide) (by decide))) | (go_at_call 67; with_reducible exact Calls.quiet_of (turn_at _ 19 _ _ (by decide) (by decide) (by decide)))))
                      refine wpQuiet_nil ?_
                      intro nq
                      go_wp2
                      go_roundw
                      case rel =>
                        refine ⟨t + 1, ws.set t (sch blk t), by omega, by go_num, ?_, fun j hj => ?_⟩
                        · rw [HV.out]; exact (hR.drewN nq).setw t _
                        · rw [getD_set32 _ _ _ _ (by rw [hR.l11]; omega)]
                          by_cases e : j = t
                          · rw [if_pos e, e]
                          · rw [if_neg e]; exact hS.out j (by omega)
                      case measure => simp [intOf]; omega
                  --A>
                · obtain rfl : t = 64 := by omega
                  rw [show ((64 : Nat) : Int) = 64 from rfl]
                  have e0 : wr.cell? ⟨g7, 0, none⟩ = some (.int .u32 (V q.a)) := hR.h_at 0 (by omega)
                  have e1 : wr.cell? ⟨g7, 1, none⟩ = some (.int .u32 (V q.b)) := hR.h_at 1 (by omega)
                  have e2 : wr.cell? ⟨g7, 2, none⟩ = some (.int .u32 (V q.c)) := hR.h_at 2 (by omega)
                  have e3 : wr.cell? ⟨g7, 3, none⟩ = some (.int .u32 (V q.d)) := hR.h_at 3 (by omega)
                  have e4 : wr.cell? ⟨g7, 4, none⟩ = some (.int .u32 (V q.e)) := hR.h_at 4 (by omega)
                  have e5 : wr.cell? ⟨g7, 5, none⟩ = some (.int .u32 (V q.f)) := hR.h_at 5 (by omega)
                  have e6 : wr.cell? ⟨g7, 6, none⟩ = some (.int .u32 (V q.g)) := hR.h_at 6 (by omega)
                  have e7 : wr.cell? ⟨g7, 7, none⟩ = some (.int .u32 (V q.h)) := hR.h_at 7 (by omega)
                  go_wp2
                  go_quiet (fail)
                  go_wp2
                  clear e0 e1 e2 e3 e4 e5 e6 e7
                  obtain ⟨w5, hw5⟩ : ∃ w5, w5 = wr.drewN nq := ⟨_, rfl⟩
                  have hR5 : R3 b g g7 g11 (stL q) ws w w5 := by rw [hw5]; exact hR.drewN nq
                  rw [← hw5]
                  have HW5 := hid hw5
                  clear hw5 hR
                  go_loopw [17, 18, 19, 20, 21, 22, 23, 24, 25] (fun za zb zc zd ze zf zg zh i W => ∃ (k : Nat) (v : St) (n : Nat), k ≤ 64 ∧ i = .int .i64 (k : Int) ∧ za = .int .u32 (V v.a) ∧ zb = .int .u32 (V v.b) ∧ zc = .int .u32 (V v.c) ∧ zd = .int .u32 (V v.d) ∧ ze = .int .u32 (V v.e) ∧ zf = .int .u32 (V v.f) ∧ zg = .int .u32 (V v.g) ∧ zh = .int .u32 (V v.h) ∧ Hid (v = rnd blk q k) ∧ W = w5.drewN n) (fun _ _ _ _ _ _ _ _ i _ => 64 - (intOf i).toNat)
                  case atStart => exact ⟨0, q, 0, by omega, rfl, rfl, rfl, rfl, rfl, rfl, rfl, rfl, rfl, rfl, rfl⟩
                  case round =>
                    obtain ⟨k, v, n, hk, rfl, rfl, rfl, rfl, rfl, rfl, rfl, rfl, rfl, hv, rfl⟩ := hrel
                    by_cases h64 : k < 64
                    · as_aux_lemma => --B<
                        have ck : w5.cell? ⟨b2, o2 + k, none⟩ = some (.int .u32 (V (kAt k))) := (hR5.hB.cell (p := ⟨b2, o2 + k, none⟩) hb2).trans (HK.out k h64)
                        have cw : w5.cell? ⟨g11, k, none⟩ = some (.int .u32 (V (sch blk k))) := by rw [hR5.w_at k h64, hS.out k h64]
                        have hsg : IntKind.u32.signed = false := rfl
                        go_wp2
                        go_quiet ((first | (go_at_call 67; with_reducible exact quiet_more (turn_at _ 6 _ _ (by decide) (by decide) (by decide))) | (go_at_call 67; with_reducible exact quiet_more (turn_at _ 11 _ _ (by decide) (by decide) (by decide))) | (go_at_call 67; with_reducible exact quiet_more (turn_at _ 25 _ _ (by decide) (by decide) (by decide)))))
                        go_wp2_with ((first | (go_at_call 67; with_reducible refine (turn_at _ 2 _ _ (by decide) (by decide) (by decide)).mono ?_; rintro e w6 ⟨rfl, n6, rfl⟩) | (go_at_call 67; with_reducible refine (turn_at _ 13 _ _ (by decide) (by decide) (by decide)).mono ?_; rintro e w7 ⟨rfl, n7, rfl⟩) | (go_at_call 67; with_reducible refine (turn_at _ 22 _ _ (by decide) (by decide) (by decide)).mono ?_; rintro e w8 ⟨rfl, n8, rfl⟩)))
                        go_roundw
                        case rel =>
                          refine ⟨k + 1, stStep v (kAt k) (sch blk k), _, by omega, by go_num, ?_, rfl, rfl, rfl, ?_, rfl, rfl, rfl, ?_, rfl⟩
                          · simp only [ch32, maj32]; first | rfl | (rw [vadd]; rfl)
                          · simp only [ch32, maj32]; first | rfl | (rw [vadd]; rfl)
                          · show _ = rnd blk q (k + 1)
                            rw [rnd, ← hv.out]
                        case measure => simp [intOf]; omega
                      --B>
                    · obtain rfl : k = 64 := by omega
                      have hR6 : R3 b g g7 g11 (stL q) ws w (w5.drewN n) := hR5.drewN n
                      obtain ⟨w6, hw6⟩ : ∃ w6, w6 = w5.drewN n := ⟨_, rfl⟩
                      rw [← hw6] at hR6 ⊢
                      clear hw6 hR5
                      obtain ⟨g28, hg28⟩ : ∃ g28, g28 = w6.heap.size := ⟨_, rfl⟩
                      have hgl11 : g11 < g28 := by rw [hg28]; exact hR6.h11.lt
                      have hR7 := hR6.alloc (.cells #[.int .u32 (V v.a), .int .u32 (V v.b), .int .u32 (V v.c), .int .u32 (V v.d), .int .u32 (V v.e), .int .u32 (V v.f), .int .u32 (V v.g), .int .u32 (V v.h)] 101)
                      have hv7 : Blk (w6.alloc (.cells #[.int .u32 (V v.a), .int .u32 (V v.b), .int .u32 (V v.c), .int .u32 (V v.d), .int .u32 (V v.e), .int .u32 (V v.f), .int .u32 (V v.g), .int .u32 (V v.h)] 101)) g28 (us (stL v)) 101 := by rw [hg28]; exact Blk.new w6 (us (stL v)) 101
                      have HV7 := hid hv7
                      have HG28 := hid hg28
                      clear hg28 hv7 hR6
                      go_wp2
                      rw [← HG28.out]
                      go_loopw [29] (fun i W => ∃ (j : Nat) (hs : List W32), j ≤ 8 ∧ i = .int .i64 (j : Int) ∧ R3 b g g7 g11 hs ws w W ∧ Blk W g28 (us (stL v)) 101 ∧ Hid (∀ i, i < 8 → hs.getD i 0#32 = if i < j then nth q i + nth v i else nth q i)) (fun i _ => 8 - (intOf i).toNat)
                      case atStart => exact ⟨0, stL q, by omega, rfl, hR7, HV7.out, fun i hi => by rw [if_neg (by omega)]; exact stL_getD q i hi⟩
                      case round =>
                        clear hR7
                        obtain ⟨j, hs, hj, rfl, hR, hV, hH⟩ := hrel
                        by_cases h8 : j < 8
                        · have c7 : wr.cell? ⟨g7, j, none⟩ = some (.int .u32 (V (nth q j))) := by
                            rw [hR.h_at j h8, hH.out j h8, if_neg (by omega)]
                          have c28 : wr.cell? ⟨g28, j, none⟩ = some (.int .u32 (V (nth v j))) := hV.cell (stL_at v j h8)
                          have f7 := hR.h7.frozen j
                          go_wp2
                          go_region
                          go_wp2
                          go_roundw
                          case rel =>
                            refine ⟨j + 1, hs.set j (nth q j + nth v j), by omega, by go_num, (hR.seth j _).drew, (hV.set_other (by have := hR.o2; have := hR.o3; simp; omega) _).drew, fun i hi => ?_⟩
                            rw [getD_set32 _ _ _ _ (by rw [hR.l7]; omega)]
                            by_cases e : i = j
                            · rw [if_pos e, if_pos (by omega), e]
                            · rw [if_neg e, hH.out i hi]
                              by_cases e2 : i < j
                              · rw [if_pos e2, if_pos (by omega)]
                              · rw [if_neg e2, if_neg (by omega)]
                          case measure => simp [intOf]; omega
                        · obtain rfl : j = 8 := by omega
                          have hhs : hs = stL (shaBlock q blk) := by
                            apply list8 hs _ hR.l7
                            intro i hi
                            rw [hH.out i hi, if_pos hi, hv.out, nth_add]; rfl
                          rw [hhs] at hR
                          have hsb : b.take (m + 64) = b.take m ++ blk := by
                            rw [HBK.out, List.take_add]
                          have hbl2 : blk.length = 64 := by rw [HBK.out]; simp; omega
                          have HSB := hid hsb
                          have HBL := hid hbl2
                          clear hhs hsb hbl2
                          go_wp2
                          go_roundw
                          case rel =>
                            refine ⟨m + 64, shaBlock q blk, ws, by go_num, by omega, by omega, ?_, hR⟩
                            show _ = _
                            rw [HSB.out, shaFold_snoc _ _ _ (by simp; omega) HBL.out, ← hq.out]
                          case measure => simp [intOf]; omega
              --D>
            · have hqq : q = shaFold st0 b := by rw [hq.out, List.take_of_length_le (by omega)]
              have hsha : sha s = stBytes q := by rw [hqq, HBB.out]; exact (sha_all s).symm
              have HSHA := hid hsha
              clear hq hqq hsha
              obtain ⟨w9, hw9⟩ : ∃ w9, w9 = wr := ⟨_, rfl⟩
              rw [← hw9] at hR ⊢
              clear hw9
              have hltb : decide ((m : Int) < (b.length : Int)) = false := decide_eq_false (by omega)
              go_wp2
              go_loopw [30, 31] (fun v i W => ∃ k : Nat, k ≤ 8 ∧ i = .int .i64 (k : Int) ∧ W.ownsRow w9.heap.size 5 1 v (4 * k) (byts ((stBytes q).take (4 * k))) ∧ Below w9.heap.size w9 W ∧ w9.heap.size ≤ W.heap.size) (fun _ i _ => 8 - (intOf i).toNat)
              case atStart => exact ⟨0, by omega, rfl, own_nil _ _ _ _, below_rf w9, Nat.le_refl _⟩
              case round =>
                obtain ⟨k, hk8, rfl, hown, hB4, hsz⟩ := hrel
                by_cases hlt : k < 8
                · have hat : wr.cell? ⟨g7, k, none⟩ = some (.int .u32 (V (nth q k))) := by
                    rw [hB4.cell (p := ⟨g7, k, none⟩) hR.h7.lt]
                    exact hR.h7.cell (stL_at q k hlt)
                  obtain ⟨x, hx⟩ : ∃ x, x = nth q k := ⟨_, rfl⟩
                  rw [← hx] at hat
                  have HX := hid hx
                  clear hx
                  go_wp2
                  refine wp_region_mqtail 24 (v := u30) (by decide) (by kernel_rfl) (by kernel_rfl) (by kernel_rfl) (by kernel_rfl) (fun _ _ _ h => h) (Or.inl ⟨by rfl, ?gm⟩) ?_
                  case gm => intro w; go_simp
                  simp only [List.take_succ_cons, List.take_zero, List.drop_succ_cons, List.drop_zero, List.drop_one, List.tail_cons]
                  repeat (quiet_step (fail))
                  refine wpQuiet_nil ?_
                  intro nq
                  have hown' : (wr.drewN nq).ownsRow w9.heap.size 5 1 u30 (4 * k) (byts ((stBytes q).take (4 * k))) := hown
                  have hB4' : Below w9.heap.size w9 (wr.drewN nq) := below_drewN hB4 nq
                  go_wp2_with (at_builtin; go_loud (refine wpList_appN ti_u8 (.tmp 270) (.tmp 294) (by rfl) (by rfl) w9.heap.size [.int .u8 (V x / 16777216 % 256), .int .u8 (V x / 65536 % 256), .int .u8 (V x / 256 % 256), .int .u8 (V x % 256)] 5 4 4 (by rfl) (by rfl) hown' (by rfl) (by simp [Value.oneCell']) hB4' hsz (by omega) ?_; intro A' c' w5 ho5 hg5 hB5 hsz5))
                  go_wp2
                  go_roundw
                  case rel =>
                    refine ⟨k + 1, by omega, by go_num, ?_, hB5, hsz5⟩
                    rw [st_take q k hlt, ← HX.out, ← byts_app, byts_w32]
                    exact ho5
                  case measure => simp [intOf]; omega
                · obtain rfl : k = 8 := by omega
                  obtain ⟨A, c, rfl, hc, hrd, hA1, hA2⟩ := Rd.own' hown
                  rcases hrd with h0 | ⟨b, o, rfl, hcl⟩
                  · exact absurd (congrArg List.length h0) (by simp [byts, stBytes, w32b])
                  have hcl2 : ∀ j, j < (stBytes q).length → wr.cell? ⟨b, o + j, none⟩ = some (.int .u8 (bt (stBytes q) j)) := fun j hj => hcl j _ (by
                    rw [show (stBytes q).take (4 * 8) = stBytes q from rfl]
                    simp [byts, bt, List.getElem?_eq_getElem hj, List.getD_eq_getElem?_getD])
                  clear hcl
                  go_wp2_with ((refine wpList_tostr 92 9 5 (.tmp 296) ?g1 ?g2 Try.underlying92 Try.underlying9 Try.underlying5 (stBytes q) b o c ?g3 hcl2 ?_; (case g1 => rfl); (case g2 => rfl); (case g3 => rfl)))
                  go_wp2
                  go_ret
                  refine ⟨?_, hR.hB.trans (hB4.mono hR.hB.size)⟩
                  rw [HSHA.out]
                  rfl
end Go.Proofs.Ytoidbgedpakjmaa.W01
namespace Go.Proofs.Ytoidbgedpakjmaa.W01
open Go.RowKit Go.Proofs.Ytoidbgedpakjmaa.Lib Go.Proofs.Ytoidbgedpakjmaa.Sha
theorem print_ref_any (s : List UInt8) (w : World) (hs : s.length ≤ 140737488351232) :
    Calls Try.prog 30 #[.string (Str s)] w fun e w' => e = .returned (.string (Str (sha s))) ∧ Below w.heap.size w w' := by
  go_enter Try.func30, Try.ntmps30
  go_wp2_with fail
  refine (H_any _).mono ?_; rintro e w1 ⟨A1, rfl, hb1, hr1⟩
  go_wp2_with fail
  refine (K_any _).mono ?_; rintro e w2 ⟨A2, rfl, hb2, hr2⟩
  go_wp2_with fail
  refine (by_any s A1 A2 8 64 _ hs (hr1.below hb2) hr2).mono ?_; rintro e w3 ⟨rfl, hb3⟩
  go_wp2
  go_ret
  exact ⟨rfl, below_tr (below_tr hb1 hb2) hb3⟩
end Go.Proofs.Ytoidbgedpakjmaa.W01
