/- The walks of layer 1: turns, the rounds' numbers. The walks of layer 1: the rounds' numbers. The walks of layer 1: a block of 64 bytes. -/
import Derived.Test.YtoidbgedpakjmaaProg
import Derived.Test.YtoidbgedpakjmaaSha
import Derived.Outline
import Derived.StillTailTactics
set_option linter.unusedVariables false
set_option linter.unusedSimpArgs false
namespace Go.Proofs.Ytoidbgedpakjmaa.W01
open Go.RowKit Go.Proofs.Ytoidbgedpakjmaa.Lib Go.Proofs.Ytoidbgedpakjmaa.Sha
theorem badd (a b : W32) : (V a + V b) % 4294967296 = V (a + b) := by
  simp only [V_def]; rw [BitVec.toNat_add]; omega
theorem bshrN (a : W32) (n : Nat) : V a / 2 ^ n = V (a >>> n) := by
  simp only [V_def]; rw [BitVec.toNat_ushiftRight, Nat.shiftRight_eq_div_pow]; simp
theorem bshlN (a : W32) (n : Nat) : V a * 2 ^ n % 4294967296 = V (a <<< n) := by
  simp only [V_def]; rw [BitVec.toNat_shiftLeft, Nat.shiftLeft_eq]; simp
attribute [local go_sem] Str_mk Str_size Str_toList Str_extract Str_append Str_get bt_nn bt_lt V_nn V_lt bx ba bo badd
theorem rr_walk (x : W32) (n : Nat) (h1 : 1 ≤ n) (h2 : n ≤ 31) : bits .or .u32 (V x * 2 ^ (32 - n) % 4294967296) (V x / 2 ^ n) = V (rr x n) := by
  rw [bshlN, bshrN, bo, BitVec.or_comm]; rfl
theorem or_comm32 (a b : Int) : bits .or .u32 a b = bits .or .u32 b a := by unfold bits; simp only [BitVec.or_comm]
theorem and31 (n : Nat) (h1 : 1 ≤ n) (h2 : n ≤ 31) : bits .and .u64 (IntKind.u64.wrap (-(n : Int))) 31 = ((32 - n : Nat) : Int) := by
  have e : IntKind.u64.wrap (-(n : Int)) = ((18446744073709551616 - n : Nat) : Int) := by rw [IntKind.wrap_u64]; omega
  rw [e, show (31 : Int) = ((31 : Nat) : Int) from rfl, bits_and_u64_nat _ _ (by omega) (by omega)]
  have : (18446744073709551616 - n) &&& 31 = (18446744073709551616 - n) % 32 := Nat.and_two_pow_sub_one_eq_mod _ 5
  rw [this]; omega
set_option maxHeartbeats 800000 in
theorem rot_any (x : W32) (n : Nat) (w : World) (h1 : 1 ≤ n) (h2 : n ≤ 31) :
    Calls Try.prog 69 #[.int .u32 (V x), .int .i64 (-(n : Int))] w fun e w' => e = .returned (.int .u32 (V (rr x n))) ∧ w = w' := by
  have ha := and31 n h1 h2
  obtain ⟨m, hm⟩ : ∃ m, m = 32 - n := ⟨_, rfl⟩
  rw [← hm] at ha
  have hs : IntKind.u64.wrap (32 - (m : Int)) = (n : Int) := by rw [IntKind.wrap_u64]; omega
  have hmin : min m 32 = m := by omega
  have hmin2 : min n 32 = n := by omega
  have HR := hid (rr_walk x n h1 h2)
  rw [← hm] at HR
  clear hm
  go_enter Try.func69, Try.ntmps69
  go_wp2
  go_ret
  exact ⟨congrArg (fun x => Ending.returned (.int .u32 x)) (by first | exact HR.out | (simpa using HR.out)), rfl⟩
set_option maxHeartbeats 800000 in
theorem right_any (x : W32) (n : Nat) (w : World) (h1 : 1 ≤ n) (h2 : n ≤ 31) :
    Calls Try.prog 56 #[.int .u32 (V x), .int .i64 (n : Int)] w fun e w' => e = .returned (.int .u32 (V (rr x n))) ∧ w = w' := by
  go_enter Try.func56, Try.ntmps56
  go_wp2_with fail
  with_reducible refine (rot_any x n _ h1 h2).mono ?_
  rintro e w1 ⟨rfl, rfl⟩
  go_wp2_with fail
  go_ret
  exact ⟨rfl, rfl⟩
set_option maxHeartbeats 800000 in
theorem turn_any (x : W32) (n : Nat) (w : World) (h1 : 1 ≤ n) (h2 : n ≤ 31) :
    Calls Try.prog 67 #[.int .u32 (V x), .int .i64 (n : Int)] w fun e w' => e = .returned (.int .u32 (V (rr x n))) ∧ ∃ k, w' = w.drewN k := by
  have HR := hid (rr_walk x n h1 h2)
  have hmin : min (32 - n) 32 = 32 - n := by omega
  have hmin2 : min n 32 = n := by omega
  have hs : (32 - (n : Int)).toNat = 32 - n := by omega
  go_enter Try.func67, Try.ntmps67
  go_wp2
  go_quiet (fail)
  go_wp2
  go_ret
  exact ⟨congrArg (fun x => Ending.returned (.int .u32 x)) (by rw [← HR.out]; exact or_comm32 _ _), _, rfl⟩
end Go.Proofs.Ytoidbgedpakjmaa.W01
namespace Go.Proofs.Ytoidbgedpakjmaa.W01
open Go.RowKit Go.Proofs.Ytoidbgedpakjmaa.Lib Go.Proofs.Ytoidbgedpakjmaa.Sha
theorem run_index_arr {P : Program} (w : World) (t e n : Nat) (cs : Array Value) (k : IntKind) (i : Nat) (ht : P.underlying t = some (.array n e)) (hi : i < n) (v : Value) (hp : ∀ w, (part e cs i).run P w = .ok v w) (hs : ∀ w, (sizeOf e).run P w = .ok 1 w) :
    (Instr.index t (.agg cs) (.int k i)).run P w = .ok v w := by
  unfold Instr.index
  simp [asIntOf, run_underlying ht, hi, hs, hp]
theorem part_round (t : Nat) (h1 : t < 64) (w : World) : (part 101 #[.int .u32 1116352408, .int .u32 1899447441, .int .u32 3049323471, .int .u32 3921009573, .int .u32 961987163, .int .u32 1508970993, .int .u32 2453635748, .int .u32 2870763221, .int .u32 3624381080, .int .u32 310598401, .int .u32 607225278, .int .u32 1426881987, .int .u32 1925078388, .int .u32 2162078206, .int .u32 2614888103, .int .u32 3248222580, .int .u32 3835390401, .int .u32 4022224774, .int .u32 264347078, .int .u32 604807628, .int .u32 770255983, .int .u32 1249150122, .int .u32 1555081692, .int .u32 1996064986, .int .u32 2554220882, .int .u32 2821834349, .int .u32 2952996808, .int .u32 3210313671, .int .u32 3336571891, .int .u32 3584528711, .int .u32 113926993, .int .u32 338241895, .int .u32 666307205, .int .u32 773529912, .int .u32 1294757372, .int .u32 1396182291, .int .u32 1695183700, .int .u32 1986661051, .int .u32 2177026350, .int .u32 2456956037, .int .u32 2730485921, .int .u32 2820302411, .int .u32 3259730800, .int .u32 3345764771, .int .u32 3516065817, .int .u32 3600352804, .int .u32 4094571909, .int .u32 275423344, .int .u32 430227734, .int .u32 506948616, .int .u32 659060556, .int .u32 883997877, .int .u32 958139571, .int .u32 1322822218, .int .u32 1537002063, .int .u32 1747873779, .int .u32 1955562222, .int .u32 2024104815, .int .u32 2227730452, .int .u32 2361852424, .int .u32 2428436474, .int .u32 2756734187, .int .u32 3204031479, .int .u32 3329325298] t).run Try.prog w = .ok (.int .u32 (V (kAt t))) w := by
  rcases t with _ | _ | _ | _ | _ | _ | _ | _ | _ | _ | _ | _ | _ | _ | _ | _ | _ | _ | _ | _ | _ | _ | _ | _ | _ | _ | _ | _ | _ | _ | _ | _ | _ | _ | _ | _ | _ | _ | _ | _ | _ | _ | _ | _ | _ | _ | _ | _ | _ | _ | _ | _ | _ | _ | _ | _ | _ | _ | _ | _ | _ | _ | _ | _ | t
  all_goals first | (exfalso; omega) | kernel_rfl
set_option maxHeartbeats 800000 in
set_option maxRecDepth 100000 in
theorem round_any (t : Nat) (w : World) (h1 : t < 64) :
    Calls Try.prog 57 #[.int .i64 (t : Int)] w fun e w' => e = .returned (.int .u32 (V (kAt t))) ∧ w = w' := by
  go_enter Try.func57, Try.ntmps57
  go_wp2_with fail
  rw [run_index_arr (P := Try.prog) _ 129 101 64 _ .i64 t Try.underlying129 h1 (.int .u32 (V (kAt t))) ?hp ?hs]
  case hs => exact fun w => by kernel_rfl
  case hp => exact part_round t h1
  go_wp2
  go_ret
  exact ⟨rfl, rfl⟩
end Go.Proofs.Ytoidbgedpakjmaa.W01
namespace Go.Proofs.Ytoidbgedpakjmaa.W01
open Go.RowKit Go.Proofs.Ytoidbgedpakjmaa.Lib Go.Proofs.Ytoidbgedpakjmaa.Sha
attribute [local go_sem] Str_mk Str_size Str_toList Str_extract Str_append Str_get bt_nn bt_lt V_nn V_lt bx ba bo badd
/-- all blocks but one are as they were -/
structure Bbut (g : Nat) (w w' : World) : Prop where
  os : w'.os = w.os
  tape : w'.tape = w.tape
  output : w'.output = w.output
  size : w.heap.size ≤ w'.heap.size
  block : ∀ k, k < w.heap.size → k ≠ g → w'.heap[k]? = w.heap[k]?
def stCells (s : St) : Array Value := #[.int .u32 (V s.a), .int .u32 (V s.b), .int .u32 (V s.c), .int .u32 (V s.d), .int .u32 (V s.e), .int .u32 (V s.f), .int .u32 (V s.g), .int .u32 (V s.h)]
theorem j32 (i : Nat) (x y : Int) (hx0 : 0 ≤ x) (hx : x % 2 ^ i = 0) (hx1 : x < 2 ^ 32) (hy0 : 0 ≤ y) (hy : y < 2 ^ i) (hy1 : y < 2 ^ 32) : bits .or .u32 x y = x + y :=
  bits_join .u32 32 (by decide) (fun n h0 h1 => by rw [IntKind.wrap_u32]; omega) i x y hx0 hx hx1 hy0 hy hy1
theorem word_walk (l : List UInt8) (i j k m : Nat) (hj : j = i + 1) (hk : k = i + 2) (hm : m = i + 3) : bits .or .u32 (bits .or .u32 (bits .or .u32 (bt l i % 4294967296 * 16777216 % 4294967296) (bt l j % 4294967296 * 65536 % 4294967296)) (bt l k % 4294967296 * 256 % 4294967296)) (bt l m % 4294967296) = V (word l i) := by
  have a0 := bt_nn l i; have a1 := bt_nn l j; have a2 := bt_nn l k; have a3 := bt_nn l m
  have b0 := bt_lt l i; have b1 := bt_lt l j; have b2 := bt_lt l k; have b3 := bt_lt l m
  have w0 : bt l i % 4294967296 * 16777216 % 4294967296 = bt l i * 16777216 := by omega
  have w1 : bt l j % 4294967296 * 65536 % 4294967296 = bt l j * 65536 := by omega
  have w2 : bt l k % 4294967296 * 256 % 4294967296 = bt l k * 256 := by omega
  have w3 : bt l m % 4294967296 = bt l m := by omega
  rw [w0, w1, w2, w3, j32 24 (bt l i * 16777216) (bt l j * 65536) (by omega) (by omega) (by omega) (by omega) (by omega) (by omega), j32 16 (bt l i * 16777216 + bt l j * 65536) (bt l k * 256) (by omega) (by omega) (by omega) (by omega) (by omega) (by omega), j32 8 (bt l i * 16777216 + bt l j * 65536 + bt l k * 256) (bt l m) (by omega) (by omega) (by omega) (by omega) (by omega) (by omega)]
  subst hj; subst hk; subst hm
  unfold word
  rw [V_def, BitVec.toNat_ofNat]
  unfold bt at *
  unfold bat
  omega
theorem zeros64 (j : Nat) (hj : j < 64) : [Value.int .u32 0, Value.int .u32 0, Value.int .u32 0, Value.int .u32 0, Value.int .u32 0, Value.int .u32 0, Value.int .u32 0, Value.int .u32 0, Value.int .u32 0, Value.int .u32 0, Value.int .u32 0, Value.int .u32 0, Value.int .u32 0, Value.int .u32 0, Value.int .u32 0, Value.int .u32 0, Value.int .u32 0, Value.int .u32 0, Value.int .u32 0, Value.int .u32 0, Value.int .u32 0, Value.int .u32 0, Value.int .u32 0, Value.int .u32 0, Value.int .u32 0, Value.int .u32 0, Value.int .u32 0, Value.int .u32 0, Value.int .u32 0, Value.int .u32 0, Value.int .u32 0, Value.int .u32 0, Value.int .u32 0, Value.int .u32 0, Value.int .u32 0, Value.int .u32 0, Value.int .u32 0, Value.int .u32 0, Value.int .u32 0, Value.int .u32 0, Value.int .u32 0, Value.int .u32 0, Value.int .u32 0, Value.int .u32 0, Value.int .u32 0, Value.int .u32 0, Value.int .u32 0, Value.int .u32 0, Value.int .u32 0, Value.int .u32 0, Value.int .u32 0, Value.int .u32 0, Value.int .u32 0, Value.int .u32 0, Value.int .u32 0, Value.int .u32 0, Value.int .u32 0, Value.int .u32 0, Value.int .u32 0, Value.int .u32 0, Value.int .u32 0, Value.int .u32 0, Value.int .u32 0, Value.int .u32 0][j]? = some (Value.int .u32 (((0#32 : W32).toNat : Nat) : Int)) := by
  rcases j with _ | _ | _ | _ | _ | _ | _ | _ | _ | _ | _ | _ | _ | _ | _ | _ | _ | _ | _ | _ | _ | _ | _ | _ | _ | _ | _ | _ | _ | _ | _ | _ | _ | _ | _ | _ | _ | _ | _ | _ | _ | _ | _ | _ | _ | _ | _ | _ | _ | _ | _ | _ | _ | _ | _ | _ | _ | _ | _ | _ | _ | _ | _ | _ | j
  all_goals first | rfl | omega
theorem right_at (x : W32) (n : Nat) (i : Int) (w : World) (hi : i = n) (h1 : 1 ≤ n) (h2 : n ≤ 31) :
    Calls Try.prog 56 #[.int .u32 (V x), .int .i64 i] w fun e w' => e = .returned (.int .u32 (V (rr x n))) ∧ w' = w := by
  subst hi; exact (right_any x n w h1 h2).mono fun _ _ h => ⟨h.1, h.2.symm⟩
theorem round_same (t : Nat) (w : World) (h1 : t < 64) :
    Calls Try.prog 57 #[.int .i64 (t : Int)] w fun e w' => e = .returned (.int .u32 (V (kAt t))) ∧ w' = w := (round_any t w h1).mono fun _ _ h => ⟨h.1, h.2.symm⟩
theorem unot (v : W32) : bits .xor .u32 IntKind.u32.max (V v) = V (~~~ v) := by
  rw [show IntKind.u32.max = V (BitVec.allOnes 32) from by rw [V_def]; rfl, bx, BitVec.allOnes_xor]
theorem sum4 (a b c d : W32) : (V a + V b + V c + V d) % 4294967296 = V (a + b + c + d) := by
  simp only [V_def, BitVec.toNat_add]; omega
theorem sum5 (a b c d e : W32) : (V a + V b + V c + V d + V e) % 4294967296 = V (a + b + c + d + e) := by
  simp only [V_def, BitVec.toNat_add]; omega
theorem sh3 (x : W32) : V x / (8 : Int) = V (x >>> 3) := bshrN x 3
theorem sh10 (x : W32) : V x / (1024 : Int) = V (x >>> 10) := bshrN x 10
theorem st_cells {W : World} {g : Nat} {s : St} {t : TypeId} {fr : Nat × Nat} (h : W.heap[g]? = some (.cells (stCells s) t fr)) :
    W.cell? ⟨g, 0, none⟩ = some (.int .u32 (V s.a)) ∧ W.cell? ⟨g, 1, none⟩ = some (.int .u32 (V s.b)) ∧ W.cell? ⟨g, 2, none⟩ = some (.int .u32 (V s.c)) ∧ W.cell? ⟨g, 3, none⟩ = some (.int .u32 (V s.d)) ∧ W.cell? ⟨g, 4, none⟩ = some (.int .u32 (V s.e)) ∧ W.cell? ⟨g, 5, none⟩ = some (.int .u32 (V s.f)) ∧ W.cell? ⟨g, 6, none⟩ = some (.int .u32 (V s.g)) ∧ W.cell? ⟨g, 7, none⟩ = some (.int .u32 (V s.h)) := by
  refine ⟨?_, ?_, ?_, ?_, ?_, ?_, ?_, ?_⟩ <;> (unfold World.cell?; simp only [h]; rfl)
/-- eight stores, one behind the other -/
def set8 (W : World) (g : Nat) (s : St) : World := (((((((W.setCell ⟨g, 0, none⟩ (.int .u32 (V s.a))).setCell ⟨g, 1, none⟩ (.int .u32 (V s.b))).setCell ⟨g, 2, none⟩ (.int .u32 (V s.c))).setCell ⟨g, 3, none⟩ (.int .u32 (V s.d))).setCell ⟨g, 4, none⟩ (.int .u32 (V s.e))).setCell ⟨g, 5, none⟩ (.int .u32 (V s.f))).setCell ⟨g, 6, none⟩ (.int .u32 (V s.g))).setCell ⟨g, 7, none⟩ (.int .u32 (V s.h))
theorem set8_heap {W : World} {g : Nat} {s s' : St} {t : TypeId} (h : W.heap[g]? = some (.cells (stCells s) t (0, 0))) : (set8 W g s').heap[g]? = some (.cells (stCells s') t (0, 0)) := by
  have h0 := heap_setCell_same W g 0 _ t (.int .u32 (V s'.a)) h
  have h1 := heap_setCell_same _ g 1 _ t (.int .u32 (V s'.b)) h0
  have h2 := heap_setCell_same _ g 2 _ t (.int .u32 (V s'.c)) h1
  have h3 := heap_setCell_same _ g 3 _ t (.int .u32 (V s'.d)) h2
  have h4 := heap_setCell_same _ g 4 _ t (.int .u32 (V s'.e)) h3
  have h5 := heap_setCell_same _ g 5 _ t (.int .u32 (V s'.f)) h4
  have h6 := heap_setCell_same _ g 6 _ t (.int .u32 (V s'.g)) h5
  have h7 := heap_setCell_same _ g 7 _ t (.int .u32 (V s'.h)) h6
  unfold set8
  rw [h7]
  simp [stCells]
theorem set8_below {B : Nat} {w W : World} {g : Nat} (h : Below B w W) (hg : B ≤ g) (s : St) : Below B w (set8 W g s) :=
  (((((((h.setCell (p := ⟨g, 0, none⟩) hg _).setCell (p := ⟨g, 1, none⟩) hg _).setCell (p := ⟨g, 2, none⟩) hg _).setCell (p := ⟨g, 3, none⟩) hg _).setCell (p := ⟨g, 4, none⟩) hg _).setCell (p := ⟨g, 5, none⟩) hg _).setCell (p := ⟨g, 6, none⟩) hg _).setCell (p := ⟨g, 7, none⟩) hg _
attribute [local go_sem] unot sh3 sh10
def nth (s : St) : Nat → W32
  | 0 => s.a | 1 => s.b | 2 => s.c | 3 => s.d | 4 => s.e | 5 => s.f | 6 => s.g | _ => s.h
theorem nth_add (s v : St) (j : Nat) : nth s j + nth v j = nth (stAdd s v) j := by
  rcases j with _ | _ | _ | _ | _ | _ | _ | j <;> rfl
theorem nth_cells {W : World} {g : Nat} {s : St} {t : TypeId} {fr : Nat × Nat} (h : W.heap[g]? = some (.cells (stCells s) t fr)) (j : Nat) (hj : j < 8) : W.cell? ⟨g, j, none⟩ = some (.int .u32 (V (nth s j))) := by
  obtain ⟨q0, q1, q2, q3, q4, q5, q6, q7⟩ := st_cells h
  rcases j with _ | _ | _ | _ | _ | _ | _ | _ | j
  all_goals first | (exfalso; omega) | assumption
theorem cells_of_nth {W : World} {g : Nat} {s : St} {t : TypeId} {cs : Array Value} (h : W.heap[g]? = some (.cells cs t (0, 0))) (hs : cs.size = 8) (hc : ∀ j, j < 8 → W.cell? ⟨g, j, none⟩ = some (.int .u32 (V (nth s j)))) : W.heap[g]? = some (.cells (stCells s) t (0, 0)) := by
  rw [h]
  have e : cs = stCells s := by
    apply Array.ext_getElem?
    intro j
    by_cases hj : j < 8
    · have h1 := hc j hj
      have h2 : W.cell? ⟨g, j, none⟩ = cs[j]? := by unfold World.cell?; simp only [h]; rfl
      rw [← h2, h1]
      rcases j with _ | _ | _ | _ | _ | _ | _ | _ | j
      all_goals first | rfl | (exfalso; omega)
    · rw [Array.getElem?_eq_none (by omega), Array.getElem?_eq_none (by simp [stCells]; omega)]
  rw [e]
theorem Bbut.of_below {g : Nat} {w W : World} (h : Below w.heap.size w W) : Bbut g w W := ⟨h.os, h.tape, h.output, h.size, fun k hk _ => h.block k hk⟩
theorem Bbut.set {g : Nat} {w W : World} (h : Bbut g w W) (j : Nat) (v : Value) : Bbut g w (W.setCell ⟨g, j, none⟩ v) :=
  ⟨h.os, h.tape, h.output, by simp; exact h.size, fun k hk hne => (Below.heap_setCell W ⟨g, j, none⟩ v k hne).trans (h.block k hk hne)⟩
theorem Bbut.drew {g : Nat} {w W : World} (h : Bbut g w W) : Bbut g w W.drew := ⟨h.os, h.tape, h.output, h.size, h.block⟩
set_option maxHeartbeats 3200000 in
set_option maxRecDepth 100000 in
theorem block_any (g : Nat) (s : St) (b : List UInt8) (w : World) (hb : b.length = 64) (hg : w.heap[g]? = some (.cells (stCells s) 103 (0, 0))) :
    Calls Try.prog 40 #[.pointer (some ⟨g, 0, none⟩), .string (Str b)] w fun e w' => e = .returned (.tuple #[]) ∧ w'.heap[g]? = some (.cells (stCells (shaBlock s b)) 103 (0, 0)) ∧ Bbut g w w' := by
  have HG := hid hg
  clear hg
  go_enter Try.func40, Try.ntmps40
  go_wp2
  go_loopw [16] (fun i wr => ∃ k : Nat, k ≤ 16 ∧ i = .int .i64 k ∧ (∀ j, j < 64 → ∃ x : W32, wr.cell? ⟨w.heap.size, j, none⟩ = some (.int .u32 (V x)) ∧ (j < k → x = sch b j)) ∧ (∀ j, wr.frozen? ⟨w.heap.size, j, none⟩ = false) ∧ Below w.heap.size w wr) (fun i _ => 16 - (intOf i).toNat)
  case atStart =>
    refine ⟨0, by omega, rfl, fun j hj => ⟨0#32, ?_, fun h => by omega⟩, fun j => World.frozen?_alloc_at _ _ _ _ rfl, (Below.refl _ _).alloc (Nat.le_refl _) _⟩
    rw [World.cell?_alloc_at _ _ _ _ rfl]
    simp only [List.getElem?_toArray]
    rw [V_def]
    exact zeros64 j hj
  case round =>
    obtain ⟨k, hk, rfl, hf, hfr, hB⟩ := hrel
    by_cases hlt : k < 16
    · --A<
      obtain ⟨x, hx, _⟩ := hf k (by omega)
      have hfk := hfr k
      have HF := hid hf
      clear hf
      go_wp2
      go_region
      rw [word_walk b (4 * k) (4 * k + 1) (4 * k + 2) (4 * k + 3) rfl rfl rfl]
      go_wp2
      go_roundw
      case rel =>
        refine ⟨k + 1, by omega, by go_num, fun j hj => ?_, fun j => by simp [hfr], (hB.setCell (by simp) _).drew⟩
        rw [World.cell?_drew]
        by_cases e : j = k
        · subst e
          exact ⟨_, World.cell?_setCell_same _ _ _ hx, fun _ => (sch_lo b j hlt).symm⟩
        · obtain ⟨y, hy, hy2⟩ := HF.out j hj
          exact ⟨y, by rw [World.cell?_setCell_other _ _ _ _ (by intro h; injection h with _ h; omega), hy], fun h => hy2 (by omega)⟩
      case measure => simp [intOf]; omega
      --A>
    · go_wp2
      go_loopw [6] (fun i wr => ∃ k : Nat, 16 ≤ k ∧ k ≤ 64 ∧ i = .int .i64 k ∧ (∀ j, j < 64 → ∃ x : W32, wr.cell? ⟨w.heap.size, j, none⟩ = some (.int .u32 (V x)) ∧ (j < k → x = sch b j)) ∧ (∀ j, wr.frozen? ⟨w.heap.size, j, none⟩ = false) ∧ Below w.heap.size w wr) (fun i _ => 64 - (intOf i).toNat)
      case atStart => exact ⟨16, by omega, by omega, rfl, fun j hj => by obtain ⟨y, hy, hy2⟩ := hf j hj; exact ⟨y, hy, fun h => hy2 (by omega)⟩, hfr, hB⟩
      case round =>
        clear hf hfr hB
        obtain ⟨k, hk16, hk, rfl, hf, hfr, hB⟩ := hrel
        by_cases hlt : k < 64
        · --A<
          obtain ⟨x, hx, _⟩ := hf k (by omega)
          obtain ⟨x16, h16, e16⟩ := hf (k - 16) (by omega)
          obtain ⟨x15, h15, e15⟩ := hf (k - 15) (by omega)
          obtain ⟨x7, h7, e7⟩ := hf (k - 7) (by omega)
          obtain ⟨x2, h2, e2⟩ := hf (k - 2) (by omega)
          have hfk := hfr k
          have HF := hid hf
          clear hf
          go_wp2
          go_quiet (fail)
          go_wp2
          have s16 : IntKind.i64.wrap ((k : Int) - 16) = ((k - 16 : Nat) : Int) := by rw [IntKind.wrap_i64]; omega
          have s7 : IntKind.i64.wrap ((k : Int) - 7) = ((k - 7 : Nat) : Int) := by rw [IntKind.wrap_i64]; omega
          have u16 : ((k - 16 : Nat) : Int) < 64 := by omega
          have u7 : ((k - 7 : Nat) : Int) < 64 := by omega
          obtain ⟨W5, hW5⟩ : ∃ W5, W5 = (wr.drewN nq).drew := ⟨_, rfl⟩
          have c16 : W5.cell? ⟨w.heap.size, k - 16, none⟩ = some (.int .u32 (V x16)) := by rw [hW5]; exact h16
          have c7 : W5.cell? ⟨w.heap.size, k - 7, none⟩ = some (.int .u32 (V x7)) := by rw [hW5]; exact h7
          refine wp_region_still_tail 29 (by kernel_rfl) (by kernel_rfl) ?_
          simp only [List.take_succ_cons, List.take_zero, List.drop_succ_cons, List.drop_zero]
          change wpStill _ _ (wr.drewN nq).drew (fun a' => wpList _ _ _ _ a' (wr.drewN nq).drew) _ _
          rw [← hW5]
          have HW5 := hid hW5
          clear hW5
          repeat (first | still_step | (refine wpStill_step (fun K hK => ?_); go_simp; with_reducible refine ⟨_, right_at _ 7 _ _ (by decide) (by decide) (by decide), hK _ ?_⟩; clear hK K) | (refine wpStill_step (fun K hK => ?_); go_simp; with_reducible refine ⟨_, right_at _ 18 _ _ (by decide) (by decide) (by decide), hK _ ?_⟩; clear hK K) | (refine wpStill_step (fun K hK => ?_); go_simp; with_reducible refine ⟨_, right_at _ 17 _ _ (by decide) (by decide) (by decide), hK _ ?_⟩; clear hK K) | (refine wpStill_step (fun K hK => ?_); go_simp; with_reducible refine ⟨_, right_at _ 19 _ _ (by decide) (by decide) (by decide), hK _ ?_⟩; clear hK K))
          refine wpStill_nil ?_
          have cx : W5.cell? ⟨w.heap.size, k, none⟩ = some (.int .u32 (V x)) := by rw [HW5.out]; exact hx
          have fx : W5.frozen? ⟨w.heap.size, k, none⟩ = false := by rw [HW5.out]; exact hfk
          go_wp2
          go_roundw
          case rel =>
            have hv : x16 + (rr x15 7 ^^^ rr x15 18 ^^^ x15 >>> 3) + x7 + (rr x2 17 ^^^ rr x2 19 ^^^ x2 >>> 10) = sch b k := by rw [sch_hi b k hk16, e16 (by omega), e15 (by omega), e7 (by omega), e2 (by omega)]; rfl
            rw [hv]
            refine ⟨k + 1, by omega, by omega, by go_num, fun j hj => ?_, fun j => by rw [HW5.out]; simp [hfr], by rw [HW5.out]; exact (below_drewN hB _).drew.setCell (by simp) _⟩
            by_cases e : j = k
            · subst e
              exact ⟨_, World.cell?_setCell_same _ _ _ cx, fun _ => rfl⟩
            · obtain ⟨y, hy, hy2⟩ := HF.out j hj
              exact ⟨y, by rw [World.cell?_setCell_other _ _ _ _ (by intro h; injection h with _ h; omega), HW5.out]; exact hy, fun h => hy2 (by omega)⟩
          case measure => simp [intOf]; omega
          --A>
        · obtain rfl : k = 64 := by omega
          have hwc : ∀ j, j < 64 → wr.cell? ⟨w.heap.size, j, none⟩ = some (.int .u32 (V (sch b j))) := fun j hj => by
            obtain ⟨y, hy, hy2⟩ := hf j hj
            rw [hy, hy2 (by omega)]
          have hgl : g < w.heap.size := (Array.getElem?_eq_some_iff.1 HG.out).1
          have hg1 : wr.heap[g]? = some (.cells (stCells s) 103 (0, 0)) := (hB.block g hgl).trans HG.out
          have HWC := hid hwc
          clear hf hwc hfr
          obtain ⟨q0, q1, q2, q3, q4, q5, q6, q7⟩ := st_cells hg1
          have HG1 := hid hg1
          clear hg1
          go_wp2
          have hgwr : g < wr.heap.size := Nat.lt_of_lt_of_le hgl hB.size
          have hwv : w.heap.size < wr.heap.size := by
            have := HWC.out 0 (by omega)
            exact World.block_lt_of_cell? _ _ this
          obtain ⟨wo, rfl⟩ : ∃ wo : World, wo = wr := ⟨_, rfl⟩
          go_loopw [95] (fun i W => ∃ t : Nat, t ≤ 64 ∧ i = .int .i64 t ∧ W.heap[wo.heap.size]? = some (.cells (stCells (rnd b s t)) 103 (0, 0)) ∧ Below wo.heap.size wo W) (fun i _ => 64 - (intOf i).toNat)
          case atStart => exact ⟨0, by omega, rfl, heap_alloc_new wo _, (Below.refl _ _).alloc (Nat.le_refl _) _⟩
          case round =>
            obtain ⟨t, ht, rfl, hv, hBv⟩ := hrel
            clear q0 q1 q2 q3 q4 q5 q6 q7
            have hwt : ∀ j, j < 64 → _ := fun j hj => (hBv.cell (p := ⟨w.heap.size, j, none⟩) hwv).trans (HWC.out j hj)
            obtain ⟨q, hq⟩ : ∃ q, q = rnd b s t := ⟨_, rfl⟩
            rw [← hq] at hv
            obtain ⟨q0, q1, q2, q3, q4, q5, q6, q7⟩ := st_cells hv
            have hfz : ∀ j, wr.frozen? ⟨wo.heap.size, j, none⟩ = false := fun j => frozen_of_row wr wo.heap.size j _ _ hv
            have HV := hid hv
            have HQ := hid hq
            clear hv hq
            by_cases hlt : t < 64
            · --A<
              have hwk := hwt t hlt
              clear hwt
              have hsg : IntKind.u32.signed = false := rfl
              go_wp2
              go_quiet (fail)
              go_wp2
              go_quiet ((first | (go_at_call 56; with_reducible exact quiet_plus (right_at _ 6 _ _ (by decide) (by decide) (by decide))) | (go_at_call 56; with_reducible exact quiet_plus (right_at _ 11 _ _ (by decide) (by decide) (by decide))) | (go_at_call 56; with_reducible exact quiet_plus (right_at _ 25 _ _ (by decide) (by decide) (by decide))) | (go_at_call 57; with_reducible exact quiet_plus (round_same t _ hlt))))
              go_wp2
              go_quiet ((first | (go_at_call 56; with_reducible exact quiet_plus (right_at _ 2 _ _ (by decide) (by decide) (by decide))) | (go_at_call 56; with_reducible exact quiet_plus (right_at _ 13 _ _ (by decide) (by decide) (by decide))) | (go_at_call 56; with_reducible exact quiet_plus (right_at _ 22 _ _ (by decide) (by decide) (by decide)))))
              go_wp2
              go_roundw
              case rel =>
                refine ⟨t + 1, by omega, by go_num, set8_heap (s := q) (s' := stStep q (kAt t) (sch b t)) HV.out |>.trans ?_, set8_below (below_drewN hBv _) (Nat.le_refl _) (stStep q (kAt t) (sch b t))⟩
                rw [rnd, ← HQ.out]
              case measure => simp [intOf]; omega
              --A>
            · obtain rfl : t = 64 := by omega
              clear hwt
              have hgW : wr.heap[g]? = some (.cells (stCells s) 103 (0, 0)) := (hBv.block g hgwr).trans HG1.out
              have HGW := hid hgW
              clear hgW
              have hqq := HQ.out
              have hvv := HV.out
              rw [hqq] at hvv
              have HVV := hid hvv
              have hbb : Below w.heap.size w wr := hB.trans (hBv.mono (Nat.le_of_lt hwv))
              have HBB := hid hbb
              clear hqq hvv hbb q0 q1 q2 q3 q4 q5 q6 q7 hfz
              obtain ⟨w7, hw7⟩ : ∃ w7, w7 = wr := ⟨_, rfl⟩
              rw [← hw7] at HGW HVV HBB ⊢
              clear hw7
              go_wp2
              go_loopw [174] (fun i W => ∃ m : Nat, m ≤ 8 ∧ i = .int .i64 m ∧ (∃ cs : Array Value, cs.size = 8 ∧ W.heap[g]? = some (.cells cs 103 (0, 0))) ∧ (∀ j, j < 8 → W.cell? ⟨g, j, none⟩ = some (.int .u32 (V (if j < m then nth s j + nth (rnd b s 64) j else nth s j)))) ∧ (∀ j, j < 8 → W.cell? ⟨wo.heap.size, j, none⟩ = some (.int .u32 (V (nth (rnd b s 64) j)))) ∧ Bbut g w W) (fun i _ => 8 - (intOf i).toNat)
              case atStart =>
                refine ⟨0, by omega, rfl, ⟨_, rfl, HGW.out⟩, fun j hj => ?_, fun j hj => nth_cells HVV.out j hj, Bbut.of_below HBB.out⟩
                rw [if_neg (by omega)]; exact nth_cells HGW.out j hj
              case round =>
                obtain ⟨m, hm, rfl, ⟨cs, hcs, hgc⟩, hc1, hc2, hBb⟩ := hrel
                by_cases hlt : m < 8
                · have k1 := hc1 m hlt
                  rw [if_neg (by omega)] at k1
                  have k2 := hc2 m hlt
                  have k3 : wr.frozen? ⟨g, m, none⟩ = false := frozen_of_row wr g m _ _ hgc
                  have HC1 := hid hc1
                  have HC2 := hid hc2
                  clear hc1 hc2
                  go_wp2
                  go_region
                  go_wp2
                  go_roundw
                  case rel =>
                    refine ⟨m + 1, by omega, by go_num, ⟨_, by simp [hcs], heap_setCell_same wr g m cs _ _ hgc⟩, fun j hj => ?_, fun j hj => ?_, (hBb.set m _).drew⟩
                    · rw [World.cell?_drew]
                      by_cases e : j = m
                      · subst e
                        rw [World.cell?_setCell_same _ _ _ k1, if_pos (by omega)]
                      · rw [World.cell?_setCell_other _ _ _ _ (by intro h; injection h with _ h; omega), HC1.out j hj]
                        by_cases e2 : j < m
                        · rw [if_pos e2, if_pos (by omega)]
                        · rw [if_neg e2, if_neg (by omega)]
                    · rw [World.cell?_drew, World.cell?_setCell_other _ _ _ _ (by intro h; injection h with h _; omega)]
                      exact HC2.out j hj
                  case measure => simp [intOf]; omega
                · obtain rfl : m = 8 := by omega
                  go_wp2
                  go_end0
                  refine ⟨rfl, cells_of_nth hgc hcs (fun j hj => ?_), hBb⟩
                  rw [hc1 j hj, if_pos hj, nth_add s (rnd b s 64) j]; rfl
end Go.Proofs.Ytoidbgedpakjmaa.W01
