/- The walks of layer 8: items and nodes as bytes. The walks of layer 8: nodes as bytes, counts, levels. The walks of layer 8: a node's item, levels. The walks of layer 8: levels. The walks of layer 8: levels, one above the other. -/
import Derived.Test.YtoidbgedpakjmaaBld
import Derived.Test.YtoidbgedpakjmaaMild
import Derived.Test.YtoidbgedpakjmaaW07
import Derived.Test.YtoidbgedpakjmaaT08
import Derived.Test.YtoidbgedpakjmaaOrd
import Derived.Test.YtoidbgedpakjmaaW01c
import Derived.Laws.ResultCell
set_option linter.unusedVariables false
set_option linter.unusedSimpArgs false
namespace Go.Proofs.Ytoidbgedpakjmaa.W08
open Go.RowKit Go.Proofs.Ytoidbgedpakjmaa.Lib Go.Proofs.Ytoidbgedpakjmaa.Sha Go.Proofs.Ytoidbgedpakjmaa.T07 Go.Proofs.Ytoidbgedpakjmaa.T08 Go.Proofs.Ytoidbgedpakjmaa.QTail Go.Proofs.Ytoidbgedpakjmaa.Bld
attribute [local go_sem] Str_mk Str_size Str_toList Str_extract Str_append Str_get bt_nn bt_lt List.length_append take_rest sha_len two_len
set_option maxRecDepth 100000 in
theorem two_any (n : Nat) (w : World) (hn : n ≤ 1000000000) :
    Calls Try.prog 55 #[.int .i64 (n : Int)] w fun e w' => e = .returned (.string (Str (two n))) ∧ Below w.heap.size w w' := by
  go_enter Try.func55, Try.ntmps55
  go_wp2_with (rw [conv2 _ 92 5 9 5 Try.underlying92 Try.underlying5 Try.underlying9])
  go_ret
  refine ⟨?_, below_al (below_rf w) _⟩
  have e1 : Go.Proofs.Ytoidbgedpakjmaa.Lib.u8 ((n : Int) / 256 % 256) = Go.Proofs.Ytoidbgedpakjmaa.Lib.u8 ((n / 256 : Nat) : Int) := by rw [u8_mod _ (by omega)]; rfl
  have e2 : Go.Proofs.Ytoidbgedpakjmaa.Lib.u8 ((n : Int) % 256) = Go.Proofs.Ytoidbgedpakjmaa.Lib.u8 (n : Int) := u8_mod _ (by omega)
  unfold Go.Proofs.Ytoidbgedpakjmaa.T08.two
  rw [← e1, ← e2]
  rfl
def itv (x : Itm) : Value := .agg #[.string (Str x.1), .string (Str x.2)]
set_option maxHeartbeats 1600000 in
set_option maxRecDepth 100000 in
theorem form_any (x : Itm) (w : World) (h1 : x.1.length ≤ 1000000000) (h2 : x.2.length ≤ 1000000000) :
    Calls Try.prog 38 #[.agg #[.string (Str x.1), .string (Str x.2)]] w fun e w' => e = .returned (.string (Str (form x))) ∧ Below w.heap.size w w' := by
  go_enter Try.func38, Try.ntmps38
  obtain ⟨w1, hw1⟩ : ∃ w1, w1 = w.alloc (Obj.cells #[Value.string (Str x.1), Value.string (Str x.2)] 63) := ⟨_, rfl⟩
  have hsz : w1.heap.size = w.heap.size + 1 := by rw [hw1]; exact Array.size_push _
  have hl1 : ∀ W, Below w1.heap.size w1 W → W.cell? ⟨w.heap.size, 0, none⟩ = some (.string (Str x.1)) := fun W h => by
    rw [h.cell (p := ⟨w.heap.size, 0, none⟩) (by rw [hsz]; exact Nat.lt_succ_self _), hw1]
    exact World.cell?_alloc_at _ _ _ _ rfl
  have hl2 : ∀ W, Below w1.heap.size w1 W → W.cell? ⟨w.heap.size, 1, none⟩ = some (.string (Str x.2)) := fun W h => by
    rw [h.cell (p := ⟨w.heap.size, 1, none⟩) (by rw [hsz]; exact Nat.lt_succ_self _), hw1]
    exact World.cell?_alloc_at _ _ _ _ rfl
  have hm1 : ∀ W, Below w1.heap.size w1 W → Calls Try.prog 55 #[.int .i64 (x.1.length : Int)] W fun e w' => e = .returned (.string (Str (two x.1.length))) ∧ Below w1.heap.size w1 w' := fun W hW => (two_any _ W h1).mono fun e w' h => ⟨h.1, hW.trans (h.2.mono hW.size)⟩
  have hm2 : ∀ W, Below w1.heap.size w1 W → Calls Try.prog 55 #[.int .i64 (x.2.length : Int)] W fun e w' => e = .returned (.string (Str (two x.2.length))) ∧ Below w1.heap.size w1 w' := fun W hW => (two_any _ W h2).mono fun e w' h => ⟨h.1, hW.trans (h.2.mono hW.size)⟩
  have hbl : Below w.heap.size w w1 := by rw [hw1]; exact below_al (below_rf w) _
  have HSZ := hid hsz
  clear hsz
  go_wp2
  rw [← hw1]
  have HW1 := hid hw1
  clear hw1
  refine wp_region_mild w1.heap.size (by kernel_rfl) (by kernel_rfl) ?_
  repeat (
    refine wpQuiet_step (fun K hK => ?_)
    first
      | (refine mild_skip (by rfl) (hK _ ?_)
         clear hK K)
      | (refine mild_read (by rfl) ?_
         apply Exists.intro
         refine ⟨fun W hW => ?_, hK _ ?_⟩
         (go_simp; first | rfl | (rw [if_neg (by omega)]) | (rw [if_pos (by omega)]))
         clear hK K)
      | (refine mild_call (by rfl) ?_
         apply Exists.intro
         apply Exists.intro
         refine ⟨fun W hW => ?_, ?_⟩
         (go_simp; exact ⟨rfl, rfl⟩)
         apply Exists.intro
         refine ⟨fun W hW => ?_, hK _ ?_⟩
         (first | with_reducible exact (hm1 W hW) | with_reducible exact (hm2 W hW))
         clear hK K)
    go_simp)
  refine wpQuiet_nil ?_
  intro W hW
  go_wp2
  go_ret
  refine ⟨?_, hbl.trans (hW.mono (by rw [HSZ.out]; omega))⟩
  simp [form]
end Go.Proofs.Ytoidbgedpakjmaa.W08
namespace Go.Proofs.Ytoidbgedpakjmaa.W08
open Go.RowKit Go.Proofs.Ytoidbgedpakjmaa.Lib Go.Proofs.Ytoidbgedpakjmaa.Sha Go.Proofs.Ytoidbgedpakjmaa.T07 Go.Proofs.Ytoidbgedpakjmaa.T08 Go.Proofs.Ytoidbgedpakjmaa.QTail Go.Proofs.Ytoidbgedpakjmaa.Bld Go.Proofs.Ytoidbgedpakjmaa.Itms
attribute [local go_sem] Str_mk Str_size Str_toList Str_extract Str_append Str_get bt_nn bt_lt List.length_append take_rest sha_len two_len
theorem wrap_u64 (x : Int) : IntKind.u64.wrap x = x % 18446744073709551616 := rfl
theorem bt_bat (l : List UInt8) (i : Nat) : bt l i = ((bat l i).toNat : Int) := rfl
theorem told_any (v : List UInt8) (w : World) (hv : v.length = 40) :
    Calls Try.prog 75 #[.string (Str v)] w fun e w' => e = .returned (.int .u64 (told v : Nat)) ∧ w' = w := by
  go_enter Try.func75, Try.ntmps75
  go_wp2
  go_loopw [3, 5] (fun n i wr => ∃ k : Nat, k ≤ 8 ∧ i = .int .i64 (k : Int) ∧ n = .int .u64 (toldGo v k : Nat) ∧ wr = w) (fun _ i _ => 8 - (intOf i).toNat)
  case atStart => exact ⟨0, by omega, rfl, rfl, rfl⟩
  case round =>
    obtain ⟨k, hk, rfl, rfl, rfl⟩ := hrel
    by_cases hlt : k < 8
    · have hb := toldGo_lt v k
      have hj : bits .or .u64 (IntKind.u64.wrap (((toldGo v k : Nat) : Int) * 256)) (IntKind.u64.wrap (bt v (32 + k))) = ((toldGo v (k + 1) : Nat) : Int) := by
        have hk7 : (256 : Nat) ^ k ≤ 256 ^ 7 := Nat.pow_le_pow_right (by decide) (by omega)
        have e7 : (256 : Nat) ^ 7 = 72057594037927936 := by decide
        have h0 := bt_nn v (32 + k)
        have h1 := bt_lt v (32 + k)
        have w1 : IntKind.u64.wrap (((toldGo v k : Nat) : Int) * 256) = ((toldGo v k : Nat) : Int) * 256 := by rw [wrap_u64]; omega
        have w2 : IntKind.u64.wrap (bt v (32 + k)) = bt v (32 + k) := by rw [wrap_u64]; omega
        rw [w1, w2, bits_join .u64 64 (by decide) (fun n h0 h1 => by rw [wrap_u64]; omega) 8 _ _ (by omega) (by omega) (by omega) h0 (by omega) (by omega)]
        rw [toldGo, bt_bat]
        omega
      go_wp2
      go_roundw
      case rel => exact ⟨k + 1, by omega, by go_num, rfl, trivial⟩
      case measure => simp [intOf]; omega
    · obtain rfl : k = 8 := by omega
      go_wp2
      go_ret
      exact ⟨rfl, rfl⟩
theorem sum_snoc (l : List Itm) (k : Nat) (h : k < l.length) : ((l.take (k + 1)).map fun x => told x.2).sum = ((l.take k).map fun x => told x.2).sum + told (itm l k).2 := by
  rw [take_itm l k h]; simp
set_option maxHeartbeats 800000 in
theorem count_any (level : Nat) (l : List Itm) (A : Option Addr) (c : Nat) (w : World) (hl : l.length ≤ 1000000000) (hrd : Rd w A (its l)) (hs : 0 < level → ∀ i, i < l.length → (itm l i).2.length = 40) :
    Calls Try.prog 63 #[.agg #[.int .i64 (level : Int), .slice A l.length c]] w fun e w' => e = .returned (.int .u64 (countS level l : Nat)) ∧ Below w.heap.size w w' := by
  go_enter Try.func63, Try.ntmps63
  by_cases h0 : level = 0
  · subst h0
    go_wp2
    go_ret
    refine ⟨?_, below_al (below_rf w) _⟩
    rfl
  · have hb0 : ((level : Int) == 0) = false := beq_eq_false_iff_ne.2 (by omega)
    go_wp2
    go_loopw [3, 16] (fun n i wr => ∃ k : Nat, k ≤ l.length ∧ i = .int .i64 (k : Int) ∧ n = .int .u64 ((((l.take k).map fun x => told x.2).sum % 18446744073709551616 : Nat) : Int) ∧ Below w.heap.size w wr) (fun _ i _ => l.length - (intOf i).toNat)
    case atStart => exact ⟨0, by omega, rfl, rfl, below_al (below_rf w) _⟩
    case round =>
      obtain ⟨k, hk, rfl, rfl, hB⟩ := hrel
      by_cases hlt : k < l.length
      · obtain ⟨b, o, rfl, hc1, hc2⟩ := rd_itm (Rd.below hrd hB) hlt
        go_wp2_with fail
        refine (told_any _ _ (hs (by omega) k hlt)).mono ?_; rintro e w1 ⟨rfl, rfl⟩
        have e9 : IntKind.u64.wrap (((((l.take k).map fun x => told x.2).sum % 18446744073709551616 : Nat) : Int) + ((told (itm l k).2 : Nat) : Int)) = ((((l.take (k + 1)).map fun x => told x.2).sum % 18446744073709551616 : Nat) : Int) := by
          rw [wrap_u64, sum_snoc l k hlt]; omega
        obtain ⟨S, hS⟩ : ∃ S, S = ((l.take k).map fun x => told x.2).sum := ⟨_, rfl⟩
        obtain ⟨S', hS'⟩ : ∃ S', S' = ((l.take (k + 1)).map fun x => told x.2).sum := ⟨_, rfl⟩
        rw [← hS, ← hS'] at e9
        rw [← hS]
        have HS := hid hS'
        clear hS hS'
        go_wp2
        go_roundw
        case rel => exact ⟨k + 1, by omega, by go_num, by rw [← HS.out, ← e9, Int.natCast_emod]; rfl, below_al hB _⟩
        case measure => simp [intOf]; omega
      · obtain rfl : k = l.length := by omega
        rw [List.take_length]
        go_wp2
        go_ret
        refine ⟨?_, hB⟩
        rw [countS, if_neg h0]
        rfl
theorem heap_old (w : World) (o : Obj) {r : Nat} (h : r < w.heap.size) : (w.alloc o).heap[r]? = w.heap[r]? := by
  show (w.heap.push o)[r]? = _
  rw [Array.getElem?_push_lt h, Array.getElem?_eq_getElem h]
theorem heap_new (w : World) (o : Obj) : (w.alloc o).heap[w.heap.size]? = some o := by
  show (w.heap.push o)[w.heap.size]? = _
  simp
theorem heap_new' (w : World) (o : Obj) {r : Nat} (h : r = w.heap.size) : (w.alloc o).heap[r]? = some o := by subst h; exact heap_new w o
theorem flat_snoc (l : List Itm) (k : Nat) (h : k < l.length) : ((l.take (k + 1)).map form).flatten = ((l.take k).map form).flatten ++ form (itm l k) := by
  rw [take_itm l k h]; simp
def Fine (l : List Itm) : Prop := ∀ i, i < l.length → (itm l i).1.length ≤ 1000000 ∧ (itm l i).2.length ≤ 1000000
theorem flat_len (l : List Itm) (h : Fine l) : ∀ k, k ≤ l.length → ((l.take k).map form).flatten.length ≤ 2000004 * k := by
  intro k
  induction k with
  | zero => intro _; simp
  | succ k ih =>
    intro hk
    have h1 := ih (by omega)
    obtain ⟨h2, h3⟩ := h k (by omega)
    rw [flat_snoc l k (by omega), List.length_append, form_len]
    omega
set_option maxRecDepth 100000 in
set_option maxHeartbeats 1600000 in
theorem bytes_any (level : Nat) (l : List Itm) (A : Option Addr) (c : Nat) (w : World) (hv : level ≤ 1000000000) (hl : l.length ≤ 1000000) (hrd : Rd w A (its l)) (hs : Fine l) :
    Calls Try.prog 21 #[.agg #[.int .i64 (level : Int), .slice A l.length c]] w fun e w' => e = .returned (.string (Str (nodeB level l))) ∧ Below w.heap.size w w' := by
  have HS := hid hs
  have H0 := hid hrd
  clear hs hrd
  obtain ⟨w3, hw3⟩ : ∃ w3, w3 = ((w.alloc (Obj.cells #[Value.int IntKind.i64 level, Value.slice A l.length c] 56)).alloc (Obj.cells #[Value.pointer none, Value.slice none 0 0] 94)).alloc (Obj.cells #[Value.int IntKind.u8 80, Value.int IntKind.u8 ((level : Int) % 256), Value.int IntKind.u8 ((l.length : Int) % 256)] 5) := ⟨_, rfl⟩
  have z3 : w3.heap.size = w.heap.size + 1 + 1 + 1 := by rw [hw3]; simp
  have hb3 : Below w.heap.size w w3 := by rw [hw3]; exact below_al (below_al (below_al (below_rf w) _) _) _
  have hbox : w3.heap[w.heap.size]? = some (Obj.cells #[Value.int IntKind.i64 level, Value.slice A l.length c] 56 (0, 0)) := by
    rw [hw3, heap_old _ _ (by simp; omega), heap_old _ _ (by simp), heap_new]
  have hbld : w3.heap[w.heap.size + 1]? = some (Obj.cells #[Value.pointer none, Value.slice none 0 0] 94 (0, 0)) := by
    rw [hw3, heap_old _ _ (by simp)]
    exact heap_new' _ _ (by simp)
  have hrow : Rd w3 (some ⟨w.heap.size + 1 + 1, 0, none⟩) (byts (nodeHead level l.length)) := by
    refine .inr ⟨_, _, rfl, fun j x hj => ?_⟩
    have e : byts (nodeHead level l.length) = [Value.int IntKind.u8 80, Value.int IntKind.u8 ((level : Int) % 256), Value.int IntKind.u8 ((l.length : Int) % 256)] := by
      simp only [byts, nodeHead, List.map_cons, List.map_nil]
      rw [u8_toNat _ (by omega), u8_toNat _ (by omega)]; rfl
    rw [e] at hj
    rw [hw3, World.cell?_alloc_at _ _ _ _ (by simp), Nat.zero_add, ← hj]
    simp
  have hib : IsB (w.heap.size + 1) (w.heap.size + 1) [] w3 := .inl ⟨Nat.le_refl _, _, hbld, own_nil _ _ _ _, by simp [Value.ownBlock]⟩
  have hw := (wbytes_any (w.heap.size + 1) (w.heap.size + 1) [] (nodeHead level l.length) (some ⟨w.heap.size + 1 + 1, 0, none⟩) 3 w3 hib hrow (by simp [nodeHead]) (by omega) (by intro a h; injection h with h; subst h; simp) (by simp) (by intro a h; injection h with h; subst h; rfl))
  have HW := hid hw
  have HW3 := hid hw3
  clear hw
  go_enter Try.func21, Try.ntmps21
  go_wp2_with fail
  rw [← hw3]
  refine HW.out.mono ?_; rintro e w4 ⟨rfl, hI4, hB4⟩
  have c0 : w4.cell? ⟨w.heap.size, 0, none⟩ = some (Value.int IntKind.i64 level) := by
    rw [hB4.cell (p := ⟨w.heap.size, 0, none⟩) (Nat.lt_succ_self _)]; rw [Go.Lib.cell_of_heap hbox]; rfl
  have c1 : w4.cell? ⟨w.heap.size, 1, none⟩ = some (Value.slice A l.length c) := by
    rw [hB4.cell (p := ⟨w.heap.size, 1, none⟩) (Nat.lt_succ_self _)]; rw [Go.Lib.cell_of_heap hbox]; rfl
  have hb4 : Below w.heap.size w w4 := hb3.trans (hB4.mono (Nat.le_succ _))
  have h4s : w.heap.size + 1 ≤ w4.heap.size := Nat.le_trans (by rw [z3]; omega) hB4.size
  have HI4 := hid hI4
  have HX := hid hbox
  clear hib hrow hbld hbox hB4 hI4 hw3 z3 hb3
  obtain ⟨B, hB⟩ : ∃ B, B = w.heap.size + 1 := ⟨_, rfl⟩
  rw [← hB] at h4s HI4 ⊢
  have HB := hid hB
  clear hB HW
  go_wp2
  go_loopw [18] (fun i wr => ∃ k : Nat, k ≤ l.length ∧ i = .int .i64 (k : Int) ∧ Hid (IsB B B (nodeHead level l.length ++ ((l.take k).map form).flatten) wr) ∧ Below B w4 wr) (fun i _ => l.length - (intOf i).toNat)
  case atStart => exact ⟨0, by omega, rfl, by simpa using HI4, below_rf w4 |>.mono h4s⟩
  case round =>
    obtain ⟨k, hk, rfl, HI, hBr⟩ := hrel
    have hbr : Below w.heap.size w wr := hb4.trans (hBr.mono (by rw [HB.out]; omega))
    have hsr : B ≤ wr.heap.size := Nat.le_trans h4s hBr.size
    by_cases hlt : k < l.length
    · obtain ⟨b, o, rfl, hc1, hc2⟩ := rd_itm (Rd.below H0.out hbr) hlt
      obtain ⟨f1, f2⟩ := HS.out k hlt
      have hfl := flat_len l HS.out k hk
      have HF := hid hfl
      clear hfl
      go_wp2_with fail
      refine (form_any (itm l k) _ (by omega) (by omega)).mono ?_; rintro e w5 ⟨rfl, hb5⟩
      have hb5' := below_tr (below_al (below_rf wr) _) hb5
      have HI5 := hid (isb_below HI.out hb5')
      have hB5 : Below B w4 w5 := hBr.trans (hb5'.mono hsr)
      go_wp2_with fail
      have hh := wstr_any B B _ (form (itm l k)) w5 HI5.out (by have := HF.out; have := form_len (itm l k); simp only [List.length_append, nodeHead, List.length_cons, List.length_nil] at *; omega) (Nat.le_trans hsr hb5'.size)
      refine hh.mono ?_; rintro e w6 ⟨rfl, hI6, hB6⟩
      rw [List.append_assoc, ← flat_snoc l k hlt] at hI6
      have HI6 := hid hI6
      clear hI6 hh
      go_wp2
      go_roundw
      case rel => exact ⟨k + 1, by omega, by go_num, HI6, hB5.trans hB6⟩
      case measure => simp [intOf]; omega
    · obtain rfl : k = l.length := by omega
      rw [List.take_length] at HI
      go_wp2_with fail
      refine (wstring_any B B _ _ HI.out hsr).mono ?_; rintro e w5 ⟨rfl, hb5⟩
      go_wp2
      go_ret
      exact ⟨rfl, hbr.trans (hb5.mono (by rw [HB.out]; omega))⟩
end Go.Proofs.Ytoidbgedpakjmaa.W08
namespace Go.Proofs.Ytoidbgedpakjmaa.W08
open Go.RowKit Go.Proofs.Ytoidbgedpakjmaa.Lib Go.Proofs.Ytoidbgedpakjmaa.Sha Go.Proofs.Ytoidbgedpakjmaa.T07 Go.Proofs.Ytoidbgedpakjmaa.T08 Go.Proofs.Ytoidbgedpakjmaa.QTail Go.Proofs.Ytoidbgedpakjmaa.Bld Go.Proofs.Ytoidbgedpakjmaa.Itms Go.Proofs.Ytoidbgedpakjmaa.W01 Go.Proofs.Ytoidbgedpakjmaa.W07
attribute [local go_sem] Str_mk Str_size Str_toList Str_extract Str_append Str_get bt_nn bt_lt List.length_append take_rest sha_len two_len
theorem nodeB_len (level : Nat) (l : List Itm) (h : Fine l) : (nodeB level l).length ≤ 2000004 * l.length + 3 := by
  have := flat_len l h l.length (Nat.le_refl _)
  rw [List.take_length] at this
  simp only [nodeB, nodeHead, List.length_append, List.length_cons, List.length_nil]; omega
theorem countS_lt (level : Nat) (l : List Itm) (h : l.length ≤ 1000000) : countS level l < 18446744073709551616 := by
  unfold countS; split
  · omega
  · exact Nat.mod_lt _ (by decide)
theorem cell_lt {w : World} {p : Addr} {v : Value} (h : w.cell? p = some v) : p.block < w.heap.size := by
  rcases Nat.lt_or_ge p.block w.heap.size with h' | h'
  · exact h'
  · simp [World.cell?, Array.getElem?_eq_none h'] at h
theorem lastKey_itm (l : List Itm) : lastKey l = (itm l (l.length - 1)).1 := rfl
set_option maxHeartbeats 1600000 in
set_option maxRecDepth 100000 in
theorem up_any (level : Nat) (l : List Itm) (A : Option Addr) (c : Nat) (w : World) (hv : level ≤ 1000000000) (hl0 : 0 < l.length) (hl : l.length ≤ 1000000) (hrd : Rd w A (its l)) (hs : Fine l) (hs2 : 0 < level → ∀ i, i < l.length → (itm l i).2.length = 40) :
    Calls Try.prog 43 #[.agg #[.int .i64 (level : Int), .slice A l.length c]] w fun e w' => e = .returned (.tuple #[.agg #[.string (Str (lastKey l)), .string (Str (sha (nodeB level l) ++ be (countS level l) 8))], .string (Str (nodeB level l))]) ∧ Below w.heap.size w w' := by
  have HS := hid hs
  have HS2 := hid hs2
  have H0 := hid hrd
  have hnl := nodeB_len level l hs
  have hct := countS_lt level l hl
  obtain ⟨ct, hctE⟩ : ∃ ct, ct = countS level l := ⟨_, rfl⟩
  obtain ⟨nd, hndE⟩ : ∃ nd, nd = nodeB level l := ⟨_, rfl⟩
  obtain ⟨b, o, rfl, hc1, hc2⟩ := rd_itm hrd (j := l.length - 1) (by omega)
  have HCT := hid hctE
  have HND := hid hndE
  obtain ⟨w2, hw2⟩ : ∃ w2, w2 = (w.alloc (Obj.cells #[Value.int IntKind.i64 level, Value.slice (some ⟨b, o, none⟩) l.length c] 56)).alloc (Obj.cells #[Value.string (Str []), Value.string (Str [])] 63) := ⟨_, rfl⟩
  have hw2b : Below w.heap.size w w2 := by rw [hw2]; exact below_al (below_al (below_rf w) _) _
  have z2 : w2.heap.size = w.heap.size + 2 := by rw [hw2]; simp
  have hbx : ∀ W, Below w2.heap.size w2 W → W.cell? ⟨w.heap.size, 0, none⟩ = some (Value.int IntKind.i64 level) ∧ W.cell? ⟨w.heap.size, 1, none⟩ = some (Value.slice (some ⟨b, o, none⟩) l.length c) := by
    intro W hW
    have hh : w2.heap[w.heap.size]? = some (Obj.cells #[Value.int IntKind.i64 level, Value.slice (some ⟨b, o, none⟩) l.length c] 56 (0, 0)) := by
      rw [hw2, heap_old _ _ (by simp), heap_new]
    constructor
    · rw [hW.cell (p := ⟨w.heap.size, 0, none⟩) (by rw [z2]; simp), Go.Lib.cell_of_heap hh]; rfl
    · rw [hW.cell (p := ⟨w.heap.size, 1, none⟩) (by rw [z2]; simp), Go.Lib.cell_of_heap hh]; rfl
  have hres : ∀ W, Below w2.heap.size w2 W → W.heap[w.heap.size + 1]? = some (Obj.cells #[Value.string (Str []), Value.string (Str [])] 63 (0, 0)) := by
    intro W hW
    rw [hW.block (w.heap.size + 1) (by rw [z2]; omega), hw2]
    exact heap_new' _ _ (by simp)
  have HRES := hid hres
  clear hres
  have HBX := hid hbx
  have HZ := hid z2
  have b20 := hbx w2 (below_rf w2)
  have b20a := b20.1
  have b20b := b20.2
  have HW2 := hid hw2
  clear hs hs2 hrd hbx z2 b20
  rw [← hctE] at hct ⊢
  rw [← hndE] at hnl ⊢
  clear hctE hndE
  go_enter Try.func43, Try.ntmps43
  go_wp2_with fail
  rw [← hw2]
  clear hw2
  refine (bytes_any level l _ c w2 hv hl (Rd.below H0.out hw2b) HS.out).mono ?_; rintro e w3 ⟨rfl, hb3⟩
  rw [← HND.out]
  have a3 := (HBX.out w3 hb3).1
  have b3 := (HBX.out w3 hb3).2
  have hb3' := below_tr hw2b hb3
  clear b20a b20b
  go_wp2_with fail
  refine (count_any level l _ c w3 (by omega) (Rd.below H0.out hb3') HS2.out).mono ?_; rintro e w4 ⟨rfl, hb4⟩
  rw [← HCT.out]
  have hb24 := below_tr hb3 hb4
  go_wp2_with fail
  refine (print_any nd w4 (by omega)).mono ?_; rintro e w5 ⟨rfl, hb5⟩
  have hb25 := below_tr hb24 hb5
  clear a3 b3
  have hcv := fun w a => conv1 (P := Try.prog) w 92 5 9 5 Try.underlying92 Try.underlying5 Try.underlying9 a 1
  go_wp2_with fail
  go_loopw [6, 7] (fun x i wr => ∃ m : Nat, m ≤ 8 ∧ i = .int .i64 (8 * (m : Int) - 8) ∧ x = .string (Str (sha nd ++ (be ct 8).take (8 - m))) ∧ Below w2.heap.size w2 wr) (fun _ i _ => (intOf i + 8).toNat)
  case atStart => exact ⟨8, by omega, rfl, by simp, hb25⟩
  case round =>
    obtain ⟨m, hm8, rfl, rfl, hB⟩ := hrel
    rcases m with _ | j
    · have e0 : 8 * ((0 : Nat) : Int) - 8 = -8 := rfl
      rw [e0]
      clear e0
      have hpt : (be ct 8).take (8 - 0) = be ct 8 := by rw [List.take_of_length_le (by rw [be_len]; omega)]
      rw [hpt]
      clear hpt
      have a5 := (HBX.out wr hB).1
      have b5 := (HBX.out wr hB).2
      have q1 := (Below.cell (p := ⟨b, o + (l.length - 1) * 2, none⟩) (below_tr hw2b hB) (cell_lt hc1)).trans hc1
      have e9 : lastKey l = (itm l (l.length - 1)).1 := rfl
      rw [← e9] at q1
      clear e9 hc1 hc2
      have hr := HRES.out wr hB
      have r0 : wr.cell? ⟨w.heap.size + 1, 0, none⟩ = some (Value.string (Str [])) := by rw [Go.Lib.cell_of_heap hr]; rfl
      have r1 : wr.cell? ⟨w.heap.size + 1, 1, none⟩ = some (Value.string (Str [])) := by rw [Go.Lib.cell_of_heap hr]; rfl
      have r2 : wr.frozen? ⟨w.heap.size + 1, 0, none⟩ = false := Go.Lib.frozen_of_heap hr 0
      have r3 : wr.frozen? ⟨w.heap.size + 1, 1, none⟩ = false := Go.Lib.frozen_of_heap hr 1
      clear hr
      go_wp2
      refine bodyPost_ret (v := .tuple #[.agg #[.string (Str (lastKey l)), .string (Str (sha nd ++ be ct 8))], .string (Str nd)]) ((results_cell_tmp rfl _ _ _).trans ?_) rfl ?_
      · go_simp
      refine ⟨rfl, ((below_tr hw2b hB).setCell (p := ⟨w.heap.size + 1, 0, none⟩) (Nat.le_succ _) _).setCell (p := ⟨w.heap.size + 1, 1, none⟩) (Nat.le_succ _) _⟩
    · have e1 : 8 * ((j + 1 : Nat) : Int) - 8 = ((8 * j : Nat) : Int) := by omega
      rw [e1]
      have e2 : min (8 * j) 64 = 8 * j := by omega
      clear e1
      have hbl : (List.take (8 - (j + 1)) (be ct 8)).length ≤ 8 := by simp; omega
      go_wp2
      go_roundw
      case rel =>
        refine ⟨j, by omega, rfl, ?_, below_al hB _⟩
        have e4 : ((ct : Int) / 2 ^ (8 * j)) = (((ct / 2 ^ (8 * j) : Nat)) : Int) := by
          rw [Int.natCast_ediv, Int.natCast_pow]; rfl
        rw [e4, be_succ ct j (by omega), u8_mod _ (Int.natCast_nonneg _)]
      case measure => simp only [intOf]; omega
end Go.Proofs.Ytoidbgedpakjmaa.W08
namespace Go.Proofs.Ytoidbgedpakjmaa.W08
open Go.RowKit Go.Proofs.Ytoidbgedpakjmaa.Lib Go.Proofs.Ytoidbgedpakjmaa.Sha Go.Proofs.Ytoidbgedpakjmaa.T07 Go.Proofs.Ytoidbgedpakjmaa.T08 Go.Proofs.Ytoidbgedpakjmaa.QTail Go.Proofs.Ytoidbgedpakjmaa.Bld Go.Proofs.Ytoidbgedpakjmaa.Itms Go.Proofs.Ytoidbgedpakjmaa.W01 Go.Proofs.Ytoidbgedpakjmaa.W07
attribute [local go_sem] Str_mk Str_size Str_toList Str_extract Str_append Str_get bt_nn bt_lt List.length_append take_rest sha_len two_len
theorem own_ne {w : World} {base base' n n' : Nat} {e e' : TypeId} {size size' : Nat} {v v' : Value} {xs xs' : List Value} (h : w.ownsRow base e size v n xs) (h' : w.ownsRow base' e' size' v' n' xs') (hne : e ≠ e') (k : Nat) (hk : v.ownBlock = some k) : v'.ownBlock ≠ some k := by
  intro hk'
  rcases h.2 with ⟨rfl, _⟩ | ⟨g, cap, cur, rfl, hb, hh, _⟩
  · simp [Value.ownBlock] at hk
  · rcases h'.2 with ⟨rfl, _⟩ | ⟨g', cap', cur', rfl, hb', hh', _⟩
    · simp [Value.ownBlock] at hk'
    · have e1 : g = k := by simpa [Value.ownBlock] using hk
      have e2 : g' = k := by simpa [Value.ownBlock] using hk'
      subst e1; subst e2
      rw [hh] at hh'
      injection hh' with hh'; injection hh' with _ hh'; exact hne hh'
theorem own_grown {w w1 : World} {base n : Nat} {e : TypeId} {size : Nat} {v : Value} {xs : List Value} {ob : Option Nat} (h : w.ownsRow base e size v n xs) (hg : w.grownBy w1 ob) (hne : ∀ k, v.ownBlock = some k → ob ≠ some k) : w1.ownsRow base e size v n xs := by
  refine ⟨h.1, ?_⟩
  rcases h.2 with ⟨rfl, h0⟩ | ⟨g, cap, cur, rfl, hb, hh, hr⟩
  · exact .inl ⟨rfl, h0⟩
  · refine .inr ⟨g, cap, cur, rfl, hb, ?_, hr⟩
    rw [hg.block g (Array.getElem?_eq_some_iff.1 hh).1 (fun e => hne g (by simp [Value.ownBlock]) e.symm), hh]
theorem own_base {w : World} {base base' n : Nat} {e : TypeId} {size : Nat} {v : Value} {xs : List Value} (h : w.ownsRow base e size v n xs) (hb : base' ≤ base) : w.ownsRow base' e size v n xs := by
  refine ⟨h.1, ?_⟩
  rcases h.2 with h0 | ⟨g, cap, cur, h1, h2, h3⟩
  · exact .inl h0
  · exact .inr ⟨g, cap, cur, h1, Nat.le_trans hb h2, h3⟩
theorem ti_pair : TI Try.prog 28 63 2 32 := TI.of Try.underlying28 (by kernel_rfl) (by decide) (by decide)
theorem sat_forms (l : List Itm) (k : Nat) (h : k < l.length) : sat (l.map form) k = form (itm l k) := by
  simp [sat, itm, List.getD_eq_getElem?_getD, h]
theorem short_forms (l : List Itm) (h : Fine l) : Short (l.map form) := by
  intro i hi
  have hi' : i < l.length := by simpa using hi
  obtain ⟨h1, h2⟩ := h i hi'
  rw [sat_forms l i hi', form_len]; omega
theorem cut_step (cs : List Nat) (r : List Itm) (k : Nat) (hk : k < cs.length) (h : cs.drop k = cutS (r.map form)) :
    0 < r.length ∧ nat cs k = partS (r.map form) ∧ cs.drop (k + 1) = cutS ((r.drop (nat cs k)).map form) := by
  have h0 : 0 < r.length := by
    rcases Nat.lt_or_ge 0 r.length with h1 | h1
    · exact h1
    · have : r = [] := List.eq_nil_of_length_eq_zero (by omega)
      subst this
      have := congrArg List.length h
      simp [cut_nil] at this; omega
  have h2 := cut_cons (r.map form) (by simpa using h0)
  rw [← h, List.drop_eq_getElem_cons hk] at h2
  injection h2 with h3 h4
  have h5 : nat cs k = partS (r.map form) := by rw [← h3]; simp [nat, List.getD_eq_getElem?_getD, hk]
  exact ⟨h0, h5, by rw [h4, h5, List.map_drop]⟩
theorem fine_sub (l : List Itm) (h : Fine l) (m n : Nat) : Fine ((l.drop m).take n) := by
  intro i hi
  simp only [List.length_take, List.length_drop] at hi
  have := h (m + i) (by omega)
  have e : itm ((l.drop m).take n) i = itm l (m + i) := by
    simp only [itm, List.getD_eq_getElem?_getD]
    rw [List.getElem?_take_of_lt (by omega), List.getElem?_drop]
  rw [e]; exact this
theorem val_sub (l : List Itm) (q : Nat) (h : ∀ i, i < l.length → (itm l i).2.length = q) (m n : Nat) : ∀ i, i < ((l.drop m).take n).length → (itm ((l.drop m).take n) i).2.length = q := by
  intro i hi
  simp only [List.length_take, List.length_drop] at hi
  have := h (m + i) (by omega)
  have e : itm ((l.drop m).take n) i = itm l (m + i) := by
    simp only [itm, List.getD_eq_getElem?_getD]
    rw [List.getElem?_take_of_lt (by omega), List.getElem?_drop]
  rw [e]; exact this
set_option maxHeartbeats 1600000 in
set_option maxRecDepth 100000 in
theorem level_any (level : Nat) (l : List Itm) (A : Option Addr) (c : Nat) (w : World) (hv : level ≤ 1000000000) (hc : l.length ≤ c) (hl : l.length ≤ 1000000) (hrd : Rd w A (its l)) (hs : Fine l) (hs2 : 0 < level → ∀ i, i < l.length → (itm l i).2.length = 40) :
    Calls Try.prog 23 #[.int .i64 (level : Int), .slice A l.length c] w fun e w' => (∃ v1 v2, e = .returned (.tuple #[v1, v2]) ∧ w'.ownsRow w.heap.size 63 2 v1 (levelS level l).1.length (its (levelS level l).1) ∧ w'.ownsRow w.heap.size 9 1 v2 (levelS level l).2.length (strs (levelS level l).2)) ∧ Below w.heap.size w w' := by
  have HS := hid hs
  have HS2 := hid hs2
  have H0 := hid hrd
  clear hs hs2 hrd
  go_enter Try.func23, Try.ntmps23
  go_wp2_with fail
  go_loopw [6, 17] (fun v i wr => ∃ k : Nat, k ≤ l.length ∧ i = .int .i64 (k : Int) ∧ wr.ownsRow w.heap.size 9 1 v k (strs ((l.take k).map form)) ∧ Below w.heap.size w wr) (fun _ i _ => l.length - (intOf i).toNat)
  case atStart => exact ⟨0, by omega, rfl, own_nil _ _ _ _, below_rf w⟩
  case round =>
    obtain ⟨k, hk, rfl, hown, hB⟩ := hrel
    by_cases hlt : k < l.length
    · obtain ⟨b, o, rfl, hc1, hc2⟩ := rd_itm (Rd.below H0.out hB) hlt
      obtain ⟨f1, f2⟩ := HS.out k hlt
      go_wp2_with fail
      refine (form_any (itm l k) _ (by omega) (by omega)).mono ?_; rintro e w5 ⟨rfl, hb5⟩
      have hb5' := below_tr (below_al (below_rf wr) _) hb5
      have hown5 := own_of_below hown hb5'
      have hB5 := below_tr hB hb5'
      go_wp2_with (at_builtin; go_loud (refine wpList_appN ti_str (.tmp 21) (.tmp 24) (by rfl) (by rfl) w.heap.size [.string (Str (form (itm l k)))] 9 1 1 (by rfl) (by rfl) hown5 (by rfl) (by simp [Value.oneCell']) hB5 hB5.size (by omega) ?_; intro A2 c2 w6 ho6 hg6 hB6 hsz6))
      go_wp2
      go_roundw
      case rel =>
        refine ⟨k + 1, by omega, by go_num, ?_, hB6⟩
        rw [take_itm l k hlt, List.map_append, ← strs_app]
        exact ho6
      case measure => simp [intOf]; omega
    · obtain rfl : k = l.length := by omega
      rw [List.take_length] at hown
      obtain ⟨A1, c1, rfl, hcc, hrd1, _, _⟩ := Rd.own' hown
      have hcut := cut_any (l.map form) A1 c1 wr (by simpa using hcc) (by rw [List.length_map]; omega) hrd1 (short_forms l HS.out)
      rw [List.length_map] at hcut
      have HCUT := hid hcut
      clear hcut hown hrd1
      go_wp2_with fail
      refine HCUT.out.mono ?_; rintro e w2 ⟨⟨v2, rfl, hown2⟩, hb2⟩
      obtain ⟨A3, c3, rfl, hc3, hrd3, _, _⟩ := Rd.own' hown2
      have hB2 := below_tr hB hb2
      have HRD3 := hid hrd3
      clear hrd3 hown2 HCUT hc3
      obtain ⟨cs, hcs⟩ : ∃ cs, cs = cutS (l.map form) := ⟨_, rfl⟩
      rw [← hcs] at HRD3 ⊢
      have hcl : cs.length ≤ l.length := by rw [hcs]; have := cut_len (l.map form); simpa using this
      have HCS := hid hcs
      clear hcs
      go_wp2
      go_loopw [1, 9, 10, 30] (fun x vu vn i wr => ∃ (k m : Nat) (A' : Option Addr) (c' : Nat) (ups : List Itm) (nods : List (List UInt8)), k ≤ cs.length ∧ m ≤ l.length ∧ i = .int .i64 (k : Int) ∧ x = .slice A' (l.length - m) c' ∧ l.length - m ≤ c' ∧ Hid (Rd w A' (its (l.drop m))) ∧ ups.length = k ∧ nods.length = k ∧ wr.ownsRow w2.heap.size 63 2 vu ups.length (its ups) ∧ wr.ownsRow w2.heap.size 9 1 vn nods.length (strs nods) ∧ Hid (cs.drop k = cutS ((l.drop m).map form)) ∧ Hid (levelS level l = (ups ++ (levelS level (l.drop m)).1, nods ++ (levelS level (l.drop m)).2)) ∧ Below w2.heap.size w2 wr) (fun _ _ _ i _ => cs.length - (intOf i).toNat)
      case atStart =>
        refine ⟨0, 0, A, c, [], [], by omega, by omega, rfl, rfl, hc, hid H0.out, rfl, rfl, own_nil _ _ _ _, own_nil _ _ _ _, hid HCS.out, hid rfl, below_rf w2⟩
      case round =>
        obtain ⟨k, m, A', c', ups, nods, hk, hm, rfl, rfl, hc', HR, hul, hnl, hou, hon, HC, HL, hB⟩ := hrel
        have hBw := below_tr hB2 hB
        by_cases hlt : k < cs.length
        · obtain ⟨b3, o3, rfl, hq3⟩ := (HRD3.out.below hB).nat hlt
          obtain ⟨hr0, hn1, hn2⟩ := cut_step cs (l.drop m) k hlt HC.out
          have hlev := level_cons level (l.drop m) hr0
          rw [← hn1, List.drop_drop] at hlev
          rw [List.drop_drop] at hn2
          have hple := (part_le ((l.drop m).map form)).1
          have hpos := part_pos ((l.drop m).map form) (by simpa using hr0)
          rw [← hn1, List.length_map, List.length_drop] at hple
          rw [← hn1] at hpos
          obtain ⟨n, hn⟩ : ∃ n, n = nat cs k := ⟨_, rfl⟩
          rw [← hn] at hlev hn2 hple hpos hq3
          have hup := up_any level ((l.drop m).take n) A' c' wr hv (by simp; omega) (by simp; omega) (by rw [its_take]; exact (Rd.below HR.out hBw).take _) (fine_sub l HS.out m n) (fun h0 => val_sub l 40 (HS2.out h0) m n)
          rw [show ((l.drop m).take n).length = n by simp; omega] at hup
          obtain ⟨b, o, rfl, _, _⟩ := rd_itm (Rd.below HR.out hBw) (j := 0) hr0
          have HUP := hid hup
          have HLEV := hid hlev
          have HN2 := hid hn2
          have HUL := hid hul
          have HNL := hid hnl
          have hupl : ups.length ≤ l.length := by omega
          have hnol : nods.length ≤ l.length := by omega
          clear hup hlev hn2 hul hnl hn1 hn hr0
          obtain ⟨xk, hxk⟩ : ∃ xk, xk = lastKey ((l.drop m).take n) := ⟨_, rfl⟩
          obtain ⟨xv, hxv⟩ : ∃ xv, xv = sha (nodeB level ((l.drop m).take n)) ++ be (countS level ((l.drop m).take n)) 8 := ⟨_, rfl⟩
          obtain ⟨nd, hnd⟩ : ∃ nd, nd = nodeB level ((l.drop m).take n) := ⟨_, rfl⟩
          rw [← hxk, ← hxv, ← hnd] at HUP
          have HXK := hid hxk
          have HXV := hid hxv
          have HND := hid hnd
          clear hxk hxv hnd
          go_wp2_with fail
          refine HUP.out.mono ?_; rintro e w5 ⟨rfl, hb5⟩
          have hB5 := below_tr hB hb5
          have hBw5 := below_tr hBw hb5
          have hou5 := own_of_below hou hb5
          have hon5 := own_of_below hon hb5
          have hal : Below w5.heap.size w5 (w5.alloc (Obj.cells #[Value.string (Str xk), Value.string (Str xv)] 63)) := below_al (below_rf w5) _
          have hou6 := own_of_below hou5 hal
          have hon6 := own_of_below hon5 hal
          have hB6 := below_tr hB5 hal
          have hBw6 := below_tr hBw5 hal
          have hz5 : (w5.alloc (Obj.cells #[Value.string (Str xk), Value.string (Str xv)] 63)).heap.size = w5.heap.size + 1 := by simp
          have HZ5 := hid hz5
          clear hou hon hou5 hon5 HUP hz5
          go_wp2_with (first
            | (at_builtin; (refine wpList_appN ti_pair (.tmp 43) (.tmp 45) (by rfl) (by rfl) w2.heap.size [.string (Str xk), .string (Str xv)] 63 1 1 (by rfl) (by rw [HZ5.out]; rfl) hou6 (by rfl) (by simp [Value.oneCell']) hB6 hB6.size (by omega) ?_; intro A2 c2 w7 ho7 hg7 hB7 hsz7; have hon7 := own_grown (own_of_below hon6 (below_al (below_rf _) (Obj.cells #[Value.string (Str xk), Value.string (Str xv)] 63))) hg7 (fun k hk1 hk2 => own_ne hon6 hou6 (by decide) k hk1 hk2)))
            | (at_builtin; (refine wpList_appN ti_str (.tmp 47) (.tmp 49) (by rfl) (by rfl) w2.heap.size [.string (Str nd)] 9 1 1 (by rfl) (by rfl) hon7 (by rfl) (by simp [Value.oneCell']) hB7 hsz7 (by omega) ?_; intro A3 c3 w8 ho8 hg8 hB8 hsz8; have ho9 := own_grown (own_of_below ho7 (below_al (below_rf _) (Obj.cells #[Value.string (Str nd)] 9))) hg8 (fun k hk1 hk2 => own_ne ho7 hon7 (by decide) k hk1 hk2))))
          go_wp2
          go_roundw
          case rel =>
            have hul := HUL.out
            have hnl := HNL.out
            have e1 : l.length - m - n = l.length - (m + n) := by omega
            refine ⟨k + 1, m + n, _, _, ups ++ [(xk, xv)], nods ++ [nd], by omega, by omega, by go_num, by rw [e1], by omega, ?_, by simp; omega, by simp; omega, ?_, ?_, HN2, ?_, hB8⟩
            · by_cases hcn : c' = n
              · refine hid (.inl ?_)
                rw [List.drop_of_length_le (by omega)]; rfl
              · rw [if_neg hcn]
                have := rd_dropN HR.out (n * 2)
                rw [Nat.mul_comm n 2, ← its_drop, List.drop_drop] at this
                rw [Nat.mul_comm n 2]
                exact hid this
            · rw [its_app, List.length_append]; exact ho9
            · rw [← strs_app, List.length_append]; exact ho8
            · refine hid ?_
              rw [HL.out, HLEV.out, HXK.out, HXV.out, HND.out, List.append_assoc, List.append_assoc]
              rfl
          case measure => simp [intOf]; omega
        · obtain rfl : k = cs.length := by omega
          have hr : l.drop m = [] := by
            have h1 := HC.out
            rw [List.drop_length] at h1
            rcases Nat.lt_or_ge 0 (l.drop m).length with h | h
            · rw [cut_cons _ (by simpa using h)] at h1; cases h1
            · exact List.eq_nil_of_length_eq_zero (by omega)
          have hlev := HL.out
          rw [hr, level_nil, List.append_nil, List.append_nil] at hlev
          have HLEV := hid hlev
          clear hlev hr hul hnl
          go_wp2
          go_ret2
          refine ⟨⟨_, _, rfl, ?_, ?_⟩, hBw⟩
          · rw [HLEV.out]; exact own_base hou hB2.size
          · rw [HLEV.out]; exact own_base hon hB2.size
end Go.Proofs.Ytoidbgedpakjmaa.W08
namespace Go.Proofs.Ytoidbgedpakjmaa.W08
open Go.RowKit Go.Proofs.Ytoidbgedpakjmaa.Lib Go.Proofs.Ytoidbgedpakjmaa.Sha Go.Proofs.Ytoidbgedpakjmaa.T07 Go.Proofs.Ytoidbgedpakjmaa.T08 Go.Proofs.Ytoidbgedpakjmaa.QTail Go.Proofs.Ytoidbgedpakjmaa.Bld Go.Proofs.Ytoidbgedpakjmaa.Itms Go.Proofs.Ytoidbgedpakjmaa.W01 Go.Proofs.Ytoidbgedpakjmaa.W07
attribute [local go_sem] Str_size Str_toList Str_extract Str_append Str_get bt_nn bt_lt List.length_append take_rest sha_len two_len
theorem fine_mem {l : List Itm} : Fine l ↔ ∀ x ∈ l, x.1.length ≤ 1000000 ∧ x.2.length ≤ 1000000 := by
  constructor
  · intro h x hx
    obtain ⟨i, hi, rfl⟩ := List.mem_iff_getElem.1 hx
    have := h i hi
    rwa [itm_eq l i hi] at this
  · intro h i hi
    rw [itm_eq l i hi]
    exact h _ (List.getElem_mem hi)
theorem lastKey_le (l : List Itm) (h : ∀ x ∈ l, x.1.length ≤ 1000000 ∧ x.2.length ≤ 1000000) : (lastKey l).length ≤ 1000000 := by
  unfold lastKey
  rw [List.getD_eq_getElem?_getD]
  cases hq : l[l.length - 1]? with
  | none => simp
  | some x => exact (h x (List.mem_of_getElem? hq)).1
theorem levelGo_mem (level : Nat) : ∀ (ns : List Nat) (l : List Itm), (∀ x ∈ l, x.1.length ≤ 1000000 ∧ x.2.length ≤ 1000000) → ∀ x ∈ (levelGo level ns l).1, x.1.length ≤ 1000000 ∧ x.2.length = 40
  | [], l, _, x, hx => by simp [levelGo] at hx
  | n :: ns, l, h, x, hx => by
    simp only [levelGo] at hx
    rcases List.mem_cons.1 hx with rfl | hx
    · exact ⟨lastKey_le _ (fun y hy => h y (List.mem_of_mem_take hy)), by simp [upS, sha_len, be_len]⟩
    · exact levelGo_mem level ns (l.drop n) (fun y hy => h y (List.mem_of_mem_drop hy)) x hx
theorem level_fine (level : Nat) (l : List Itm) (h : Fine l) : Fine (levelS level l).1 ∧ ∀ i, i < (levelS level l).1.length → (itm (levelS level l).1 i).2.length = 40 := by
  have hm := levelGo_mem level (cutS (l.map form)) l (fine_mem.1 h)
  refine ⟨fine_mem.2 fun x hx => ?_, fun i hi => ?_⟩
  · have := hm x hx; omega
  · rw [itm_eq _ i hi]; exact (hm _ (List.getElem_mem hi)).2
theorem Rd_len0 {w : World} {A : Option Addr} (xs : List Value) (h : xs = []) : Rd w A xs := .inl h
set_option maxHeartbeats 1600000 in
set_option maxRecDepth 100000 in
theorem rise_any (level : Nat) (l : List Itm) (A : Option Addr) (c : Nat) (w : World) (h1 : 1 ≤ level) (hv : level ≤ 1000000) (hc : l.length ≤ c) (hl0 : 0 < l.length) (hl : l.length ≤ 1000000) (hrd : Rd w A (its l)) (hs : Fine l) (hs2 : ∀ i, i < l.length → (itm l i).2.length = 40) :
    Calls Try.prog 24 #[.int .i64 (level : Int), .slice A l.length c] w fun e w' => (∃ v2, e = .returned (.tuple #[.string (Str (riseS level l).1), v2]) ∧ w'.ownsRow w.heap.size 9 1 v2 (riseS level l).2.length (strs (riseS level l).2)) ∧ Below w.heap.size w w' := by
  have HS := hid hs
  have HS2 := hid hs2
  have H0 := hid hrd
  clear hs hs2 hrd
  go_enter Try.func24, Try.ntmps24
  go_wp2_with fail
  go_loopw [0, 1, 6] (fun zl x v wr => ∃ (lv : Nat) (cur : List Itm) (A' : Option Addr) (c' : Nat) (acc : List (List UInt8)), 1 ≤ lv ∧ lv + cur.length ≤ level + l.length ∧ 0 < cur.length ∧ acc.length + cur.length * 1000000 ≤ l.length * 1000000 ∧ zl = .int .i64 (lv : Int) ∧ x = .slice A' cur.length c' ∧ cur.length ≤ c' ∧ Hid (Rd wr A' (its cur)) ∧ Hid (Fine cur) ∧ Hid (∀ i, i < cur.length → (itm cur i).2.length = 40) ∧ wr.ownsRow w.heap.size 9 1 v acc.length (strs acc) ∧ Hid (riseS level l = ((riseS lv cur).1, acc ++ (riseS lv cur).2)) ∧ Below w.heap.size w wr) (fun _ x _ _ => slcLen x)
  case atStart => exact ⟨level, l, A, c, [], h1, by omega, hl0, by simp, rfl, rfl, hc, H0, HS, HS2, own_nil _ _ _ _, hid rfl, below_rf w⟩
  case round =>
    obtain ⟨lv, cur, A', c', acc, hlv, hlc, hc0, hac, rfl, rfl, hcc, HR, HF, HV, hown, HE, hB⟩ := hrel
    by_cases hone : cur.length = 1
    · have hr := rise_one lv cur hone
      obtain ⟨b, o, rfl, hq1, hq2⟩ := rd_itm HR.out (j := 0) hc0
      have hv40 := HV.out 0 hc0
      have e9 : riseS level l = ((itm cur 0).2.take 32, acc) := by
        rw [HE.out, hr, List.append_nil]; rfl
      have E9 := hid e9
      obtain ⟨q, hq⟩ : ∃ q, q = (itm cur 0).2 := ⟨_, rfl⟩
      rw [← hq] at hv40 hq2 E9
      have hb1 : ((cur.length : Int) == 1) = true := beq_iff_eq.2 (by omega)
      rw [Nat.zero_mul, Nat.add_zero] at hq2
      clear hr e9 hq hq1
      go_wp2
      go_ret2
      rw [E9.out]
      refine ⟨⟨_, rfl, hown⟩, hB⟩
    · have hm2 : 2 ≤ cur.length := by omega
      have hrm := rise_more lv cur hm2
      have hll := level_len lv cur
      have hll2 := level_len2 lv cur
      have hcl := cut_lt (cur.map form) (by simpa using hm2)
      have hcp := cut_pos (cur.map form) (by simp; omega)
      rw [List.length_map] at hcl
      obtain ⟨hf1, hf2⟩ := level_fine lv cur HF.out
      have hb1 : ((cur.length : Int) == 1) = false := beq_eq_false_iff_ne.2 (by omega)
      have hlev := level_any lv cur A' c' wr (by omega) hcc (by omega) HR.out HF.out (fun _ => HV.out)
      obtain ⟨up, hup⟩ : ∃ up, up = (levelS lv cur).1 := ⟨_, rfl⟩
      obtain ⟨mk, hmk⟩ : ∃ mk, mk = (levelS lv cur).2 := ⟨_, rfl⟩
      rw [← hup] at hrm hll hf1 hf2 hlev
      rw [← hmk] at hrm hll2 hlev
      rw [← hll] at hcl hcp
      rw [← hll] at hll2
      have HLEV := hid hlev
      have HRM := hid hrm
      have HL2 := hid hll2
      have HF1 := hid hf1
      have HF2 := hid hf2
      have hmkl : mk.length ≤ 1000000 := by omega
      clear hlev hrm hll hll2 hf1 hf2 hup hmk
      go_wp2_with fail
      refine HLEV.out.mono ?_; rintro e w2 ⟨⟨v1, v2, rfl, ho1, ho2⟩, hb2⟩
      obtain ⟨A2, c2, rfl, hc2, hrd2, hA2, hsp2⟩ := Rd.own' ho2
      have hown2 := own_of_below hown hb2
      have hB2 := below_tr hB hb2
      go_wp2_with (at_builtin; (refine wpList_appS ti_str (.tmp 18) (.tmp 19) (by rfl) (by rfl) w.heap.size A2 mk.length c2 (strs mk) (by rfl) (by rfl) hown2 (by rw [strs_len, Nat.mul_one]) hrd2 hA2 hsp2 (strs_one mk) hB2 hB2.size (by omega) ?_; intro v' w3 ho3 hg3 hv3 hB3 hs3))
      obtain ⟨A4, c4, rfl, hc4, hrd4, _, _⟩ := Rd.own' (own_grown ho1 hg3 (fun k hk1 hk2 => own_ne hown2 ho1 (by decide) k hk2 hk1))
      go_wp2
      go_roundw
      case rel =>
        have hll := HL2.out
        refine ⟨lv + 1, up, A4, c4, acc ++ mk, by omega, by omega, hcp, by simp; omega, by go_num, rfl, hc4, hid hrd4, HF1, HF2, ?_, ?_, hB3⟩
        · rw [← strs_app, List.length_append]; exact ho3
        · refine hid ?_
          rw [HE.out, HRM.out, List.append_assoc]
      case measure => exact hcl
end Go.Proofs.Ytoidbgedpakjmaa.W08
