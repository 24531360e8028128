/- The walks of layer 8: nodes as bytes, counts, levels. -/
import Derived.Test.YtidbaagdajkojaaW08
import Derived.Test.YtidbaagdajkojaaItm
set_option linter.unusedVariables false
set_option linter.unusedSimpArgs false
namespace Go.Proofs.Ytidbaagdajkojaa.W08
open Go.RowKit Go.Proofs.Ytidbaagdajkojaa.Lib Go.Proofs.Ytidbaagdajkojaa.Sha Go.Proofs.Ytidbaagdajkojaa.T07 Go.Proofs.Ytidbaagdajkojaa.T08 Go.Proofs.Ytidbaagdajkojaa.QTail Go.Proofs.Ytidbaagdajkojaa.Bld Go.Proofs.Ytidbaagdajkojaa.Itms
attribute [local go_sem] Str_mk Str_size Str_toList Str_extract Str_append Str_get bt_nn bt_lt List.length_append take_rest sha_len two_len
theorem wrap_u64 (x : Int) : IntKind.u64.wrap x = x % 18446744073709551616 := rfl
theorem bt_bat (l : List UInt8) (i : Nat) : bt l i = ((bat l i).toNat : Int) := rfl
theorem told_any (v : List UInt8) (w : World) (hv : v.length = 40) :
    Calls Try.prog 60 #[.string (Str v)] w fun e w' => e = .returned (.int .u64 (told v : Nat)) ∧ w' = w := by
  go_enter Try.func60, Try.ntmps60
  go_wp2
  go_loopw [3, 5] (fun n i wr => ∃ k : Nat, k ≤ 8 ∧ i = .int .i64 (k : Int) ∧ n = .int .u64 (toldGo v k : Nat) ∧ wr = w) (fun _ i _ => 8 - (intOf i).toNat)
  case atStart => exact ⟨0, by omega, rfl, rfl, rfl⟩
  case round =>
    obtain ⟨k, hk, rfl, rfl, rfl⟩ := hrel
    by_cases hlt : k < 8
    · have hb := toldGo_lt v k
      have hj : bits .or .u64 (IntKind.u64.wrap (((toldGo v k : Nat) : Int) * 256)) (IntKind.u64.wrap (bt v (32 + k))) = ((toldGo v (k + 1) : Nat) : Int) := by
        have hk7 : (256 : Nat) ^ k ≤ 256 ^ 7 := Nat.pow_le_pow_right (by decide) (by omega)
        have e7 : (256 : Nat) ^ 7 = 72057594037927936 := by decide
        have h0 := bt_nn v (32 + k)
        have h1 := bt_lt v (32 + k)
        have w1 : IntKind.u64.wrap (((toldGo v k : Nat) : Int) * 256) = ((toldGo v k : Nat) : Int) * 256 := by rw [wrap_u64]; omega
        have w2 : IntKind.u64.wrap (bt v (32 + k)) = bt v (32 + k) := by rw [wrap_u64]; omega
        rw [w1, w2, bits_join .u64 64 (by decide) (fun n h0 h1 => by rw [wrap_u64]; omega) 8 _ _ (by omega) (by omega) (by omega) h0 (by omega) (by omega)]
        rw [toldGo, bt_bat]
        omega
      go_wp2
      go_roundw
      case rel => exact ⟨k + 1, by omega, by go_num, rfl, trivial⟩
      case measure => simp [intOf]; omega
    · obtain rfl : k = 8 := by omega
      go_wp2
      go_ret
      exact ⟨rfl, rfl⟩
theorem sum_snoc (l : List Itm) (k : Nat) (h : k < l.length) : ((l.take (k + 1)).map fun x => told x.2).sum = ((l.take k).map fun x => told x.2).sum + told (itm l k).2 := by
  rw [take_itm l k h]; simp
set_option maxHeartbeats 800000 in
theorem count_any (level : Nat) (l : List Itm) (A : Option Addr) (c : Nat) (w : World) (hl : l.length ≤ 1000000000) (hrd : Rd w A (its l)) (hs : 0 < level → ∀ i, i < l.length → (itm l i).2.length = 40) :
    Calls Try.prog 79 #[.agg #[.int .i64 (level : Int), .slice A l.length c]] w fun e w' => e = .returned (.int .u64 (countS level l : Nat)) ∧ Below w.heap.size w w' := by
  go_enter Try.func79, Try.ntmps79
  by_cases h0 : level = 0
  · subst h0
    go_wp2
    go_ret
    refine ⟨?_, below_al (below_rf w) _⟩
    rfl
  · have hb0 : ((level : Int) == 0) = false := beq_eq_false_iff_ne.2 (by omega)
    go_wp2
    go_loopw [3, 16] (fun n i wr => ∃ k : Nat, k ≤ l.length ∧ i = .int .i64 (k : Int) ∧ n = .int .u64 ((((l.take k).map fun x => told x.2).sum % 18446744073709551616 : Nat) : Int) ∧ Below w.heap.size w wr) (fun _ i _ => l.length - (intOf i).toNat)
    case atStart => exact ⟨0, by omega, rfl, rfl, below_al (below_rf w) _⟩
    case round =>
      obtain ⟨k, hk, rfl, rfl, hB⟩ := hrel
      by_cases hlt : k < l.length
      · obtain ⟨b, o, rfl, hc1, hc2⟩ := rd_itm (Rd.below hrd hB) hlt
        go_wp2_with fail
        refine (told_any _ _ (hs (by omega) k hlt)).mono ?_; rintro e w1 ⟨rfl, rfl⟩
        have e9 : IntKind.u64.wrap (((((l.take k).map fun x => told x.2).sum % 18446744073709551616 : Nat) : Int) + ((told (itm l k).2 : Nat) : Int)) = ((((l.take (k + 1)).map fun x => told x.2).sum % 18446744073709551616 : Nat) : Int) := by
          rw [wrap_u64, sum_snoc l k hlt]; omega
        obtain ⟨S, hS⟩ : ∃ S, S = ((l.take k).map fun x => told x.2).sum := ⟨_, rfl⟩
        obtain ⟨S', hS'⟩ : ∃ S', S' = ((l.take (k + 1)).map fun x => told x.2).sum := ⟨_, rfl⟩
        rw [← hS, ← hS'] at e9
        rw [← hS]
        have HS := hid hS'
        clear hS hS'
        go_wp2
        go_roundw
        case rel => exact ⟨k + 1, by omega, by go_num, by rw [← HS.out, ← e9, Int.natCast_emod]; rfl, below_al hB _⟩
        case measure => simp [intOf]; omega
      · obtain rfl : k = l.length := by omega
        rw [List.take_length]
        go_wp2
        go_ret
        refine ⟨?_, hB⟩
        rw [countS, if_neg h0]
        rfl
theorem heap_old (w : World) (o : Obj) {r : Nat} (h : r < w.heap.size) : (w.alloc o).heap[r]? = w.heap[r]? := by
  show (w.heap.push o)[r]? = _
  rw [Array.getElem?_push_lt h, Array.getElem?_eq_getElem h]
theorem heap_new (w : World) (o : Obj) : (w.alloc o).heap[w.heap.size]? = some o := by
  show (w.heap.push o)[w.heap.size]? = _
  simp
theorem heap_new' (w : World) (o : Obj) {r : Nat} (h : r = w.heap.size) : (w.alloc o).heap[r]? = some o := by subst h; exact heap_new w o
theorem flat_snoc (l : List Itm) (k : Nat) (h : k < l.length) : ((l.take (k + 1)).map form).flatten = ((l.take k).map form).flatten ++ form (itm l k) := by
  rw [take_itm l k h]; simp
def Fine (l : List Itm) : Prop := ∀ i, i < l.length → (itm l i).1.length ≤ 1000000 ∧ (itm l i).2.length ≤ 1000000
theorem flat_len (l : List Itm) (h : Fine l) : ∀ k, k ≤ l.length → ((l.take k).map form).flatten.length ≤ 2000004 * k := by
  intro k
  induction k with
  | zero => intro _; simp
  | succ k ih =>
    intro hk
    have h1 := ih (by omega)
    obtain ⟨h2, h3⟩ := h k (by omega)
    rw [flat_snoc l k (by omega), List.length_append, form_len]
    omega
set_option maxRecDepth 100000 in
set_option maxHeartbeats 1600000 in
theorem bytes_any (level : Nat) (l : List Itm) (A : Option Addr) (c : Nat) (w : World) (hv : level ≤ 1000000000) (hl : l.length ≤ 1000000) (hrd : Rd w A (its l)) (hs : Fine l) :
    Calls Try.prog 23 #[.agg #[.int .i64 (level : Int), .slice A l.length c]] w fun e w' => e = .returned (.string (Str (nodeB level l))) ∧ Below w.heap.size w w' := by
  have HS := hid hs
  have H0 := hid hrd
  clear hs hrd
  obtain ⟨w3, hw3⟩ : ∃ w3, w3 = ((w.alloc (Obj.cells #[Value.int IntKind.i64 level, Value.slice A l.length c] 58)).alloc (Obj.cells #[Value.pointer none, Value.slice none 0 0] 93)).alloc (Obj.cells #[Value.int IntKind.u8 80, Value.int IntKind.u8 ((level : Int) % 256), Value.int IntKind.u8 ((l.length : Int) % 256)] 5) := ⟨_, rfl⟩
  have z3 : w3.heap.size = w.heap.size + 1 + 1 + 1 := by rw [hw3]; simp
  have hb3 : Below w.heap.size w w3 := by rw [hw3]; exact below_al (below_al (below_al (below_rf w) _) _) _
  have hbox : w3.heap[w.heap.size]? = some (Obj.cells #[Value.int IntKind.i64 level, Value.slice A l.length c] 58 (0, 0)) := by
    rw [hw3, heap_old _ _ (by simp; omega), heap_old _ _ (by simp), heap_new]
  have hbld : w3.heap[w.heap.size + 1]? = some (Obj.cells #[Value.pointer none, Value.slice none 0 0] 93 (0, 0)) := by
    rw [hw3, heap_old _ _ (by simp)]
    exact heap_new' _ _ (by simp)
  have hrow : Rd w3 (some ⟨w.heap.size + 1 + 1, 0, none⟩) (byts (nodeHead level l.length)) := by
    refine .inr ⟨_, _, rfl, fun j x hj => ?_⟩
    have e : byts (nodeHead level l.length) = [Value.int IntKind.u8 80, Value.int IntKind.u8 ((level : Int) % 256), Value.int IntKind.u8 ((l.length : Int) % 256)] := by
      simp only [byts, nodeHead, List.map_cons, List.map_nil]
      rw [u8_toNat _ (by omega), u8_toNat _ (by omega)]; rfl
    rw [e] at hj
    rw [hw3, World.cell?_alloc_at _ _ _ _ (by simp), Nat.zero_add, ← hj]
    simp
  have hib : IsB (w.heap.size + 1) (w.heap.size + 1) [] w3 := .inl ⟨Nat.le_refl _, _, hbld, own_nil _ _ _ _, by simp [Value.ownBlock]⟩
  have hw := (wbytes_any (w.heap.size + 1) (w.heap.size + 1) [] (nodeHead level l.length) (some ⟨w.heap.size + 1 + 1, 0, none⟩) 3 w3 hib hrow (by simp [nodeHead]) (by omega) (by intro a h; injection h with h; subst h; simp) (by simp) (by intro a h; injection h with h; subst h; rfl))
  have HW := hid hw
  have HW3 := hid hw3
  clear hw
  go_enter Try.func23, Try.ntmps23
  go_wp2_with fail
  rw [← hw3]
  refine HW.out.mono ?_; rintro e w4 ⟨rfl, hI4, hB4⟩
  have c0 : w4.cell? ⟨w.heap.size, 0, none⟩ = some (Value.int IntKind.i64 level) := by
    rw [hB4.cell (p := ⟨w.heap.size, 0, none⟩) (Nat.lt_succ_self _)]; rw [Go.Lib.cell_of_heap hbox]; rfl
  have c1 : w4.cell? ⟨w.heap.size, 1, none⟩ = some (Value.slice A l.length c) := by
    rw [hB4.cell (p := ⟨w.heap.size, 1, none⟩) (Nat.lt_succ_self _)]; rw [Go.Lib.cell_of_heap hbox]; rfl
  have hb4 : Below w.heap.size w w4 := hb3.trans (hB4.mono (Nat.le_succ _))
  have h4s : w.heap.size + 1 ≤ w4.heap.size := Nat.le_trans (by rw [z3]; omega) hB4.size
  have HI4 := hid hI4
  have HX := hid hbox
  clear hib hrow hbld hbox hB4 hI4 hw3 z3 hb3
  obtain ⟨B, hB⟩ : ∃ B, B = w.heap.size + 1 := ⟨_, rfl⟩
  rw [← hB] at h4s HI4 ⊢
  have HB := hid hB
  clear hB HW
  go_wp2
  go_loopw [18] (fun i wr => ∃ k : Nat, k ≤ l.length ∧ i = .int .i64 (k : Int) ∧ Hid (IsB B B (nodeHead level l.length ++ ((l.take k).map form).flatten) wr) ∧ Below B w4 wr) (fun i _ => l.length - (intOf i).toNat)
  case atStart => exact ⟨0, by omega, rfl, by simpa using HI4, below_rf w4 |>.mono h4s⟩
  case round =>
    obtain ⟨k, hk, rfl, HI, hBr⟩ := hrel
    have hbr : Below w.heap.size w wr := hb4.trans (hBr.mono (by rw [HB.out]; omega))
    have hsr : B ≤ wr.heap.size := Nat.le_trans h4s hBr.size
    by_cases hlt : k < l.length
    · obtain ⟨b, o, rfl, hc1, hc2⟩ := rd_itm (Rd.below H0.out hbr) hlt
      obtain ⟨f1, f2⟩ := HS.out k hlt
      have hfl := flat_len l HS.out k hk
      have HF := hid hfl
      clear hfl
      go_wp2_with fail
      refine (form_any (itm l k) _ (by omega) (by omega)).mono ?_; rintro e w5 ⟨rfl, hb5⟩
      have hb5' := below_tr (below_al (below_rf wr) _) hb5
      have HI5 := hid (isb_below HI.out hb5')
      have hB5 : Below B w4 w5 := hBr.trans (hb5'.mono hsr)
      go_wp2_with fail
      have hh := wstr_any B B _ (form (itm l k)) w5 HI5.out (by have := HF.out; have := form_len (itm l k); simp only [List.length_append, nodeHead, List.length_cons, List.length_nil] at *; omega) (Nat.le_trans hsr hb5'.size)
      refine hh.mono ?_; rintro e w6 ⟨rfl, hI6, hB6⟩
      rw [List.append_assoc, ← flat_snoc l k hlt] at hI6
      have HI6 := hid hI6
      clear hI6 hh
      go_wp2
      go_roundw
      case rel => exact ⟨k + 1, by omega, by go_num, HI6, hB5.trans hB6⟩
      case measure => simp [intOf]; omega
    · obtain rfl : k = l.length := by omega
      rw [List.take_length] at HI
      go_wp2_with fail
      refine (wstring_any B B _ _ HI.out hsr).mono ?_; rintro e w5 ⟨rfl, hb5⟩
      go_wp2
      go_ret
      exact ⟨rfl, hbr.trans (hb5.mono (by rw [HB.out]; omega))⟩
end Go.Proofs.Ytidbaagdajkojaa.W08
