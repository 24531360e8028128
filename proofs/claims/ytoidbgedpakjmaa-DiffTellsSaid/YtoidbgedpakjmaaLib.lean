/- Words that all walks use: texts as lists of bytes, words of 32 bits, rows that are read, worlds that grow. -/
import Derived.WalkKit
import Derived.KernelRfl
import Derived.Deep.QuietTactic
import Derived.Deep.RegionWith
import Derived.BigQuiet
import Derived.WalkSpells
import Derived.WalkLawsBesides
import Derived.Laws.BitsAllLaws
import Derived.Laws.BytesArg
import Derived.Maps.AppendAt
import Derived.OwnWalk
import Derived.Lib.ConvBytes
set_option linter.unusedVariables false
set_option linter.unusedSimpArgs false
namespace Go.Proofs.Ytoidbgedpakjmaa.Lib
open Go.RowKit
theorem hid {p : Prop} (h : p) : Hid p := h
/-- A word of 32 bits as the machine's number. -/
@[irreducible] def V (v : BitVec 32) : Int := v.toNat
theorem V_def (v : BitVec 32) : V v = (v.toNat : Int) := by unfold V; rfl
theorem V_lt (v : BitVec 32) : V v < 4294967296 := by rw [V_def]; have := v.isLt; omega
theorem V_nn (v : BitVec 32) : 0 ≤ V v := by rw [V_def]; omega
theorem V_inj {a b : BitVec 32} (h : V a = V b) : a = b := by rw [V_def, V_def] at h; exact BitVec.eq_of_toNat_eq (by omega)
theorem V_of (n : Nat) (h : n < 4294967296) : (n : Int) = V (BitVec.ofNat 32 n) := by rw [V_def, BitVec.toNat_ofNat, Nat.mod_eq_of_lt (by omega)]
theorem bx (a b : BitVec 32) : bits .xor .u32 (V a) (V b) = V (a ^^^ b) := by
  simp only [V_def]; rw [u32_xor_nat _ _ a.isLt b.isLt, BitVec.toNat_xor]
theorem ba (a b : BitVec 32) : bits .and .u32 (V a) (V b) = V (a &&& b) := by
  simp only [V_def]; rw [u32_and_nat _ _ a.isLt b.isLt, BitVec.toNat_and]
theorem bo (a b : BitVec 32) : bits .or .u32 (V a) (V b) = V (a ||| b) := by
  simp only [V_def]; rw [u32_or_nat _ _ a.isLt b.isLt, BitVec.toNat_or]
theorem bneg (a : BitVec 32) : -(V a) % 4294967296 = V (-a) := by
  simp only [V_def]; rw [BitVec.toNat_neg]; have := a.isLt; omega
theorem bshr1 (a : BitVec 32) : V a / (2 : Int) = V (a >>> 1) := by
  simp only [V_def]; rw [BitVec.toNat_ushiftRight, Nat.shiftRight_eq_div_pow]; omega
theorem bshr4 (a : BitVec 32) : V a / (16 : Int) = V (a >>> 4) := by
  simp only [V_def]; rw [BitVec.toNat_ushiftRight, Nat.shiftRight_eq_div_pow]; omega
theorem bmod (a : BitVec 32) : V a % 4294967296 = V a := by simp only [V_def]; have := a.isLt; omega

/-- A text, by its bytes. -/
@[irreducible] def Str (l : List UInt8) : ByteArray := ⟨l.toArray⟩
theorem Str_def (l : List UInt8) : Str l = ⟨l.toArray⟩ := by unfold Str; rfl
theorem Str_of (s : ByteArray) : s = Str s.data.toList := by rw [Str_def]
theorem Str_mk (l : List UInt8) : (ByteArray.mk l.toArray) = Str l := (Str_def l).symm
theorem Str_nil : Str [] = ⟨#[]⟩ := by rw [Str_def]
theorem Str_size (l : List UInt8) : (Str l).size = l.length := by rw [Str_def]; rfl
theorem Str_toList (l : List UInt8) : (Str l).toList = l := by rw [Str_def]; exact ByteArray.toList_mk l
theorem Str_data (l : List UInt8) : (Str l).data = l.toArray := by rw [Str_def]
theorem Str_extract (l : List UInt8) (a b : Nat) : (Str l).extract a b = Str ((l.drop a).take (b - a)) := by
  rw [Str_def, Str_def]; exact ByteArray.extract_mk l a b
theorem take_rest (l : List UInt8) (a : Nat) : (l.drop a).take (l.length - a) = l.drop a := List.take_of_length_le (by simp)
theorem Str_append (a b : List UInt8) : Str a ++ Str b = Str (a ++ b) := by
  rw [Str_def, Str_def, Str_def]; exact ByteArray.mk_append_mk a b
theorem Str_inj {a b : List UInt8} (h : Str a = Str b) : a = b := by
  have := congrArg ByteArray.toList h; rwa [Str_toList, Str_toList] at this
/-- byte i -/
def bat (l : List UInt8) (i : Nat) : UInt8 := l.getD i 0
/-- byte i, as the machine's number -/
def bt (l : List UInt8) (i : Nat) : Int := ((l.getD i 0).toNat : Int)
theorem bt_nn (l : List UInt8) (i : Nat) : 0 ≤ bt l i := by unfold bt; omega
theorem bt_lt (l : List UInt8) (i : Nat) : bt l i < 256 := by unfold bt; have := (l.getD i 0).toNat_lt; omega
theorem Str_get (l : List UInt8) (i : Nat) (h : i < (Str l).size) : (((Str l)[i]'h).toNat : Int) = bt l i := by
  have h2 : i < l.length := by rw [Str_size] at h; exact h
  unfold bt
  rw [List.getD_eq_getElem?_getD, List.getElem?_eq_getElem h2, Option.getD_some]
  congr 2
  simp only [Str_def]
  show (l.toArray)[i] = _
  simp
/-- A byte out of the machine's number. -/
def u8 (n : Int) : UInt8 := UInt8.ofNat n.toNat
theorem u8_mod (n : Int) (h : 0 ≤ n) : u8 (n % 256) = u8 n := by
  unfold u8; rw [show (n % 256).toNat = n.toNat % 256 by omega]; apply UInt8.toNat_inj.1; simp
theorem u8_toNat (n : Int) (h : 0 ≤ n) : ((u8 n).toNat : Int) = n % 256 := by
  unfold u8; rw [UInt8.toNat_ofNat']; simp; omega
theorem u8_of (b : UInt8) : u8 (b.toNat : Int) = b := by unfold u8; simp
theorem conv_bytes {P : Program} (W : World) (src e dst : TypeId) (hs : P.underlying src = some (.slice e)) (he : P.underlying e = some (.int .u8)) (hd : P.underlying dst = some .string)
    (b off len cap : Nat) (xs : List Int) (hlen : xs.length = len) (hc : ∀ i, i < len → W.cell? ⟨b, off + i, none⟩ = some (.int .u8 (xs.getD i 0))) :
    (convert src dst (.slice (some ⟨b, off, none⟩) len cap)).run P W = .ok (.string (Str (xs.map u8))) W := by
  rw [run_convert_bytes_arg W src e hs he b off len cap xs hlen hc dst hd, Str_def]; rfl
theorem conv_new {P : Program} (w : World) (src e dst t : TypeId) (hs : P.underlying src = some (.slice e)) (he : P.underlying e = some (.int .u8)) (hd : P.underlying dst = some .string) (ns : List Int) (c : Nat) :
    (convert src dst (.slice (some ⟨w.heap.size, 0, none⟩) ns.length c)).run P (w.alloc (.cells (ns.map (Value.int .u8)).toArray t)) = .ok (.string (Str (ns.map u8))) (w.alloc (.cells (ns.map (Value.int .u8)).toArray t)) := by
  refine conv_bytes _ src e dst hs he hd _ _ _ _ ns rfl fun i hi => ?_
  rw [World.cell?_alloc_at _ _ _ _ rfl]
  simp [List.getElem?_eq_getElem hi]
theorem conv1 {P : Program} (w : World) (src e dst t : TypeId) (hs : P.underlying src = some (.slice e)) (he : P.underlying e = some (.int .u8)) (hd : P.underlying dst = some .string) (a : Int) (c : Nat) :
    (convert src dst (.slice (some ⟨w.heap.size, 0, none⟩) 1 c)).run P (w.alloc (.cells #[.int .u8 a] t)) = .ok (.string (Str [u8 a])) (w.alloc (.cells #[.int .u8 a] t)) := conv_new w src e dst t hs he hd [a] c
theorem conv2 {P : Program} (w : World) (src e dst t : TypeId) (hs : P.underlying src = some (.slice e)) (he : P.underlying e = some (.int .u8)) (hd : P.underlying dst = some .string) (a b : Int) (c : Nat) :
    (convert src dst (.slice (some ⟨w.heap.size, 0, none⟩) 2 c)).run P (w.alloc (.cells #[.int .u8 a, .int .u8 b] t)) = .ok (.string (Str [u8 a, u8 b])) (w.alloc (.cells #[.int .u8 a, .int .u8 b] t)) := conv_new w src e dst t hs he hd [a, b] c
theorem conv3 {P : Program} (w : World) (src e dst t : TypeId) (hs : P.underlying src = some (.slice e)) (he : P.underlying e = some (.int .u8)) (hd : P.underlying dst = some .string) (a b d : Int) (c : Nat) :
    (convert src dst (.slice (some ⟨w.heap.size, 0, none⟩) 3 c)).run P (w.alloc (.cells #[.int .u8 a, .int .u8 b, .int .u8 d] t)) = .ok (.string (Str [u8 a, u8 b, u8 d])) (w.alloc (.cells #[.int .u8 a, .int .u8 b, .int .u8 d] t)) := conv_new w src e dst t hs he hd [a, b, d] c
theorem conv4 {P : Program} (w : World) (src e dst t : TypeId) (hs : P.underlying src = some (.slice e)) (he : P.underlying e = some (.int .u8)) (hd : P.underlying dst = some .string) (a b d f : Int) (c : Nat) :
    (convert src dst (.slice (some ⟨w.heap.size, 0, none⟩) 4 c)).run P (w.alloc (.cells #[.int .u8 a, .int .u8 b, .int .u8 d, .int .u8 f] t)) = .ok (.string (Str [u8 a, u8 b, u8 d, u8 f])) (w.alloc (.cells #[.int .u8 a, .int .u8 b, .int .u8 d, .int .u8 f] t)) := conv_new w src e dst t hs he hd [a, b, d, f] c

theorem below_tr {a b c : World} (h : Below a.heap.size a b) (k : Below b.heap.size b c) : Below a.heap.size a c := h.trans (k.mono h.size)
theorem below_drewN {B : Nat} {w W : World} (h : Below B w W) (n : Nat) : Below B w (W.drewN n) := ⟨h.os, h.tape, h.output, h.size, h.block⟩
theorem below_al {w W : World} (h : Below w.heap.size w W) (o : Obj) : Below w.heap.size w (W.alloc o) := h.alloc h.size o
theorem below_rf (w : World) : Below w.heap.size w w := Below.refl _ _

/-- What a slice's cells hold, from its first one on. -/
def Rd (w : World) (A : Option Addr) (xs : List Value) : Prop := xs = [] ∨ ∃ b o, A = some ⟨b, o, none⟩ ∧ ∀ j x, xs[j]? = some x → w.cell? ⟨b, o + j, none⟩ = some x
theorem Rd.at {w : World} {A : Option Addr} {xs : List Value} (h : Rd w A xs) {j : Nat} (hj : j < xs.length) : ∃ b o, A = some ⟨b, o, none⟩ ∧ w.cell? ⟨b, o + j, none⟩ = some xs[j] := by
  rcases h with rfl | ⟨b, o, rfl, hc⟩
  · simp at hj
  · exact ⟨b, o, rfl, hc j _ (List.getElem?_eq_getElem hj)⟩
theorem Rd.below {w w1 : World} {A : Option Addr} {xs : List Value} (h : Rd w A xs) (hb : Below w.heap.size w w1) : Rd w1 A xs := by
  rcases h with rfl | ⟨b, o, rfl, hc⟩
  · exact .inl rfl
  · exact .inr ⟨b, o, rfl, fun j x hx => (hb.cell (World.block_lt_of_cell? _ _ (hc j x hx))).trans (hc j x hx)⟩
theorem Rd.nil (w : World) (A : Option Addr) : Rd w A [] := .inl rfl
theorem Rd.drewN {w : World} {A : Option Addr} {xs : List Value} (h : Rd w A xs) (n : Nat) : Rd (w.drewN n) A xs := h
theorem Rd.own {w : World} {base n : Nat} {e : TypeId} {size : Nat} {v : Value} {xs : List Value} (h : w.ownsRow base e size v n xs) : ∃ A c, v = .slice A n c ∧ n ≤ c ∧ Rd w A xs := by
  rcases h.2 with ⟨rfl, rfl⟩ | ⟨g, cap, cur, rfl, _, hh, h1, _, _, h4⟩
  · have h1 := h.1
    simp at h1
    exact ⟨none, 0, rfl, Nat.le_refl _, .inl h1⟩
  · refine ⟨_, cap, rfl, h1, .inr ⟨g, 0, rfl, fun j x hx => ?_⟩⟩
    rw [← h4] at hx
    have hx' := List.getElem?_take_of_lt (l := cur.toList) (i := j) (j := n * size) (by
      rcases Nat.lt_or_ge j (n * size) with h | h
      · exact h
      · rw [List.getElem?_eq_none (by simp; omega)] at hx; exact absurd hx (by simp))
    rw [hx'] at hx
    unfold World.cell?
    simp only [hh, Nat.zero_add, Option.isSome_none, Bool.false_eq_true, if_false]
    simpa using hx
theorem own_nil (W : World) (base : Nat) (e : TypeId) (size : Nat) : W.ownsRow base e size (.slice none 0 0) 0 [] := ⟨by simp, .inl ⟨rfl, rfl⟩⟩
theorem own_of_below {w w1 : World} {base : Nat} {e : TypeId} {size n : Nat} {v : Value} {xs : List Value} (h : w.ownsRow base e size v n xs) (hb : Below w.heap.size w w1) : w1.ownsRow base e size v n xs :=
  h.kept ⟨hb.os, hb.tape, hb.output, hb.size, fun i hi _ => hb.block i hi⟩ (row := none) (by cases v.ownBlock <;> simp)
/-- texts as cells -/
def strs (l : List (List UInt8)) : List Value := l.map fun x => .string (Str x)
theorem strs_len (l : List (List UInt8)) : (strs l).length = l.length := by simp [strs]
def sat (l : List (List UInt8)) (i : Nat) : List UInt8 := l.getD i []
theorem strs_get (l : List (List UInt8)) (i : Nat) (h : i < (strs l).length) : (strs l)[i] = .string (Str (sat l i)) := by
  have h2 : i < l.length := by rw [strs_len] at h; exact h
  simp [strs, sat, List.getD_eq_getElem?_getD, List.getElem?_eq_getElem h2]
theorem Rd.str {w : World} {A : Option Addr} {l : List (List UInt8)} (h : Rd w A (strs l)) {j : Nat} (hj : j < l.length) : ∃ b o, A = some ⟨b, o, none⟩ ∧ w.cell? ⟨b, o + j, none⟩ = some (.string (Str (sat l j))) := by
  obtain ⟨b, o, h1, h2⟩ := h.at (j := j) (by rw [strs_len]; exact hj)
  exact ⟨b, o, h1, by rw [h2, strs_get]⟩
theorem Rd.str0 {w : World} {A : Option Addr} {l : List (List UInt8)} (h : Rd w A (strs l)) (hj : 0 < l.length) : ∃ b o, A = some ⟨b, o, none⟩ ∧ w.cell? ⟨b, o, none⟩ = some (.string (Str (sat l 0))) := h.str hj
theorem sat_eq (l : List (List UInt8)) (i : Nat) (h : i < l.length) : sat l i = l[i] := by simp [sat, List.getD_eq_getElem?_getD, List.getElem?_eq_getElem h]
theorem take_sat (l : List (List UInt8)) (k : Nat) (h : k < l.length) : l.take (k + 1) = l.take k ++ [sat l k] := by
  rw [List.take_succ_eq_append_getElem h, sat_eq l k h]
theorem strs_app (l m : List (List UInt8)) : strs l ++ strs m = strs (l ++ m) := by simp [strs]
/-- What the laws of append ask of a slice's type: its element's cells and bytes. -/
def TI (P : Program) (t e : TypeId) (size bytes : Nat) : Prop :=
  ∃ i z, P.underlying t = some (.slice e) ∧ P.info? e = some i ∧ i.zero = some z ∧ i.size = size ∧ i.bytes = bytes ∧ z.cells.size = size ∧ 0 < size ∧ 0 < bytes
theorem TI.of {P : Program} {t e : TypeId} {size bytes : Nat} (h : P.underlying t = some (.slice e))
    (h2 : (P.info? e).map (fun i => (i.zero.map fun z => z.cells.size, i.size, i.bytes)) = some (some size, size, bytes)) (h3 : 0 < size) (h4 : 0 < bytes) : TI P t e size bytes := by
  cases hi : P.info? e with
  | none => rw [hi] at h2; simp at h2
  | some i =>
    rw [hi] at h2
    cases hz : i.zero with
    | none => rw [Option.map_some, hz] at h2; simp at h2
    | some z =>
      rw [Option.map_some, hz] at h2
      simp at h2
      exact ⟨i, z, h, hi, hz, h2.2.1, h2.2.2, h2.1, h3, h4⟩
theorem own_block_base {w : World} {base : Nat} {e : TypeId} {size n : Nat} {v : Value} {xs : List Value} (h : w.ownsRow base e size v n xs) (k : Nat) (hk : v.ownBlock = some k) : base ≤ k := by
  rcases h.2 with ⟨rfl, _⟩ | ⟨g, cap, cur, rfl, hb, _⟩
  · simp [Value.ownBlock] at hk
  · have : g = k := by simpa [Value.ownBlock] using hk
    omega
theorem own_succ {w : World} {base : Nat} {e : TypeId} {size n : Nat} {v : Value} {xs : List Value} (h : w.ownsRow base e size v n xs) : ∃ A c, v = .slice A n c := by
  rcases h.2 with ⟨rfl, rfl⟩ | ⟨g, cap, cur, rfl, hb, _⟩
  · exact ⟨none, 0, rfl⟩
  · exact ⟨_, cap, rfl⟩
theorem wpList_run {P : Program} {ops : Array Oper} {rest : List Oper} {o : Oper} {a : Act} {w : World} {Q : Exit → Act → World → Prop} (hgd : Region.wanted o (yielded ops a.tmps) = true)
    (h : o.wp P a w (wpList P ops Q rest) Q) : wpList P ops Q (o :: rest) a w := by
  show (if _ then _ else _)
  rw [if_pos hgd]; exact .inl h
/-- One element more behind a row of the call's own; it was just laid in a block of its own. -/
theorem wpList_app1 {P : Program} {ops : Array Oper} {rest : List Oper} {o : Oper} {a : Act} {Q : Exit → Act → World → Prop} {w0 W : World} {t e : TypeId} {size bytes : Nat} (ti : TI P t e size bytes) (s x : Operand)
    (hgd : Region.wanted o (yielded ops a.tmps) = true) (ho : o.op = .call { callee := .builtin .append, args := #[s, x], argTypes := #[t, t] }) (base : Nat) {v : Value} {n : Nat} {xs : List Value} (news : List Value) (tt : TypeId) (c : Nat)
    (hs : a.eval s = v) (hx : a.eval x = .slice (some ⟨W.heap.size, 0, none⟩) 1 c) (hown : W.ownsRow base e size v n xs) (hl : news.length = size) (h1 : ∀ u ∈ news, u.oneCell' = true) (hB : Below base w0 W) (hb0 : base ≤ W.heap.size) (hbytes : (n + 1) * bytes ≤ 140737488355328)
    (h : ∀ A' c' w', w'.ownsRow base e size (.slice A' (n + 1) c') (n + 1) (xs ++ news) → (W.alloc (.cells news.toArray tt)).grownBy w' v.ownBlock → Below base w0 w' → base ≤ w'.heap.size → wpList P ops Q rest (a.put o.dst (.slice A' (n + 1) c')) w') :
    wpList P ops Q (o :: rest) a (W.alloc (.cells news.toArray tt)) := by
  obtain ⟨i, z, h1', h2, h3, h4, h5, h6, h7, h8⟩ := ti
  have hn : n + 1 ≤ 140737488355328 := Nat.le_trans (Nat.le_mul_of_pos_right (n + 1) h8) hbytes
  refine wpList_run hgd ?_
  refine wp_append_own _ s x t ho base e i z size bytes h1' h2 h3 h4 h5 h6 h7 v n xs hs (hown.alloc _) ⟨W.heap.size, 0, none⟩ 1 c news hx (by rw [hl, Nat.one_mul]) ?_ h1 (by unfold maxLen; omega) hbytes (by simp; omega) ?_
  · intro j u hj
    have : (⟨W.heap.size, 0, none⟩ : Addr).add j = ⟨W.heap.size, j, none⟩ := by unfold Addr.add; split <;> simp_all
    rw [this, World.cell?_alloc_at _ _ _ _ rfl]; simpa using hj
  · intro v' w' ho' hg _
    obtain ⟨A', c', rfl⟩ := own_succ ho'
    exact h A' c' w' ho' hg ((hB.alloc hb0 _).grown hg (by simp; omega) (fun k hk => own_block_base hown k hk)) (Nat.le_trans (by simp; omega) hg.size)
theorem run_append_nilsrc {P : Program} (w : World) (base : Nat) (t ty e : TypeId) (i : TypeInfo) (size : Nat) (ht : P.underlying t = some (.slice e)) (hi : P.info? e = some i)
    (v : Value) (n : Nat) (xs : List Value) (hown : w.ownsRow base e size v n xs) (c : Nat) : (Builtin.append_ #[t, t] ty #[v, .slice none 0 c]).run P w = .ok v w := by
  rcases hown.2 with ⟨rfl, rfl⟩ | ⟨g, cap, cur, rfl, _, _, hnc, _⟩
  · simp [Builtin.append_, run_underlying ht, sizeOf, typeInfo, hi, Builtin.lenOf, Builtin.firstCells]
  · simp [Builtin.append_, run_underlying ht, sizeOf, typeInfo, hi, Builtin.lenOf, Builtin.firstCells, hnc, storeCells]
theorem run_appS {P : Program} (w : World) {t e : TypeId} {size bytes : Nat} (ti : TI P t e size bytes) (ty : TypeId) (base : Nat) {v : Value} {n : Nat} {xs : List Value} (hown : w.ownsRow base e size v n xs)
    (A : Option Addr) (m c : Nat) (news : List Value) (hl : news.length = m * size) (hr : Rd w A news) (hA : A = none → m = 0) (hsp : ∀ a, A = some a → a.spot = none) (h1 : ∀ u ∈ news, u.oneCell' = true) (hbytes : (n + m) * bytes ≤ 140737488355328) (hbase : base ≤ w.heap.size) :
    ∃ v' w', (Builtin.append_ #[t, t] ty #[v, .slice A m c]).run P w = .ok v' w' ∧ w'.ownsRow base e size v' (n + m) (xs ++ news) ∧ w.grownBy w' v.ownBlock ∧ (v'.ownBlock = v.ownBlock ∨ v'.ownBlock = some w.heap.size) := by
  obtain ⟨i, z, h1', h2, h3, h4, h5, h6, h7, h8⟩ := ti
  have hn : n + m ≤ 140737488355328 := Nat.le_trans (Nat.le_mul_of_pos_right (n + m) h8) hbytes
  rcases A with _ | ad
  · obtain rfl := hA rfl
    obtain rfl : news = [] := List.eq_nil_of_length_eq_zero (by simpa using hl)
    exact ⟨v, w, run_append_nilsrc w base t ty e i size h1' h2 v n xs hown c, by simpa using hown, World.grownBy.refl w _, .inl rfl⟩
  · obtain ⟨v', w', hrun, k2, k3, _, k5⟩ := run_append_own_at (P := P) w base t ty e i z size bytes h1' h2 h3 h4 h5 h6 h7 v n xs hown ad m c news hl (fun j u hj => by
      rcases hr with rfl | ⟨b, o, hb, hc⟩
      · simp at hj
      · injection hb with hb
        subst hb
        have : (⟨b, o, none⟩ : Addr).add j = ⟨b, o + j, none⟩ := by unfold Addr.add; split <;> simp_all
        rw [this]; exact hc j u hj) h1 (by unfold maxLen; omega) hbytes hbase
    exact ⟨v', w', hrun, k2, k3, k5⟩
theorem own_lt {w : World} {base : Nat} {e : TypeId} {size n : Nat} {v : Value} {xs : List Value} (h : w.ownsRow base e size v n xs) (k : Nat) (hk : v.ownBlock = some k) : k < w.heap.size := by
  rcases h.2 with ⟨rfl, _⟩ | ⟨g, cap, cur, rfl, hb, hh, _⟩
  · simp [Value.ownBlock] at hk
  · have : g = k := by simpa [Value.ownBlock] using hk
    subst this
    exact (Array.getElem?_eq_some_iff.1 hh).1
/-- A slice's elements behind a row of the call's own. -/
theorem wpList_appS {P : Program} {ops : Array Oper} {rest : List Oper} {o : Oper} {a : Act} {Q : Exit → Act → World → Prop} {w0 W : World} {t e : TypeId} {size bytes : Nat} (ti : TI P t e size bytes) (s x : Operand)
    (hgd : Region.wanted o (yielded ops a.tmps) = true) (ho : o.op = .call { callee := .builtin .append, args := #[s, x], argTypes := #[t, t] }) (base : Nat) {v : Value} {n : Nat} {xs : List Value} (A : Option Addr) (m c : Nat) (news : List Value)
    (hs : a.eval s = v) (hx : a.eval x = .slice A m c) (hown : W.ownsRow base e size v n xs) (hl : news.length = m * size) (hr : Rd W A news) (hA : A = none → m = 0) (hsp : ∀ a, A = some a → a.spot = none) (h1 : ∀ u ∈ news, u.oneCell' = true)
    (hB : Below base w0 W) (hb0 : base ≤ W.heap.size) (hbytes : (n + m) * bytes ≤ 140737488355328)
    (h : ∀ v' w', w'.ownsRow base e size v' (n + m) (xs ++ news) → W.grownBy w' v.ownBlock → (v'.ownBlock = v.ownBlock ∨ v'.ownBlock = some W.heap.size) → Below base w0 w' → base ≤ w'.heap.size → wpList P ops Q rest (a.put o.dst v') w') :
    wpList P ops Q (o :: rest) a W := by
  refine wpList_run hgd ?_
  obtain ⟨v', w', hrun, h2, h3, h4⟩ := run_appS W ti o.type base hown A m c news hl hr hA hsp h1 hbytes hb0
  unfold Oper.wp execOp
  simp only [ho, resolve, invoke, builtin, Sem.run_bind, Sem.run_pure, Result.andThen_ok, List.map_toArray, List.map_cons, List.map_nil, hs, hx, hrun]
  exact (h v' w' h2 h3 h4 (hB.grown h3 hb0 (fun k hk => own_block_base hown k hk)) (Nat.le_trans hb0 h3.size))
/-- What a slice's address owes. -/
theorem Rd.own' {w : World} {base n : Nat} {e : TypeId} {size : Nat} {v : Value} {xs : List Value} (h : w.ownsRow base e size v n xs) : ∃ A c, v = .slice A n c ∧ n ≤ c ∧ Rd w A xs ∧ (A = none → n = 0) ∧ ∀ a, A = some a → a.spot = none := by
  obtain ⟨A, c, rfl, hc, hr⟩ := Rd.own h
  refine ⟨A, c, rfl, hc, hr, ?_, ?_⟩
  · rintro rfl
    rcases h.2 with ⟨_, h0⟩ | ⟨g, cap, cur, he, _⟩
    · exact h0
    · simp at he
  · rintro a rfl
    rcases h.2 with ⟨he, _⟩ | ⟨g, cap, cur, he, _⟩
    · simp at he
    · simp at he; rw [he.1]
theorem Rd.alloc {w : World} {A : Option Addr} {xs : List Value} (h : Rd w A xs) (o : Obj) : Rd (w.alloc o) A xs := h.below ((Below.refl _ _).alloc (Nat.le_refl _) _)
theorem strs_one (l : List (List UInt8)) : ∀ u ∈ strs l, u.oneCell' = true := by
  intro u hu
  simp only [strs, List.mem_map] at hu
  obtain ⟨x, _, rfl⟩ := hu
  rfl
theorem own_empty (w : World) (e : TypeId) (size : Nat) : (w.alloc (.cells #[] e)).ownsRow w.heap.size e size (.slice (some ⟨w.heap.size, 0, none⟩) 0 0) 0 [] :=
  ⟨by simp, .inr ⟨w.heap.size, 0, #[], rfl, Nat.le_refl _, heap_alloc_new w _, Nat.le_refl _, Nat.zero_le _, by simp, by simp⟩⟩
/-- A text turned into bytes: a new block. -/
theorem wpList_tobytes {P : Program} {ops : Array Oper} {rest : List Oper} {o : Oper} {a : Act} {Q : Exit → Act → World → Prop} {W : World} (src dst e : TypeId) (x : Operand)
    (hgd : Region.wanted o (yielded ops a.tmps) = true) (ho : o.op = .convert src dst x) (hs : P.underlying src = some .string) (hd : P.underlying dst = some (.slice e)) (he : P.underlying e = some (.int .u8)) (l : List UInt8) (hx : a.eval x = .string (Str l))
    (h : ∀ c W', Below W.heap.size W W' → W.heap.size < W'.heap.size → (∀ j, j < l.length → W'.cell? ⟨W.heap.size, j, none⟩ = some (.int .u8 (bt l j))) → (∀ j, j < l.length → W'.frozen? ⟨W.heap.size, j, none⟩ = false) → l.length ≤ c →
      wpList P ops Q rest (a.put o.dst (.slice (some ⟨W.heap.size, 0, none⟩) l.length c)) W') : wpList P ops Q (o :: rest) a W := by
  refine wpList_run hgd ?_
  have hrun := Lib.run_convert_string_bytes W src dst e (Str l) hs hd he
  rw [Str_size] at hrun
  have hsz : l.length ≤ (Lib.bytesCells W e (Str l)).size := by simp [Lib.bytesCells, Str_data]
  unfold Oper.wp execOp
  simp only [ho, hx, Sem.run_bind, hrun, Result.andThen_ok, Sem.run_pure]
  refine h (grownCap W l.length 0 e) _ ⟨rfl, rfl, rfl, by rw [Lib.bytesWorld_size]; omega, fun k hk => Lib.bytesWorld_at_old W e _ k hk⟩ (by rw [Lib.bytesWorld_size]; omega) ?_ ?_ (grownCap_ge W l.length 0 e)
  · intro j hj
    rw [Lib.bytesWorld_cell W e _ j (by rw [Str_size]; exact hj), Str_data]; rfl
  · intro j hj
    unfold World.frozen?
    rw [Lib.bytesWorld_at_new]
    simp; omega
/-- Bytes turned into a text. -/
theorem wpList_tostr {P : Program} {ops : Array Oper} {rest : List Oper} {o : Oper} {a : Act} {Q : Exit → Act → World → Prop} {W : World} (src dst e : TypeId) (x : Operand)
    (hgd : Region.wanted o (yielded ops a.tmps) = true) (ho : o.op = .convert src dst x) (hs : P.underlying src = some (.slice e)) (hd : P.underlying dst = some .string) (he : P.underlying e = some (.int .u8)) (l : List UInt8) (b off c : Nat)
    (hx : a.eval x = .slice (some ⟨b, off, none⟩) l.length c) (hc : ∀ j, j < l.length → W.cell? ⟨b, off + j, none⟩ = some (.int .u8 (bt l j)))
    (h : wpList P ops Q rest (a.put o.dst (.string (Str l))) W) : wpList P ops Q (o :: rest) a W := by
  refine wpList_run hgd ?_
  have hrun := conv_bytes (P := P) W src e dst hs he hd b off l.length c (l.map fun x => (x.toNat : Int)) (by simp) (fun i hi => by
    rw [hc i hi]; unfold bt; simp [List.getD_eq_getElem?_getD, List.getElem?_eq_getElem hi])
  rw [List.map_map, show (u8 ∘ fun x : UInt8 => (x.toNat : Int)) = id from funext u8_of, List.map_id] at hrun
  unfold Oper.wp execOp
  simp only [ho, hx, Sem.run_bind, hrun, Result.andThen_ok, Sem.run_pure]
  exact h
theorem strs_take (l : List (List UInt8)) (k : Nat) : strs (l.take k) = (strs l).take k := by simp [strs]
/-- whole numbers as cells -/
def nats (l : List Nat) : List Value := l.map fun (x : Nat) => Value.int .i64 (x : Int)
theorem nats_len (l : List Nat) : (nats l).length = l.length := by simp [nats]
def nat (l : List Nat) (i : Nat) : Nat := l.getD i 0
theorem nats_get (l : List Nat) (i : Nat) (h : i < (nats l).length) : (nats l)[i] = .int .i64 (nat l i) := by
  have h2 : i < l.length := by rw [nats_len] at h; exact h
  simp [nats, nat, List.getD_eq_getElem?_getD, List.getElem?_eq_getElem h2]
theorem Rd.nat {w : World} {A : Option Addr} {l : List Nat} (h : Rd w A (nats l)) {j : Nat} (hj : j < l.length) : ∃ b o, A = some ⟨b, o, none⟩ ∧ w.cell? ⟨b, o + j, none⟩ = some (.int .i64 (nat l j)) := by
  obtain ⟨b, o, h1, h2⟩ := h.at (j := j) (by rw [nats_len]; exact hj)
  exact ⟨b, o, h1, by rw [h2, nats_get]⟩
theorem Rd.take {w : World} {A : Option Addr} {xs : List Value} (h : Rd w A xs) (n : Nat) : Rd w A (xs.take n) := by
  rcases h with rfl | ⟨b, o, rfl, hc⟩
  · exact .inl (by simp)
  · refine .inr ⟨b, o, rfl, fun j x hx => hc j x ?_⟩
    rcases Nat.lt_or_ge j n with h | h
    · rwa [List.getElem?_take_of_lt h] at hx
    · rw [List.getElem?_eq_none (by simp; omega)] at hx; simp at hx
/-- a callee met behind draws that were made before the region -/
theorem quiet_plus {P : Program} {f : FuncId} {args : Array Value} {w : World} {n a : Nat} {v : Value}
    (h : Calls P f args (w.drewN (n + a)) fun e w' => e = .returned v ∧ w' = w.drewN (n + a)) : Calls P f args (w.drewN (n + a)) fun e w'' => e = .returned v ∧ ∃ m, w'' = w.drewN (n + m) :=
  h.mono fun _ _ ⟨he, hm⟩ => ⟨he, a, hm⟩
/-- Elements more behind a row of the call's own; they were just laid in a block of their own. -/
theorem wpList_appN {P : Program} {ops : Array Oper} {rest : List Oper} {o : Oper} {a : Act} {Q : Exit → Act → World → Prop} {w0 W : World} {t e : TypeId} {size bytes : Nat} (ti : TI P t e size bytes) (s x : Operand)
    (hgd : Region.wanted o (yielded ops a.tmps) = true) (ho : o.op = .call { callee := .builtin .append, args := #[s, x], argTypes := #[t, t] }) (base : Nat) {v : Value} {n : Nat} {xs : List Value} (news : List Value) (tt : TypeId) (m c : Nat)
    (hs : a.eval s = v) (hx : a.eval x = .slice (some ⟨W.heap.size, 0, none⟩) m c) (hown : W.ownsRow base e size v n xs) (hl : news.length = m * size) (h1 : ∀ u ∈ news, u.oneCell' = true) (hB : Below base w0 W) (hb0 : base ≤ W.heap.size) (hbytes : (n + m) * bytes ≤ 140737488355328)
    (h : ∀ A' c' w', w'.ownsRow base e size (.slice A' (n + m) c') (n + m) (xs ++ news) → (W.alloc (.cells news.toArray tt)).grownBy w' v.ownBlock → Below base w0 w' → base ≤ w'.heap.size → wpList P ops Q rest (a.put o.dst (.slice A' (n + m) c')) w') :
    wpList P ops Q (o :: rest) a (W.alloc (.cells news.toArray tt)) := by
  obtain ⟨i, z, h1', h2, h3, h4, h5, h6, h7, h8⟩ := ti
  have hn : n + m ≤ 140737488355328 := Nat.le_trans (Nat.le_mul_of_pos_right (n + m) h8) hbytes
  refine wpList_run hgd ?_
  refine wp_append_own _ s x t ho base e i z size bytes h1' h2 h3 h4 h5 h6 h7 v n xs hs (hown.alloc _) ⟨W.heap.size, 0, none⟩ m c news hx hl ?_ h1 (by unfold maxLen; omega) hbytes (by simp; omega) ?_
  · intro j u hj
    have : (⟨W.heap.size, 0, none⟩ : Addr).add j = ⟨W.heap.size, j, none⟩ := by unfold Addr.add; split <;> simp_all
    rw [this, World.cell?_alloc_at _ _ _ _ rfl]; simpa using hj
  · intro v' w' ho' hg _
    obtain ⟨A', c', rfl⟩ := own_succ ho'
    exact h A' c' w' ho' hg ((hB.alloc hb0 _).grown hg (by simp; omega) (fun k hk => own_block_base hown k hk)) (Nat.le_trans (by simp; omega) hg.size)
def byts (l : List UInt8) : List Value := l.map fun b => Value.int .u8 (b.toNat : Int)
theorem byts_len (l : List UInt8) : (byts l).length = l.length := by simp [byts]
theorem byts_app (l m : List UInt8) : byts l ++ byts m = byts (l ++ m) := by simp [byts]
theorem byts_u8 (n : Int) (h0 : 0 ≤ n) (h1 : n < 256) : byts [u8 n] = [.int .u8 n] := by
  simp only [byts, List.map_cons, List.map_nil]; rw [u8_toNat n h0]; congr 2; omega
/-- a text's length in a slot: for a loop's measure -/
def slen : Value → Nat | .string b => b.size | _ => 0
theorem slen_str (l : List UInt8) : slen (.string (Str l)) = l.length := Str_size l
end Go.Proofs.Ytoidbgedpakjmaa.Lib
