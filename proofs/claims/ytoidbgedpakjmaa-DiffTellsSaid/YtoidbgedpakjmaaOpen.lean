/- How a statement's arguments read: what lies in their cells, of whatever they are made; and how long they are. -/
import Derived.Test.YtoidbgedpakjmaaLib
import Derived.ProofKit
import Derived.SizedLaws
set_option linter.unusedVariables false
set_option linter.unusedSimpArgs false
namespace Go.Proofs.Ytoidbgedpakjmaa.Open
open Go.RowKit Go.Proofs.Ytoidbgedpakjmaa.Lib Go.ChangeShapes Go.WideShapes
/-- Cells of a type, in a world, read as an x. -/
def Opens {α : Type} (P : Program) (t : TypeId) (R : World → List Value → α → Prop) : Prop :=
  ∀ {H : Type} (enc : TypeId × Value → H) (w : World) (base : Nat) (spare : Nat → Bool) (held : Bool) (fuel : Nat) (cs : List Value) (y : DataW H × List MemPlace),
    DataW.trod enc P w base spare held fuel t cs = some y → (∀ n ∈ y.1.weights P t, n ≤ reachBytes) → ∃ x, R w cs x
def RStr (_ : World) (cs : List Value) (x : List UInt8) : Prop := cs = [.string (Str x)] ∧ x.length ≤ 140737488351232
theorem opens_str {P : Program} {t : TypeId} (h : P.underlying t = some .string) : Opens P t RStr := by
  intro H enc w base spare held fuel cs y hy hw
  obtain ⟨s, rfl, rfl, hs⟩ := DataW.trod_string h hy
  refine ⟨s.data.toList, by rw [← Str_of], ?_⟩
  have := hw s.data.toList.length (by simp [DataW.weights])
  simpa [reachBytes] using this
def RInt (k : IntKind) (_ : World) (cs : List Value) (x : Int) : Prop := cs = [.int k x] ∧ k.min ≤ x ∧ x ≤ k.max
theorem opens_int {P : Program} {t : TypeId} {k : IntKind} (h : P.underlying t = some (.int k)) : Opens P t (RInt k) := by
  intro H enc w base spare held fuel cs y hy hw
  obtain ⟨n, rfl, rfl, hs⟩ := DataW.trod_int h hy
  refine ⟨n, rfl, ?_⟩
  simpa [Lit.wf] using hs
def RBool (_ : World) (cs : List Value) (x : Bool) : Prop := cs = [.bool x]
theorem opens_bool {P : Program} {t : TypeId} (h : P.underlying t = some .bool) : Opens P t RBool := by
  intro H enc w base spare held fuel cs y hy hw
  obtain ⟨n, rfl, rfl⟩ := DataW.trod_bool h hy
  exact ⟨n, rfl⟩
/-- elements, one behind the other -/
def SliceRd {α : Type} (w : World) (A : Option Addr) (size : Nat) (R : World → List Value → α → Prop) (xs : List α) : Prop :=
  xs = [] ∨ ∃ b o, A = some ⟨b, o, none⟩ ∧ ∀ i x, xs[i]? = some x → ∃ cs : List Value, cs.length = size ∧ R w cs x ∧ ∀ j u, cs[j]? = some u → w.cell? ⟨b, o + i * size + j, none⟩ = some u
def RSlice {α : Type} (size bytes : Nat) (R : World → List Value → α → Prop) (w : World) (cs : List Value) (xs : List α) : Prop :=
  ∃ A c, cs = [.slice A xs.length c] ∧ xs.length ≤ c ∧ c ≤ maxLen ∧ xs.length * bytes ≤ 140737488351232 ∧ SliceRd w A size R xs ∧ (A = none → xs.length = 0)
theorem cells_get {w : World} {base : Nat} {a : Addr} {n : Nat} {cs : List Value} (h : w.cells? base a n = some cs) : cs.length = n ∧ ∀ j u, cs[j]? = some u → w.cell? (a.add j) = some u := by
  unfold World.cells? at h
  split at h
  · have hl := mapM_some_length h
    refine ⟨by simpa using hl, fun j u hj => ?_⟩
    have hjn : j < n := by
      have := (List.getElem?_eq_some_iff.1 hj).1
      simp at hl; omega
    have := mapM_some_get h j j (by simp [List.getElem?_range hjn])
    rw [this, hj]
  · simp at h
theorem weights_elem {H : Type} {P : Program} {e : TypeId} : ∀ {l : List (DataW H)} {d : DataW H}, d ∈ l → ∀ n ∈ d.weights P e, n ∈ DataW.weightsAll P e l
  | d0 :: l, d, hd, n, hn => by
    rw [DataW.weightsAll, List.mem_append]
    rcases List.mem_cons.1 hd with rfl | hd
    · exact .inl hn
    · exact .inr (weights_elem hd n hn)
theorem add_at (a : Addr) (j : Nat) (v : Value) {w : World} (h : w.cell? (a.add j) = some v) : a.spot = none ∨ 0 < j := by
  rcases Nat.eq_zero_or_pos j with h0 | h0
  · left
    subst h0
    have : a.add 0 = a := by simp [Addr.add]
    rw [this] at h
    unfold World.cell? at h
    split at h
    · cases hs : a.spot with
      | none => rfl
      | some x => simp [hs] at h
    · simp at h
  · exact .inr h0
theorem opens_slice {α : Type} [Inhabited α] {P : Program} {t e : TypeId} {size bytes : Nat} {R : World → List Value → α → Prop} (ht : P.underlying t = some (.slice e)) (hc : P.cellsOf e = size) (hb : P.bytesOf e = bytes) (hs : 0 < size) (he : Opens P e R) :
    Opens P t (RSlice size bytes R) := by
  intro H enc w base spare held fuel cs y hy hw
  rcases DataW.trod_slice ht hy with ⟨rfl, rfl⟩ | ⟨a, len, cap, elems, rest, n, rfl, rfl, rfl, hba, hl, hm, hlen, hel, _, _⟩
  · exact ⟨[], none, 0, rfl, Nat.le_refl _, Nat.zero_le _, by simp, .inl rfl, fun _ => rfl⟩
  · simp only [DataW.weights, ht] at hw
    have hbig := hw _ (List.mem_cons_self ..)
    have hwe : ∀ y ∈ elems, ∀ m ∈ y.1.weights P e, m ≤ reachBytes := fun y hy m hm => hw m (List.mem_cons_of_mem _ (List.mem_append.2 (.inl (weights_elem (List.mem_map_of_mem hy) m hm))))
    have each : ∀ i, i < len → ∃ x : α, ∃ cs' : List Value, cs'.length = size ∧ R w cs' x ∧ ∀ j u, cs'[j]? = some u → w.cell? ((a.add (i * size)).add j) = some u := by
      intro i hi
      have h1 := hel i hi
      rw [hc] at h1
      have h2 : elems[i]? = some elems[i] := List.getElem?_eq_getElem (by omega)
      rw [h2, Option.bind_eq_some_iff] at h1
      obtain ⟨cs', hcs, hy'⟩ := h1
      obtain ⟨x, hx⟩ := he enc w base spare held n cs' _ hy' (hwe _ (List.getElem_mem _))
      exact ⟨x, cs', (cells_get hcs).1, hx, (cells_get hcs).2⟩
    have each' : ∀ i, ∃ x : α, i < len → ∃ cs' : List Value, cs'.length = size ∧ R w cs' x ∧ ∀ j u, cs'[j]? = some u → w.cell? ((a.add (i * size)).add j) = some u := by
      intro i
      by_cases hi : i < len
      · obtain ⟨x, h⟩ := each i hi
        exact ⟨x, fun _ => h⟩
      · exact ⟨default, fun h => absurd h hi⟩
    obtain ⟨f, hf⟩ := Classical.axiomOfChoice each'
    refine ⟨(List.range len).map f, some a, cap, by simp, by simp; exact hl, hm, ?_, ?_, fun h => by cases h⟩
    · have : len * bytes ≤ reachBytes := by
        refine Nat.le_trans ?_ hbig
        rw [← hb]
        exact Nat.mul_le_mul_right _ (by simp; omega)
      simpa [reachBytes] using this
    · rcases Nat.eq_zero_or_pos len with h0 | h0
      · left; subst h0; rfl
      · right
        have hspot : a.spot = none := by
          obtain ⟨cs', hl', _, hcell⟩ := hf 0 h0
          have := hcell 0 cs'[0] (List.getElem?_eq_getElem (by omega))
          have e0 : (a.add (0 * size)).add 0 = a.add 0 := by simp [Addr.add]
          rw [e0] at this
          rcases add_at a 0 _ this with h | h
          · exact h
          · omega
        obtain ⟨b, o, sp⟩ := a
        simp at hspot
        subst hspot
        refine ⟨b, o, rfl, fun i x hx => ?_⟩
        have hi : i < len := by
          have := (List.getElem?_eq_some_iff.1 hx).1
          simpa using this
        have hfx : f i = x := by
          rw [List.getElem?_map, List.getElem?_range hi] at hx
          simpa using hx
        obtain ⟨cs', h1, h2, h3⟩ := hf i hi
        rw [hfx] at h2
        refine ⟨cs', h1, h2, fun j u hj => ?_⟩
        have := h3 j u hj
        have e1 : ((⟨b, o, none⟩ : Addr).add (i * size)).add j = ⟨b, o + i * size + j, none⟩ := by
          unfold Addr.add
          split <;> split <;> simp_all
        rwa [e1] at this
theorem opens_struct2 {α β : Type} {P : Program} {t : TypeId} {f0 f1 : Field} {R0 : World → List Value → α → Prop} {R1 : World → List Value → β → Prop} (ht : P.underlying t = some (.struct #[f0, f1])) (h0 : Opens P f0.type R0) (h1 : Opens P f1.type R1) :
    Opens P t (fun w cs (x : α × β) => R0 w ((cs.drop f0.offset).take (P.cellsOf f0.type)) x.1 ∧ R1 w ((cs.drop f1.offset).take (P.cellsOf f1.type)) x.2 ∧ cs.length = P.cellsOf t) := by
  intro H enc w base spare held fuel cs y hy hw
  obtain ⟨xs, n, rfl, rfl, hl, hxs, hf⟩ := DataW.trod_struct ht hy
  have e0 := hf 0 f0 rfl
  have e1 := hf 1 f1 rfl
  obtain ⟨y0, y1, rfl⟩ : ∃ y0 y1, xs = [y0, y1] := by
    match xs, hxs with
    | [a, b], _ => exact ⟨a, b, rfl⟩
  simp only [DataW.weights, ht] at hw
  simp [DataW.weightsEach] at hw
  obtain ⟨x0, r0⟩ := h0 enc w base spare held n _ y0 e0 (fun n hn => hw n (.inl hn))
  obtain ⟨x1, r1⟩ := h1 enc w base spare held n _ y1 e1 (fun n hn => hw n (.inr hn))
  exact ⟨(x0, x1), r0, r1, hl⟩
/-- Flat elements: what lies there is told by what they are. -/
theorem SliceRd.flat {α : Type} {w : World} {A : Option Addr} {size : Nat} {R : World → List Value → α → Prop} {xs : List α} (cells : α → List Value) (hl : ∀ x, (cells x).length = size) (hR : ∀ cs x, R w cs x → cs = cells x) (hs : 0 < size)
    (h : SliceRd w A size R xs) : Rd w A (xs.flatMap cells) := by
  rcases h with rfl | ⟨b, o, rfl, h⟩
  · exact .inl rfl
  · refine .inr ⟨b, o, rfl, ?_⟩
    have gen : ∀ (ys : List α) (k : Nat), (∀ i x, ys[i]? = some x → ∀ j u, (cells x)[j]? = some u → w.cell? ⟨b, o + (k + i) * size + j, none⟩ = some u) → ∀ j u, (ys.flatMap cells)[j]? = some u → w.cell? ⟨b, o + k * size + j, none⟩ = some u := by
      intro ys
      induction ys with
      | nil => intro k _ j u hj; simp at hj
      | cons y ys ih =>
        intro k hk j u hj
        rw [List.flatMap_cons] at hj
        by_cases hjs : j < size
        · rw [List.getElem?_append_left (by rw [hl]; exact hjs)] at hj
          have := hk 0 y rfl j u hj
          simpa using this
        · rw [List.getElem?_append_right (by rw [hl]; omega), hl] at hj
          have := ih (k + 1) (fun i x hx j u hj => by
            have := hk (i + 1) x (by simpa using hx) j u hj
            rwa [show k + 1 + i = k + (i + 1) by omega]) (j - size) u hj
          rw [show o + k * size + j = o + (k + 1) * size + (j - size) by rw [Nat.add_mul, Nat.one_mul]; omega]
          exact this
    intro j u hj
    have := gen xs 0 (fun i x hx j u hj => by
      obtain ⟨cs, h1, h2, h3⟩ := h i x hx
      rw [hR _ _ h2] at h3
      rw [Nat.zero_add]
      exact h3 j u hj) j u hj
    simpa using this
theorem rd_strs {w : World} {A : Option Addr} {xs : List (List UInt8)} (h : SliceRd w A 1 RStr xs) : Rd w A (Lib.strs xs) := by
  have := h.flat (fun x => [.string (Str x)]) (fun _ => rfl) (fun cs x hx => hx.1) (by decide)
  rwa [show xs.flatMap (fun x => [Value.string (Str x)]) = Lib.strs xs from by rw [Lib.strs, List.map_eq_flatMap]] at this
theorem sat_short {w : World} {A : Option Addr} {xs : List (List UInt8)} (h : SliceRd w A 1 RStr xs) (k : Nat) : (sat xs k).length ≤ 140737488351232 := by
  unfold sat
  rw [List.getD_eq_getElem?_getD]
  cases hx : xs[k]? with
  | none => simp
  | some x =>
    rcases h with rfl | ⟨b, o, rfl, h⟩
    · simp at hx
    · obtain ⟨cs, _, h2, _⟩ := h k x hx
      exact h2.2
end Go.Proofs.Ytoidbgedpakjmaa.Open
