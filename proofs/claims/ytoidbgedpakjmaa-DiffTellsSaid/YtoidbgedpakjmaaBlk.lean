/- Blocks of the call's own, by what their cells begin with; a row of bytes that a conversion made. -/
import Derived.Test.YtoidbgedpakjmaaSha
set_option linter.unusedVariables false
set_option linter.unusedSimpArgs false
namespace Go.Proofs.Ytoidbgedpakjmaa.Lib
open Go.RowKit
/-- A block that may be written, whose cells begin with xs. -/
def Blk (W : World) (g : Nat) (xs : List Value) (t : TypeId) : Prop := ∃ cs, W.heap[g]? = some (.cells cs t (0, 0)) ∧ ∀ (j : Nat) (x : Value), xs[j]? = some x → cs[j]? = some x
theorem Blk.lt {W : World} {g : Nat} {xs : List Value} {t : TypeId} (h : Blk W g xs t) : g < W.heap.size := by
  obtain ⟨cs, h1, _⟩ := h
  exact (Array.getElem?_eq_some_iff.1 h1).1
theorem Blk.cell {W : World} {g : Nat} {xs : List Value} {t : TypeId} (h : Blk W g xs t) {j : Nat} {x : Value} (hx : xs[j]? = some x) : W.cell? ⟨g, j, none⟩ = some x := by
  obtain ⟨cs, h1, h2⟩ := h
  unfold World.cell?
  simp only [h1]
  simpa using h2 j x hx
theorem Blk.frozen {W : World} {g : Nat} {xs : List Value} {t : TypeId} (h : Blk W g xs t) (j : Nat) : W.frozen? ⟨g, j, none⟩ = false := by
  obtain ⟨cs, h1, h2⟩ := h
  exact frozen_of_row W g j _ _ h1
theorem Blk.same {W W' : World} {g : Nat} {xs : List Value} {t : TypeId} (h : Blk W g xs t) (he : W'.heap[g]? = W.heap[g]?) : Blk W' g xs t := by
  obtain ⟨cs, h1, h2⟩ := h
  exact ⟨cs, he.trans h1, h2⟩
theorem Blk.below {W W' : World} {g B : Nat} {xs : List Value} {t : TypeId} (h : Blk W g xs t) (hb : Below B W W') (hg : g < B) : Blk W' g xs t := h.same (hb.block g hg)
theorem Blk.alloc {W : World} {g : Nat} {xs : List Value} {t : TypeId} (h : Blk W g xs t) (o : Obj) : Blk (W.alloc o) g xs t := h.same (by
  show (W.heap.push o)[g]? = _
  rw [Array.getElem?_push_lt h.lt, Array.getElem?_eq_getElem h.lt])
theorem Blk.drew {W : World} {g : Nat} {xs : List Value} {t : TypeId} (h : Blk W g xs t) : Blk W.drew g xs t := h
theorem Blk.drewN {W : World} {g : Nat} {xs : List Value} {t : TypeId} (h : Blk W g xs t) (n : Nat) : Blk (W.drewN n) g xs t := h
theorem Blk.set {W : World} {g : Nat} {xs : List Value} {t : TypeId} (h : Blk W g xs t) (j : Nat) (v : Value) : Blk (W.setCell ⟨g, j, none⟩ v) g (xs.set j v) t := by
  obtain ⟨cs, h1, h2⟩ := h
  refine ⟨_, heap_setCell_same W g j cs t v h1, fun i x hx => ?_⟩
  rw [Array.getElem?_setIfInBounds]
  by_cases e : j = i
  · subst e
    by_cases hl : j < xs.length
    · rw [List.getElem?_set_self hl] at hx
      have := h2 j _ (List.getElem?_eq_getElem hl)
      have hlt := (Array.getElem?_eq_some_iff.1 this).1
      rw [if_pos rfl, if_pos hlt]; exact hx
    · rw [List.getElem?_eq_none (by simp; omega)] at hx; simp at hx
  · rw [List.getElem?_set_ne e] at hx
    rw [if_neg e]; exact h2 i x hx
theorem Blk.set_other {W : World} {g : Nat} {xs : List Value} {t : TypeId} (h : Blk W g xs t) {p : Addr} (hp : g ≠ p.block) (v : Value) : Blk (W.setCell p v) g xs t := h.same (heap_setCell_other W p g v hp)
theorem Blk.new (W : World) (xs : List Value) (t : TypeId) : Blk (W.alloc (.cells xs.toArray t)) W.heap.size xs t := ⟨_, heap_alloc_new W _, fun j x h => by simpa using h⟩
theorem Blk.own {W : World} {base n : Nat} {e : TypeId} {size : Nat} {v : Value} {xs : List Value} (h : W.ownsRow base e size v n xs) (hn : v ≠ .slice none 0 0) : ∃ g c, v = .slice (some ⟨g, 0, none⟩) n c ∧ base ≤ g ∧ n ≤ c ∧ Blk W g xs e := by
  rcases h.2 with ⟨rfl, _⟩ | ⟨g, cap, cur, rfl, hb, hh, hc, _, _, ht⟩
  · exact absurd rfl hn
  · refine ⟨g, cap, rfl, hb, hc, cur, hh, fun j x hx => ?_⟩
    rw [← ht, List.getElem?_take] at hx
    split at hx
    · simpa using hx
    · cases hx
theorem own_Blk {W : World} {base n : Nat} {e : TypeId} {size : Nat} {v : Value} {xs : List Value} (h : W.ownsRow base e size v n xs) (hn : n ≠ 0) : ∃ g c, v = .slice (some ⟨g, 0, none⟩) n c ∧ base ≤ g ∧ n ≤ c ∧ Blk W g xs e :=
  Blk.own h (by rintro rfl; rcases h.2 with ⟨_, h0⟩ | ⟨g, cap, cur, he, _⟩; exact hn h0; simp at he)
/-- words of 32 bits as cells -/
def us (l : List (BitVec 32)) : List Value := l.map fun v => Value.int .u32 (V v)
theorem us_at (l : List (BitVec 32)) (j : Nat) (h : j < l.length) : (us l)[j]? = some (.int .u32 (V (l.getD j 0#32))) := by simp [us, h]
theorem us_len (l : List (BitVec 32)) : (us l).length = l.length := by simp [us]
theorem us_set (l : List (BitVec 32)) (j : Nat) (v : BitVec 32) : (us l).set j (.int .u32 (V v)) = us (l.set j v) := by simp [us, List.map_set]
theorem byts_at (l : List UInt8) (j : Nat) (h : j < l.length) : (byts l)[j]? = some (.int .u8 (bt l j)) := by simp [byts, bt, h]

/-- A row of bytes of the call's own, on which append may write; the mark of a conversion may stand behind it. -/
def OwnB (w : World) (base : Nat) (e : TypeId) (v : Value) (l : List UInt8) : Prop :=
  ∃ g cap cur fz, v = .slice (some ⟨g, 0, none⟩) l.length cap ∧ base ≤ g ∧ w.heap[g]? = some (.cells cur e fz) ∧ (fz = (0, 0) ∨ cur.size ≤ fz.1) ∧ l.length ≤ cap ∧ cap ≤ maxLen ∧ cur.size = cap ∧ cur.toList.take l.length = byts l
theorem OwnB.reads {w : World} {base : Nat} {e : TypeId} {v : Value} {l : List UInt8} (h : OwnB w base e v l) : ∃ g c, v = .slice (some ⟨g, 0, none⟩) l.length c ∧ base ≤ g ∧ g < w.heap.size ∧ l.length ≤ c ∧ ∀ j, j < l.length → w.cell? ⟨g, j, none⟩ = some (.int .u8 (bt l j)) := by
  obtain ⟨g, cap, cur, fz, rfl, hb, hh, hf, hc, _, hcs, ht⟩ := h
  refine ⟨g, cap, rfl, hb, (Array.getElem?_eq_some_iff.1 hh).1, hc, fun j hj => ?_⟩
  have := byts_at l j hj
  rw [← ht, List.getElem?_take_of_lt hj] at this
  unfold World.cell?
  simp only [hh]
  simpa using this
theorem storeCells_B (P : Program) (g o : Nat) (t : TypeId) (fz : Nat × Nat) : ∀ (vs : List Value) (i : Nat) (cur : Array Value) (w : World), w.heap[g]? = some (.cells cur t fz) → (fz = (0, 0) ∨ cur.size ≤ fz.1) → o + i + vs.length ≤ cur.size → (∀ v ∈ vs, v.oneCell' = true) →
    (storeCells ⟨g, o, none⟩ vs i).run P w = .ok () (w.setRow g (cur.toList.take (o + i) ++ vs ++ cur.toList.drop (o + i + vs.length)).toArray)
  | [], i, cur, w, hg, _, _, _ => by
    simp only [storeCells, List.append_nil, List.length_nil, Nat.add_zero, List.take_append_drop, Array.toArray_toList]
    rw [setRow_self w g cur t fz hg]
    rfl
  | v :: rest, i, cur, w, hg, hfz, hl, h1 => by
    have hi : o + i < cur.size := by simp at hl; omega
    have hadd : (⟨g, o, none⟩ : Addr).add i = ⟨g, o + i, none⟩ := by unfold Addr.add; split <;> simp_all
    have hcell : w.cell? ⟨g, o + i, none⟩ = some cur[o + i] := by simp [World.cell?, hg, hi]
    have hfro : w.frozen? ⟨g, o + i, none⟩ = false := by
      rcases hfz with rfl | hfz
      · simp [World.frozen?, hg]
      · obtain ⟨lo, hi'⟩ := fz
        simp only [World.frozen?, hg, Bool.and_eq_false_iff, decide_eq_false_iff_not]
        left
        simp only at hfz
        omega
    have hst : (store ((⟨g, o, none⟩ : Addr).add i) v).run P w = .ok () (w.setRow g (cur.setIfInBounds (o + i) v)) := by
      rw [hadd, run_store P w _ v _ (h1 v (by simp)), hcell]
      simp [hfro, setCell_eq_setRow w g (o + i) cur t fz v hg]
    have ih := storeCells_B P g o t fz rest (i + 1) (cur.setIfInBounds (o + i) v) (w.setRow g (cur.setIfInBounds (o + i) v)) (setRow_heap w g cur _ t _ hg) (by simpa using hfz) (by simp at hl ⊢; omega) (fun x hx => h1 x (by simp [hx]))
    simp only [storeCells, Sem.run_bind, hst, Result.andThen_ok, ih, setRow_setRow]
    congr 3
    have e := list_seg_step cur.toList (o + i) v rest (by simp at hl ⊢; omega)
    simpa [Array.toList_setIfInBounds, Nat.add_assoc] using e
theorem run_appB {P : Program} (w : World) {t e : TypeId} (ti : TI P t e 1 1) (ty : TypeId) (base : Nat) {v : Value} {l : List UInt8} (hown : OwnB w base e v l)
    (ad : Addr) (m : List UInt8) (c : Nat) (hr : ∀ j u, (byts m)[j]? = some u → w.cell? (ad.add j) = some u) (hbytes : l.length + m.length ≤ 140737488355328) (hbase : base ≤ w.heap.size) :
    ∃ v' w', (Builtin.append_ #[t, t] ty #[v, .slice (some ad) m.length c]).run P w = .ok v' w' ∧ OwnB w' base e v' (l ++ m) ∧ Below base w w' ∧ w.heap.size ≤ w'.heap.size := by
  obtain ⟨i, z, ht, hi, hz, hsize, hby, hzs, _, _⟩ := ti
  obtain ⟨g, cap, cur, fz, rfl, hb, hg, hf, hc, hcm, hcs, htk⟩ := hown
  have h1 : ∀ u ∈ byts m, u.oneCell' = true := by
    intro u hu
    simp only [byts, List.mem_map] at hu
    obtain ⟨x, _, rfl⟩ := hu
    rfl
  have hlm : (byts m).length = m.length * i.size := by rw [byts_len, hsize, Nat.mul_one]
  by_cases hroom : l.length + m.length ≤ cap
  · have hfc := run_firstCells_some (P := P) w i.size m.length ad m.length c (byts m) hlm hr
    have hst := storeCells_B P g (l.length * i.size) e fz (byts m) 0 cur w hg hf (by rw [byts_len, hsize]; omega) h1
    simp only [Nat.add_zero] at hst
    refine ⟨.slice (some ⟨g, 0, none⟩) (l ++ m).length cap, w.setRow g (cur.toList.take (l.length * i.size) ++ byts m ++ cur.toList.drop (l.length * i.size + (byts m).length)).toArray, ?_, ⟨g, cap, _, fz, rfl, hb, setRow_heap w g cur _ e _ hg, ?_, by simpa using hroom, hcm, ?_, ?_⟩, ⟨rfl, rfl, rfl, by simp, fun k hk => setRow_other w g k _ (by omega)⟩, by simp⟩
    · simp [Builtin.append_, run_underlying ht, sizeOf, typeInfo, hi, Builtin.lenOf, hroom, hfc, Addr.add_lit, hst]
    · rcases hf with hf | hf
      · exact .inl hf
      · right; simp [hsize, byts_len]; omega
    · simp [hsize, byts_len]; omega
    · rw [hsize, Nat.mul_one, htk, ← byts_app]
      simp only [List.length_append]
      rw [show l.length + m.length = (byts l ++ byts m).length by simp [byts_len]]
      exact List.take_left
  · have holds : ∀ j u, (byts l)[j]? = some u → w.cell? ((⟨g, 0, none⟩ : Addr).add j) = some u := by
      intro j u hu
      have hadd : (⟨g, 0, none⟩ : Addr).add j = ⟨g, j, none⟩ := by unfold Addr.add; split <;> simp_all
      rw [hadd, cell_of_row w g j cur e fz hg]
      rw [← htk, List.getElem?_take] at hu
      split at hu
      · simpa using hu
      · cases hu
    have hr2 := run_append_grow (P := P) w t ty e i z ht hi hz ⟨g, 0, none⟩ l.length cap (byts l) (by rw [byts_len, hsize, Nat.mul_one]) holds ad m.length c (byts m) hlm hr (by omega) (by omega) (growslice_fits (by omega) (by rw [hby]; omega))
    have hge := grownCap_ge w (l.length + m.length) cap e
    have hcm2 : grownCap w (l.length + m.length) cap e ≤ maxLen := grownCap_le_maxLen w _ cap e (by unfold maxLen; omega)
    refine ⟨_, _, hr2, ⟨w.heap.size, grownCap w (l.length + m.length) cap e, _, (0, 0), by simp, hbase, heap_alloc_new w.drew _, .inl rfl, by simpa using hge, hcm2, ?_, ?_⟩, ⟨rfl, rfl, rfl, by simp, fun k hk => heap_alloc_old w.drew _ (by simp; omega)⟩, by simp⟩
    · simp only [Array.size_append, List.size_toArray, size_zeroCells, hzs, byts_len]
      omega
    · simp only [Array.toList_append, List.append_assoc]
      rw [← List.append_assoc, ← byts_app]
      rw [show (l ++ m).length = (byts l ++ byts m).length by simp [byts_len]]
      exact List.take_left
/-- Bytes more behind such a row; they were just laid in a block of their own. -/
theorem wpList_appB {P : Program} {ops : Array Oper} {rest : List Oper} {o : Oper} {a : Act} {Q : Exit → Act → World → Prop} {w0 W : World} {t e : TypeId} (ti : TI P t e 1 1) (s x : Operand)
    (hgd : Region.wanted o (yielded ops a.tmps) = true) (ho : o.op = .call { callee := .builtin .append, args := #[s, x], argTypes := #[t, t] }) (base : Nat) {v : Value} {l : List UInt8} (m : List UInt8) (news : List Value) (tt : TypeId) (k c : Nat)
    (hn : news = byts m) (hk : k = m.length) (hs : a.eval s = v) (hx : a.eval x = .slice (some ⟨W.heap.size, 0, none⟩) k c) (hown : OwnB W base e v l) (hB : Below base w0 W) (hb0 : base ≤ W.heap.size) (hbytes : l.length + m.length ≤ 140737488355328)
    (h : ∀ v' w', OwnB w' base e v' (l ++ m) → Below base w0 w' → base ≤ w'.heap.size → wpList P ops Q rest (a.put o.dst v') w') :
    wpList P ops Q (o :: rest) a (W.alloc (.cells news.toArray tt)) := by
  subst hk
  refine wpList_run hgd ?_
  have hown2 : OwnB (W.alloc (.cells news.toArray tt)) base e v l := by
    obtain ⟨g, cap, cur, fz, h1, h2, h3, h4⟩ := hown
    have hlt := (Array.getElem?_eq_some_iff.1 h3).1
    refine ⟨g, cap, cur, fz, h1, h2, ?_, h4⟩
    rw [← h3]
    show (W.heap.push _)[g]? = _
    rw [Array.getElem?_push_lt hlt, Array.getElem?_eq_getElem hlt]
  obtain ⟨v', w', hrun, k2, k3, k4⟩ := run_appB (W.alloc (.cells news.toArray tt)) ti o.type base hown2 ⟨W.heap.size, 0, none⟩ m c (by
    intro j u hj
    have : (⟨W.heap.size, 0, none⟩ : Addr).add j = ⟨W.heap.size, j, none⟩ := by unfold Addr.add; split <;> simp_all
    rw [this, World.cell?_alloc_at _ _ _ _ rfl, hn]; simpa using hj) hbytes (by simp; omega)
  unfold Oper.wp execOp
  simp only [ho, resolve, invoke, builtin, Sem.run_bind, Sem.run_pure, Result.andThen_ok, List.map_toArray, List.map_cons, List.map_nil, hs, hx, hrun]
  exact h v' w' k2 ((hB.alloc hb0 _).trans k3) (Nat.le_trans (by simp; omega) k4)
/-- A text turned into bytes, on which append may write. -/
theorem wpList_toown {P : Program} {ops : Array Oper} {rest : List Oper} {o : Oper} {a : Act} {Q : Exit → Act → World → Prop} {W : World} (src dst e : TypeId) (x : Operand)
    (hgd : Region.wanted o (yielded ops a.tmps) = true) (ho : o.op = .convert src dst x) (hs : P.underlying src = some .string) (hd : P.underlying dst = some (.slice e)) (he : P.underlying e = some (.int .u8)) (l : List UInt8) (hx : a.eval x = .string (Str l)) (hl : l.length ≤ 140737488355328)
    (h : ∀ v W', Below W.heap.size W W' → OwnB W' W.heap.size e v l → wpList P ops Q rest (a.put o.dst v) W') : wpList P ops Q (o :: rest) a W := by
  refine wpList_run hgd ?_
  have hrun := Lib.run_convert_string_bytes W src dst e (Str l) hs hd he
  rw [Str_size] at hrun
  have hge := grownCap_ge W l.length 0 e
  have hcm2 : grownCap W l.length 0 e ≤ maxLen := grownCap_le_maxLen W _ 0 e (by unfold maxLen; omega)
  have hsz : (Lib.bytesCells W e (Str l)).size = grownCap W l.length 0 e := by
    simp only [Lib.bytesCells, Array.size_append, Array.size_map, Array.size_replicate, Str_data, Str_size, List.size_toArray]
    omega
  unfold Oper.wp execOp
  simp only [ho, hx, Sem.run_bind, hrun, Result.andThen_ok, Sem.run_pure]
  refine h _ _ ⟨rfl, rfl, rfl, by rw [Lib.bytesWorld_size]; omega, fun k hk => Lib.bytesWorld_at_old W e _ k hk⟩ ⟨W.heap.size, grownCap W l.length 0 e, _, _, rfl, Nat.le_refl _, Lib.bytesWorld_at_new W e (Str l), .inr (Nat.le_refl _), hge, hcm2, hsz, ?_⟩
  simp only [Lib.bytesCells, Array.toList_append, Str_data, Array.toList_map]
  rw [List.take_append_of_le_length (by simp), List.take_of_length_le (by simp)]
  rfl
/-- Elements more behind a row of the call's own, as a step of a region that draws its order. -/
theorem step_appN {P : Program} {ops : Array Oper} {o : Oper} {a : Act} {K : Act → World → Prop} {Q : Exit → Act → World → Prop} {E : Prop} {w0 W : World} {t e : TypeId} {size bytes : Nat} (ti : TI P t e size bytes) (s x : Operand)
    (hgd : o.guard = none) (ho : o.op = .call { callee := .builtin .append, args := #[s, x], argTypes := #[t, t] }) (base : Nat) {v : Value} {n : Nat} {xs : List Value} (news : List Value) (tt : TypeId) (m c : Nat)
    (hs : a.eval s = v) (hx : a.eval x = .slice (some ⟨W.heap.size, 0, none⟩) m c) (hown : W.ownsRow base e size v n xs) (hl : news.length = m * size) (h1 : ∀ u ∈ news, u.oneCell' = true) (hB : Below base w0 W) (hb0 : base ≤ W.heap.size) (hbytes : (n + m) * bytes ≤ 140737488355328)
    (h : ∀ A' c' w', w'.ownsRow base e size (.slice A' (n + m) c') (n + m) (xs ++ news) → (W.alloc (.cells news.toArray tt)).grownBy w' v.ownBlock → Below base w0 w' → base ≤ w'.heap.size → K (a.put o.dst (.slice A' (n + m) c')) w') :
    if Region.wanted o (yielded ops a.tmps) = true then Oper.wp P o a (W.alloc (.cells news.toArray tt)) K Q else E := by
  obtain ⟨i, z, h1', h2, h3, h4, h5, h6, h7, h8⟩ := ti
  have hw : Region.wanted o (yielded ops a.tmps) = true := by simp [Region.wanted, hgd]
  rw [if_pos hw]
  have hn : n + m ≤ 140737488355328 := Nat.le_trans (Nat.le_mul_of_pos_right (n + m) h8) hbytes
  refine wp_append_own _ s x t ho base e i z size bytes h1' h2 h3 h4 h5 h6 h7 v n xs hs (hown.alloc _) ⟨W.heap.size, 0, none⟩ m c news hx hl ?_ h1 (by unfold maxLen; omega) hbytes (by simp; omega) ?_
  · intro j u hj
    have : (⟨W.heap.size, 0, none⟩ : Addr).add j = ⟨W.heap.size, j, none⟩ := by unfold Addr.add; split <;> simp_all
    rw [this, World.cell?_alloc_at _ _ _ _ rfl]; simpa using hj
  · intro v' w' ho' hg _
    obtain ⟨A', c', rfl⟩ := own_succ ho'
    exact h A' c' w' ho' hg ((hB.alloc hb0 _).grown hg (by simp; omega) (fun k hk => own_block_base hown k hk)) (Nat.le_trans (by simp; omega) hg.size)
end Go.Proofs.Ytoidbgedpakjmaa.Lib
