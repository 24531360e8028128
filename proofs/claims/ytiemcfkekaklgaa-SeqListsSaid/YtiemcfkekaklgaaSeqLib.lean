/- The runs of layer 2 over a list, read to their end: each leaves all that stood. -/
import Derived.Test.YtiemcfkekaklgaaAw02
import Derived.Test.YtiemcfkekaklgaaMade
import Derived.Test.YtiemcfkekaklgaaHead
import Derived.Test.YtiemcfkekaklgaaEarly
import Derived.Test.YtiemcfkekaklgaaRises
import Derived.Test.YtiemcfkekaklgaaR02w
set_option linter.unusedVariables false
set_option linter.unusedSimpArgs false
namespace Go.Proofs.Ytiemcfkekaklgaa.W02
open Go.RowKit Go.Shelf Go.Proofs.Ytiemcfkekaklgaa.Lib Go.Proofs.Ytiemcfkekaklgaa.Prs Go.Proofs.Ytiemcfkekaklgaa.Run Go.Proofs.Ytiemcfkekaklgaa.Runs Go.Proofs.Ytiemcfkekaklgaa.Lt Go.Proofs.Ytiemcfkekaklgaa.Sp
abbrev FOf (Bs : Nat) : Value := .func (.func 38) #[] #[.pointer (some ⟨Bs, 0, none⟩)]
/-- seq.Of's closure over a list, in a world -/
structure OfAt (W : World) (Bs : Nat) (A : Option Addr) (c : Nat) (l : List Itm) : Prop where
  box : Boxed W Bs 24 (.slice A l.length c)
  rd : Rd W A (its l)
  lt : ∀ b o, A = some ⟨b, o, none⟩ → b < W.heap.size
theorem boxed_below {W W' : World} {B : Nat} {t : TypeId} {v : Value} (h : Boxed W B t v) (hb : Below W.heap.size W W') : Boxed W' B t v := (hb.block B h.lt).trans h
theorem OfAt.below {W W' : World} {Bs : Nat} {A : Option Addr} {c : Nat} {l : List Itm} (h : OfAt W Bs A c l) (hb : Below W.heap.size W W') : OfAt W' Bs A c l :=
  ⟨boxed_below h.box hb, h.rd.below hb, fun b o e => Nat.lt_of_lt_of_le (h.lt b o e) hb.size⟩
theorem OfAt.rlt {W : World} {Bs : Nat} {A : Option Addr} {c : Nat} {l : List Itm} (h : OfAt W Bs A c l) : ∀ k, ROf Bs A k → k < W.heap.size := fun k hk => by
  rcases hk with rfl | ⟨b, o, e, rfl⟩
  · exact h.box.lt
  · exact h.lt _ o e
theorem OfAt.iter {W : World} {Bs : Nat} {A : Option Addr} {c : Nat} {l : List Itm} (h : OfAt W Bs A c l) (hl : l.length ≤ 1000000000) : Iter Try.prog 38 #[.pointer (some ⟨Bs, 0, none⟩)] (encI l) l.length (ROf Bs A) (Still (ROf Bs A) W) :=
  of_iter Bs A c l hl W h.box.cell h.rd h.rlt
theorem eOf : ∀ args w, (callFunc 38 args).run Try.prog w = .ok (.enter 38 args) w := enters_of Try.func38 (by kernel_rfl) rfl
def RL (W : World) (ys : List Itm) (e : Ending) (W' : World) : Prop := (∃ v, e = .returned v ∧ W'.ownsRow W.heap.size 49 2 v ys.length (its ys)) ∧ Below W.heap.size W W'
theorem of_new (A : Option Addr) (c : Nat) (l : List Itm) (w : World) (hrd : Rd w A (its l)) (hlt : ∀ b o, A = some ⟨b, o, none⟩ → b < w.heap.size) :
    Calls Try.prog 15 #[.slice A l.length c] w fun e w' => e = .returned (FOf w.heap.size) ∧ OfAt w' w.heap.size A c l ∧ Below w.heap.size w w' :=
  (of_any A l.length c w).mono fun e w' h => ⟨h.1, by
    rw [h.2]
    exact ⟨Boxed.new w _ _, hrd.alloc _, fun b o e => by have := hlt b o e; simp; omega⟩, by rw [h.2]; exact below_al (below_rf w) _⟩
theorem list_of {W : World} {Bs : Nat} {A : Option Addr} {c : Nat} {l : List Itm} (h : OfAt W Bs A c l) (hl : l.length ≤ 1000000000) :
    Calls Try.prog 16 #[FOf Bs] W (RL W l) :=
  (list_iter _ _ eOf l hl _ _ (h.iter hl) W h.rlt (fun k hk => rfl)).mono fun e w' ⟨h1, h2, h3⟩ => ⟨h1, h2.quiet h3⟩
theorem rises_of {W : World} {Bs : Nat} {A : Option Addr} {c : Nat} {l : List Itm} (h : OfAt W Bs A c l) (hl : l.length ≤ 1000000000) :
    Calls Try.prog 14 #[FOf Bs] W fun e w' => e = .returned (.bool (risesP l)) ∧ Below W.heap.size W w' :=
  (rises_iter _ _ eOf l hl _ _ (h.iter hl) W h.rlt (fun k hk => rfl)).mono fun e w' ⟨h1, h2, i, h3⟩ => ⟨h1, h2.quiet h3⟩
-- Within
def WithinAt (W : World) (q Bs : Nat) (fr tk : List UInt8) : Prop := Boxed W q 31 (FOf Bs) ∧ Boxed W (q + 2) 9 (.string (Str tk)) ∧ Boxed W (q + 1) 9 (.string (Str fr))
theorem WithinAt.below {W W' : World} {q Bs : Nat} {fr tk : List UInt8} (h : WithinAt W q Bs fr tk) (hb : Below W.heap.size W W') : WithinAt W' q Bs fr tk := ⟨boxed_below h.1 hb, boxed_below h.2.1 hb, boxed_below h.2.2 hb⟩
abbrev FWi (q : Nat) : Value := .func (.func 39) #[] #[.pointer (some ⟨q, 0, none⟩), .pointer (some ⟨q + 2, 0, none⟩), .pointer (some ⟨q + 1, 0, none⟩)]
theorem within_new (Bs : Nat) (fr tk : List UInt8) (w : World) :
    Calls Try.prog 17 #[FOf Bs, .string (Str fr), .string (Str tk)] w fun e w' => e = .returned (FWi w.heap.size) ∧ WithinAt w' w.heap.size Bs fr tk ∧ Below w.heap.size w w' :=
  (within_any _ _ fr tk w).mono fun e w' h => ⟨h.1, by
    rw [h.2]
    refine ⟨((Boxed.new w _ _).alloc _).alloc _, ?_, ?_⟩
    · have := Boxed.new ((w.alloc (.cells #[FOf Bs] 31)).alloc (.cells #[.string (Str fr)] 9)) 9 (.string (Str tk))
      rwa [World.size_alloc, World.size_alloc] at this
    · exact (boxed_new2 w _ _ _).alloc _, by rw [h.2]; exact below_al (below_al (below_al (below_rf w) _) _) _⟩
theorem inW_stop (fr tk : List UInt8) {l : List Itm} (hr : Ris l) (i : Nat) (hi : i < l.length) (h : ltS (itm l i).1 tk = false) : idx (inW fr tk) l (i + 1) = (l.filter (inW fr tk)).length := by
  have e : l.drop (i + 1) = (l.drop (i + 1)) := rfl
  have hnone : (l.drop (i + 1)).filter (inW fr tk) = [] := by
    rw [List.filter_eq_nil_iff]
    intro x hx
    obtain ⟨j, hj, rfl⟩ := List.getElem_of_mem hx
    rw [List.length_drop] at hj
    rw [List.getElem_drop]
    unfold Ris at hr
    rw [List.pairwise_iff_getElem] at hr
    have h1 := hr i (i + 1 + j) hi (by omega) (by omega)
    rw [itm_eq l i hi] at h
    unfold inW
    cases h2 : ltS (l[i + 1 + j]).1 tk with
    | false => simp
    | true => rw [lt_trans _ _ _ h1 h2] at h; cases h
  unfold idx
  conv => rhs; rw [← List.take_append_drop (i + 1) l]
  rw [List.filter_append, hnone, List.append_nil]
theorem list_within {W : World} {Bs q : Nat} {A : Option Addr} {c : Nat} {l : List Itm} {fr tk : List UInt8} (h : OfAt W Bs A c l) (hl : l.length ≤ 1000000000) (hr : Ris l) (hw : WithinAt W q Bs fr tk) (hq : ∀ k, ROf Bs A k → k < q) :
    Calls Try.prog 16 #[FWi q] W (RL W (l.filter (inW fr tk))) := by
  have hit := within_iter _ _ eOf l _ _ (h.iter hl) fr tk q (q + 2) (q + 1) ⟨fun e => by have := hq _ e; omega, fun e => by have := hq _ e; omega, fun e => by have := hq _ e; omega⟩ (inW fr tk) rfl (fun i hi hs => inW_stop fr tk hr i hi hs) (fun i W' _ _ hT => hT)
  have hlt := List.length_filter_le (inW fr tk) l
  refine (list_iter _ _ (enters_of Try.func39 (by kernel_rfl) rfl) (l.filter (inW fr tk)) (by omega) _ _ hit W (fun k hk => ?_) ⟨0, Nat.zero_le _, rfl, fun k hk => rfl, trivial, hw⟩).mono fun e w' ⟨h1, h2, h3⟩ => ⟨h1, h2.quiet (fun k hk => ?_)⟩
  · rcases hk with (rfl | rfl | rfl) | hk | hk
    · exact hw.1.lt
    · exact hw.2.1.lt
    · exact hw.2.2.lt
    · exact h.rlt k hk
    · exact hk.elim
  · obtain ⟨i, _, _, hT, _, hC⟩ := h3
    rcases hk with (rfl | rfl | rfl) | hk | hk
    · exact hC.1.trans hw.1.symm
    · exact hC.2.1.trans hw.2.1.symm
    · exact hC.2.2.trans hw.2.2.symm
    · exact hT k hk
    · exact hk.elim
-- Only, with a closure that reads alone
def OnlyAt (W : World) (q Bs kf : Nat) (kb : Array Value) : Prop := Boxed W q 31 (FOf Bs) ∧ Boxed W (q + 1) 38 (.func (.func kf) #[] kb)
theorem OnlyAt.below {W W' : World} {q Bs kf : Nat} {kb : Array Value} (h : OnlyAt W q Bs kf kb) (hb : Below W.heap.size W W') : OnlyAt W' q Bs kf kb := ⟨boxed_below h.1 hb, boxed_below h.2 hb⟩
abbrev FOn (q : Nat) : Value := .func (.func 40) #[] #[.pointer (some ⟨q, 0, none⟩), .pointer (some ⟨q + 1, 0, none⟩)]
theorem only_new (Bs kf : Nat) (kb : Array Value) (w : World) :
    Calls Try.prog 19 #[FOf Bs, .func (.func kf) #[] kb] w fun e w' => e = .returned (FOn w.heap.size) ∧ OnlyAt w' w.heap.size Bs kf kb ∧ Below w.heap.size w w' :=
  (only_any _ kf _ kb w).mono fun e w' h => ⟨h.1, by rw [h.2]; exact ⟨(Boxed.new w _ _).alloc _, boxed_new2 w _ _ _⟩, by rw [h.2]; exact below_al (below_al (below_rf w) _) _⟩
theorem list_only {W : World} {Bs q kf : Nat} {kb : Array Value} (ek : ∀ args w, (callFunc kf args).run Try.prog w = .ok (.enter kf args) w) {A : Option Addr} {c : Nat} {l : List Itm} (p : Itm → Bool) (Rk : Nat → Prop) (hRk : ∀ k, Rk k → k < W.heap.size ∧ k ≠ q ∧ k ≠ q + 1 ∧ ¬ ROf Bs A k)
    (hkp : ∀ i W', i < l.length → Still Rk W 0 W' → Calls Try.prog kf (#[.string (Str (itm l i).1), (.int .i64 ((itm l i)).2)] ++ kb) W' fun e W2 => e = .returned (.bool (p (itm l i))) ∧ W2 = W')
    (h : OfAt W Bs A c l) (hl : l.length ≤ 1000000000) (hw : OnlyAt W q Bs kf kb) (hq : ∀ k, ROf Bs A k → k < q) :
    Calls Try.prog 16 #[FOn q] W (RL W (l.filter p)) := by
  have hit := only_iter _ _ eOf l _ _ (h.iter hl) kf kb ek p Rk (fun _ => Still Rk W 0) (fun i W1 W2 h1 h2 => Still.keeps (fun k hk => (hRk k hk).1) 0 W1 W2 h1 h2) (fun i W' hi hs => (hkp i W' hi hs).mono fun e W2 h => ⟨h.1, h.2 ▸ hs, h.2 ▸ Mv.refl _ _⟩) q (q + 1)
    ⟨fun e => by have := hq _ e; omega, fun e => (hRk _ e).2.1 rfl⟩ ⟨fun e => by have := hq _ e; omega, fun e => (hRk _ e).2.2.1 rfl⟩ (fun k hk e => (hRk k e).2.2.2 hk) (fun i W' _ _ hT hK => ⟨hT, hK⟩)
  have hlt := List.length_filter_le p l
  refine (list_iter _ _ (enters_of Try.func40 (by kernel_rfl) rfl) (l.filter p) (by omega) _ _ hit W (fun k hk => ?_) ⟨0, Nat.zero_le _, rfl, fun k hk => rfl, fun k hk => rfl, hw⟩).mono fun e w' ⟨h1, h2, h3⟩ => ⟨h1, h2.quiet (fun k hk => ?_)⟩
  · rcases hk with (rfl | rfl) | hk | hk
    · exact hw.1.lt
    · exact hw.2.lt
    · exact h.rlt k hk
    · exact (hRk k hk).1
  · obtain ⟨i, _, _, hT, hK, hC⟩ := h3
    rcases hk with (rfl | rfl) | hk | hk
    · exact hC.1.trans hw.1.symm
    · exact hC.2.trans hw.2.symm
    · exact hT k hk
    · exact hK k hk
-- Made
def MadeAt (W : World) (q Bs mf : Nat) : Prop := Boxed W q 31 (FOf Bs) ∧ Boxed W (q + 1) 54 (.func (.func mf) #[] #[])
theorem MadeAt.below {W W' : World} {q Bs mf : Nat} (h : MadeAt W q Bs mf) (hb : Below W.heap.size W W') : MadeAt W' q Bs mf := ⟨boxed_below h.1 hb, boxed_below h.2 hb⟩
abbrev FMa (q : Nat) : Value := .func (.func 43) #[] #[.pointer (some ⟨q, 0, none⟩), .pointer (some ⟨q + 1, 0, none⟩)]
theorem made_new (Bs mf : Nat) (w : World) :
    Calls Try.prog 26 #[FOf Bs, .func (.func mf) #[] #[]] w fun e w' => e = .returned (FMa w.heap.size) ∧ MadeAt w' w.heap.size Bs mf ∧ Below w.heap.size w w' :=
  (made_any _ mf _ #[] w).mono fun e w' h => ⟨h.1, by rw [h.2]; exact ⟨(Boxed.new w _ _).alloc _, boxed_new2 w _ _ _⟩, by rw [h.2]; exact below_al (below_al (below_rf w) _) _⟩
theorem list_made {W : World} {Bs q mf : Nat} (ek : ∀ args w, (callFunc mf args).run Try.prog w = .ok (.enter mf args) w) {A : Option Addr} {c : Nat} {l : List Itm} (f : Itm → Int)
    (hmk : ∀ x W, Calls Try.prog mf (#[.string (Str x.1), (.int .i64 (x).2)] ++ #[]) W fun e W' => e = .returned (.int .i64 (f x)) ∧ W' = W) (h : OfAt W Bs A c l) (hl : l.length ≤ 1000000000) (hw : MadeAt W q Bs mf) (hq : ∀ k, ROf Bs A k → k < q) :
    Calls Try.prog 16 #[FMa q] W (RL W (madeL f l)) := by
  have hit := made_iter _ _ eOf l _ _ (h.iter hl) mf #[] ek f hmk q (q + 1) ⟨fun e => by have := hq _ e; omega, fun e => by have := hq _ e; omega⟩
  have hlen : (madeL f l).length = l.length := by unfold madeL; rw [List.length_map]
  rw [← hlen] at hit
  refine (list_iter _ _ (enters_of Try.func43 (by kernel_rfl) rfl) (madeL f l) (by omega) _ _ hit W (fun k hk => ?_) ⟨0, Nat.zero_le _, rfl, fun k hk => rfl, trivial, hw⟩).mono fun e w' ⟨h1, h2, h3⟩ => ⟨h1, h2.quiet (fun k hk => ?_)⟩
  · rcases hk with (rfl | rfl) | hk | hk
    · exact hw.1.lt
    · exact hw.2.lt
    · exact h.rlt k hk
    · exact hk.elim
  · obtain ⟨i, _, _, hT, hK, hC⟩ := h3
    rcases hk with (rfl | rfl) | hk | hk
    · exact hC.1.trans hw.1.symm
    · exact hC.2.trans hw.2.symm
    · exact hT k hk
    · exact hk.elim
-- Head
def HeadAt (W : World) (q Bs : Nat) (n : Int) : Prop := Boxed W q 31 (FOf Bs) ∧ Boxed W (q + 1) 3 (.int .i64 n)
theorem HeadAt.below {W W' : World} {q Bs : Nat} {n : Int} (h : HeadAt W q Bs n) (hb : Below W.heap.size W W') : HeadAt W' q Bs n := ⟨boxed_below h.1 hb, boxed_below h.2 hb⟩
abbrev FHe (q : Nat) : Value := .func (.func 42) #[] #[.pointer (some ⟨q + 1, 0, none⟩), .pointer (some ⟨q, 0, none⟩)]
theorem head_new (Bs : Nat) (n : Int) (w : World) :
    Calls Try.prog 24 #[FOf Bs, .int .i64 n] w fun e w' => e = .returned (FHe w.heap.size) ∧ HeadAt w' w.heap.size Bs n ∧ Below w.heap.size w w' :=
  (head_any n _ _ w).mono fun e w' h => ⟨h.1, by rw [h.2]; exact ⟨(Boxed.new w _ _).alloc _, boxed_new2 w _ _ _⟩, by rw [h.2]; exact below_al (below_al (below_rf w) _) _⟩
theorem list_head {W : World} {Bs q : Nat} {n : Int} (hn : -9223372036854775808 ≤ n ∧ n < 9223372036854775808) {A : Option Addr} {c : Nat} {l : List Itm} (h : OfAt W Bs A c l) (hl : l.length ≤ 1000000000) (hw : HeadAt W q Bs n) (hq : ∀ k, ROf Bs A k → k < q) :
    Calls Try.prog 16 #[FHe q] W (RL W (l.take n.toNat)) := by
  obtain ⟨N, hN⟩ : ∃ N, N = min n.toNat l.length := ⟨_, rfl⟩
  have hit := head_iter _ _ eOf l _ _ (h.iter hl) (q + 1) q n (fun e => by have := hq _ e; omega) (fun e => by have := hq _ e; omega) hn N hN
  have hlen : (l.take n.toNat).length = N := by rw [List.length_take, hN]
  have hit2 := iter_congr hit (encs' := encI (l.take n.toNat)) (fun i hi => encI_take l n.toNat i (by omega))
  rw [← hlen] at hit2
  refine (list_iter _ _ (enters_of Try.func42 (by kernel_rfl) rfl) (l.take n.toNat) (by omega) _ _ hit2 W (fun k hk => ?_) ⟨fun k hk => rfl, hw.2, hw.1⟩).mono fun e w' ⟨h1, h2, h3⟩ => ⟨h1, h2.quiet (fun k hk => ?_)⟩
  · rcases hk with rfl | rfl | hk
    · exact hw.2.lt
    · exact hw.1.lt
    · exact h.rlt k hk
  · obtain ⟨hT, hC1, hC2⟩ := h3
    rcases hk with rfl | rfl | hk
    · exact hC1.trans hw.2.symm
    · exact hC2.trans hw.1.symm
    · exact hT k hk
end Go.Proofs.Ytiemcfkekaklgaa.W02
