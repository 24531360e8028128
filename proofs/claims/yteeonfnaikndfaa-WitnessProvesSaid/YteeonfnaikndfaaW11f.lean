/- The walks of layers 8 and 11: a key found in a tree of any height. Layer 11 in plain words: two ways from one root that show unlike things have a first unlike text, of one fingerprint. The walks of layer 11: two unlike texts of one fingerprint. -/
import Derived.Test.YteeonfnaikndfaaW11
import Derived.Test.YteeonfnaikndfaaWit
set_option linter.unusedVariables false
set_option linter.unusedSimpArgs false
namespace Go.Proofs.Yteeonfnaikndfaa.W11
open Go Go.RowKit Go.Proofs.Yteeonfnaikndfaa.Lib Go.Proofs.Yteeonfnaikndfaa.Sha Go.Proofs.Yteeonfnaikndfaa.T08 Go.Proofs.Yteeonfnaikndfaa.QTail Go.Proofs.Yteeonfnaikndfaa.Itms Go.Proofs.Yteeonfnaikndfaa.WSeq Go.Proofs.Yteeonfnaikndfaa.Ord Go.Proofs.Yteeonfnaikndfaa.Tree Go.Proofs.Yteeonfnaikndfaa.W08 Go.Proofs.Yteeonfnaikndfaa.Wit Go.Proofs.Yteeonfnaikndfaa.W01 Go.Proofs.Yteeonfnaikndfaa.Bld Go.Proofs.Yteeonfnaikndfaa.Mp
open Go.Proofs.Yteeonfnaikndfaa.Run hiding round_any yield_any
attribute [local go_sem] Str_size Str_toList Str_extract
/-- where a way from a node on ends -/
def endFrom (f : Src) (key : List UInt8) (k : Nat) (n : Nat × List Itm) : Option (Nat × List Itm) := if endsAt n key = true then some n else
  (wayGo (srcNx f) key k () ((itm n.2 (placeS n.2 key)).2.take 32) n.1 (some (itm n.2 (placeS n.2 key)))).map (·.2.1)
theorem way_end (f : Src) (key : List UInt8) (k : Nat) (p : List UInt8) (lv : Nat) (x : Option Itm) : (wayGo (srcNx f) key (k + 1) () p lv x).map (·.2.1) = match f p with
    | none => none
    | some s => match nodeS s lv x with
      | none => none
      | some n => endFrom f key k n := by
  rw [way_step]
  unfold srcNx
  cases f p with
  | none => rfl
  | some s =>
    dsimp only
    cases nodeS s lv x with
    | none => rfl
    | some n =>
      dsimp only
      unfold endFrom srcNx
      by_cases h : endsAt n key = true
      · rw [if_pos h, if_pos h]; rfl
      · rw [if_neg h, if_neg h]
        rcases wayGo _ key k () _ n.1 _ with _ | ⟨ts, m, z⟩ <;> rfl
theorem way_root (f : Src) (key root : List UInt8) : (wayS (srcNx f) key () root).map (·.2.1) = match atS f root with
    | none => none
    | some n => endFrom f key 33 n := by
  unfold wayS
  rw [way_end]
  unfold atS
  cases f root with
  | none => rfl
  | some s =>
    dsimp only
    unfold nodeS
    cases parseS s <;> rfl
theorem way_below (f : Src) (key : List UInt8) (k lv : Nat) (x : Itm) : (wayGo (srcNx f) key (k + 1) () (x.2.take 32) lv (some x)).map (·.2.1) = match belowP f lv x with
    | none => none
    | some n => endFrom f key k n := by
  rw [way_end]
  unfold belowP atS
  cases f (x.2.take 32) with
  | none => rfl
  | some s =>
    dsimp only
    unfold nodeS
    cases hp : parseS s with
    | none => rfl
    | some n => rfl
def FindOut (r : Option (Nat × List Itm)) (key : List UInt8) (e : Ending) : Prop := match r with
  | none => e = .returned (.tuple #[.string (Str []), .bool false, .int .i64 6])
  | some n => match shownS n key with
    | none => e = .returned (.tuple #[.string (Str []), .bool false, .int .i64 0])
    | some v => e = .returned (.tuple #[.string (Str v), .bool true, .int .i64 0])
theorem find_none {n : Nat × List Itm} {key : List UInt8} {e : Ending} (h : shownS n key = none) (he : e = .returned (.tuple #[.string (Str []), .bool false, .int .i64 0])) : FindOut (some n) key e := by
  unfold FindOut; dsimp only; rw [h]; exact he
theorem find_some {n : Nat × List Itm} {key v : List UInt8} {e : Ending} (h : shownS n key = some v) (he : e = .returned (.tuple #[.string (Str v), .bool true, .int .i64 0])) : FindOut (some n) key e := by
  unfold FindOut; dsimp only; rw [h]; exact he
/-- a node, or none, in a cell -/
def NodeAt (B : Nat) (k : Int) (A : Option Addr) (n c : Nat) (ok : Bool) (r : Option (Nat × List Itm)) (W : World) : Prop :=
  if ok = true then ∃ (lv : Nat) (l : List Itm), r = some (lv, l) ∧ k = (lv : Int) ∧ n = l.length ∧ W.ownsRow B 93 2 (.slice A l.length c) l.length (its l) else r = none
theorem below_gen (hb mb n : Nat) (f : Src) (hf : ∀ k s, f k = some s → s.length ≤ 1000000000) (lv : Nat) (A : Option Addr) (N c : Nat) (x : Itm) (hlv : lv ≤ 1000000) (hx : x.2.length = 40) (w : World) (hH : HeapT w hb mb n f) :
    Calls Try.prog 54 #[.agg #[.int .i64 (lv : Int), .slice A N c], .iface 43 (.pointer (some ⟨hb, 0, none⟩)), .agg #[.string (Str x.1), .string (Str x.2)]] w fun e w' => (∃ k A' n' c' ok, e = .returned (.tuple #[.agg #[.int .i64 k, .slice A' n' c'], .bool ok]) ∧ NodeAt w.heap.size k A' n' c' ok (belowP f lv x) w') ∧ Below w.heap.size w w' := by
  refine (below_any hb mb n f hf lv A N c x hlv hx w hH).mono ?_
  rintro e w' ⟨ho, hB⟩
  refine ⟨?_, hB⟩
  rcases ho with ⟨hn, k, A', n', c', rfl⟩ | ⟨m, l, v, hs, rfl, hown⟩
  · exact ⟨k, A', n', c', false, rfl, by unfold NodeAt; rw [if_neg (by decide)]; exact hn⟩
  · obtain ⟨A', c', rfl⟩ := own_succ hown
    exact ⟨(m : Int), A', l.length, c', true, rfl, by unfold NodeAt; rw [if_pos rfl]; exact ⟨m, l, hs, rfl, rfl, hown⟩⟩
def findM (okv : Value) (b : Nat) (W : World) : Nat := match okv with
  | .bool true => 1 + (match W.cell? ⟨b, 0, none⟩ with | some (.int _ n) => n.toNat | _ => 0)
  | _ => 0
theorem set2 {W : World} {b : Nat} {T : TypeId} {c0 c1 d0 d1 : Value} (h : W.heap[b]? = some (.cells #[c0, c1] T (0, 0))) : ((W.setCell ⟨b, 0, none⟩ d0).setCell ⟨b, 1, none⟩ d1).heap[b]? = some (.cells #[d0, d1] T (0, 0)) := by
  have h1 := heap_setCell_same W b 0 _ _ d0 h
  exact heap_setCell_same (W.setCell ⟨b, 0, none⟩ d0) b 1 _ _ d1 h1
theorem end_step (f : Src) (key : List UInt8) (fu lv : Nat) (l : List Itm) (h : ¬ endsAt (lv, l) key = true) : endFrom f key (fu + 1) (lv, l) = match belowP f lv (itm l (placeS l key)) with
    | none => none
    | some n => endFrom f key fu n := by
  conv => lhs; unfold endFrom
  rw [if_neg h]
  exact way_below f key fu lv (itm l (placeS l key))
theorem findM_lt {b lv : Nat} {W W' : World} {k : Int} {v : Value} {T : TypeId} {ok : Bool} (h : W.heap[b]? = some (.cells #[.int .i64 (lv : Int), v] T (0, 0))) {v' : Value} (h' : W'.heap[b]? = some (.cells #[.int .i64 k, v'] T (0, 0))) (hk : ok = true → ∃ m : Nat, k = (m : Int) ∧ m < lv) : findM (.bool ok) b W' < findM (.bool true) b W := by
  have e1 : W.cell? ⟨b, 0, none⟩ = some (.int .i64 (lv : Int)) := by rw [Go.Lib.cell_of_heap h]; rfl
  have e2 : W'.cell? ⟨b, 0, none⟩ = some (.int .i64 k) := by rw [Go.Lib.cell_of_heap h']; rfl
  unfold findM
  rw [e1]
  cases ok with
  | false => show 0 < 1 + (lv : Int).toNat; omega
  | true =>
    obtain ⟨m, rfl, hm⟩ := hk rfl
    rw [e2]
    show 1 + (m : Int).toNat < 1 + (lv : Int).toNat
    omega
set_option maxRecDepth 100000 in
set_option maxHeartbeats 3000000 in
theorem find_any (hb mb n : Nat) (f : Src) (hf : ∀ k s, f k = some s → s.length ≤ 1000000000) (root key : List UInt8) (hroot : root.length ≤ 1000000000) (w : World) (hH : HeapT w hb mb n f) :
    Calls Try.prog 24 #[.iface 43 (.pointer (some ⟨hb, 0, none⟩)), .string (Str root), .string (Str key)] w fun e w' => FindOut ((wayS (srcNx f) key () root).map (·.2.1)) key e ∧ Below w.heap.size w w' := by
  have HAT := hid (at_any hb mb n f hf root hroot w hH)
  have HRT := hid (way_root f key root)
  obtain ⟨r, hr⟩ : ∃ r, r = (wayS (srcNx f) key () root).map (·.2.1) := ⟨_, rfl⟩
  rw [← hr] at HRT ⊢
  have HF := hid hf
  have HH := hid hH
  clear hr hf hH
  go_enter Try.func24, Try.ntmps24
  go_wp2_with fail
  refine HAT.out.mono ?_; rintro e w1 ⟨ho, hb1⟩
  have hgen : ∃ k A' n' c' ok, e = .returned (.tuple #[.agg #[.int .i64 k, .slice A' n' c'], .bool ok]) ∧ NodeAt w.heap.size k A' n' c' ok (atS f root) w1 := by
    rcases ho with ⟨hn, rfl⟩ | ⟨m, l, v, hs, rfl, hown⟩
    · exact ⟨0, none, 0, 0, false, rfl, by unfold NodeAt; rw [if_neg (by decide)]; exact hn⟩
    · obtain ⟨A', c', rfl⟩ := own_succ hown
      exact ⟨(m : Int), A', l.length, c', true, rfl, by unfold NodeAt; rw [if_pos rfl]; exact ⟨m, l, hs, rfl, rfl, hown⟩⟩
  obtain ⟨k0, A0, n0, c0, ok0, rfl, hnode⟩ := hgen
  obtain ⟨w2, hw2⟩ : ∃ w2, w2 = w1.alloc (Obj.cells #[.int .i64 k0, .slice A0 n0 c0] 77) := ⟨_, rfl⟩
  have hal : Below w1.heap.size w1 w2 := by rw [hw2]; exact below_al (below_rf w1) _
  have hcell : w2.heap[w1.heap.size]? = some (Obj.cells #[.int .i64 k0, .slice A0 n0 c0] 77 (0, 0)) := by rw [hw2]; exact heap_new _ _
  have HB2 := hid (below_tr hb1 hal)
  have HB1 := hid hb1
  have HAL := hid hal
  have HCELL := hid hcell
  have hinv : if ok0 = true then ∃ (lv : Nat) (l : List Itm), k0 = (lv : Int) ∧ n0 = l.length ∧ lv ≤ 32 ∧ l.length ≤ 16 ∧ (∀ x ∈ l, okVal lv x.2 = true) ∧ okS l = true ∧ endFrom f key 33 (lv, l) = r ∧ w2.ownsRow w.heap.size 93 2 (.slice A0 l.length c0) l.length (its l) else r = none := by
    unfold NodeAt at hnode
    cases ok0 with
    | false => rw [if_neg (by decide)] at hnode ⊢; rw [HRT.out, hnode]
    | true =>
      rw [if_pos rfl] at hnode ⊢
      obtain ⟨lv, l, h1, h2, h3, h4⟩ := hnode
      obtain ⟨q1, q2, q3, q4, _⟩ := at_facts h1
      exact ⟨lv, l, h2, h3, q1, q2, q3, right_ok q4, by rw [HRT.out, h1], own_of_below h4 hal⟩
  have HINV := hid hinv
  clear ho hnode hb1 hal hcell hinv
  go_wp2
  rw [← hw2]
  clear hw2
  go_loopw [10] (fun okv wr => ∃ (k : Int) (A : Option Addr) (n c : Nat) (ok : Bool) (fu : Nat), .bool ok = okv ∧ Hid (wr.heap[w1.heap.size]? = some (Obj.cells #[.int .i64 k, .slice A n c] 77 (0, 0))) ∧ Hid (if ok = true then ∃ (lv : Nat) (l : List Itm), k = (lv : Int) ∧ n = l.length ∧ lv ≤ fu ∧ lv ≤ 32 ∧ l.length ≤ 16 ∧ (∀ x ∈ l, okVal lv x.2 = true) ∧ okS l = true ∧ endFrom f key fu (lv, l) = r ∧ wr.ownsRow w.heap.size 93 2 (.slice A l.length c) l.length (its l) else r = none) ∧ Hid (Mv (fun j => j = w1.heap.size) w2 wr)) (fun okv wr => findM okv w1.heap.size wr)
  case atStart =>
    refine ⟨k0, A0, n0, c0, ok0, 33, rfl, HCELL, hid ?_, hid (Mv.refl _ _)⟩
    have := HINV.out
    cases ok0 with
    | false => exact this
    | true =>
      rw [if_pos rfl] at this ⊢
      obtain ⟨lv, l, h1, h2, h3, h4⟩ := this
      exact ⟨lv, l, h1, h2, by omega, h3, h4⟩
  case round =>
    obtain ⟨k, A, nn, c, ok, fu, rfl, HC, HI, HM⟩ := hrel
    have HBF := hid (HB1.out.trans ((HAL.out.trans (HM.out.below (n := w1.heap.size) HAL.out.size (fun j hj e => by omega))).mono HB1.out.size))
    cases ok with
    | false =>
      have hrn : r = none := by have := HI.out; rwa [if_neg (by decide)] at this
      have HRN := hid hrn
      clear hrn
      go_wp2
      go_ret3
      refine ⟨?_, HBF.out⟩
      rw [HRN.out]
      show _ = Ending.returned (.tuple #[.string (Str []), .bool false, .int .i64 6])
      rw [Str_nil]; rfl
    | true =>
      have hI := HI.out
      rw [if_pos rfl] at hI
      obtain ⟨lv, l, rfl, rfl, hlf, hlv, h16, hov, hok, hend, hown⟩ := hI
      obtain ⟨A', c', e9, hcc, hrd, _, _⟩ := Rd.own' hown
      injection e9 with e1 _ e3; subst e1; subst e3
      obtain ⟨i, hi⟩ : ∃ i, i = placeS l key := ⟨_, rfl⟩
      have hp : PlaceAt l key i := hi ▸ place_s l key hok
      have hil := hp.1
      have d0 : wr.cell? ⟨w1.heap.size, 0, none⟩ = some (.int .i64 (lv : Int)) := by rw [Go.Lib.cell_of_heap HC.out]; rfl
      have d1 : wr.cell? ⟨w1.heap.size, 1, none⟩ = some (.slice A l.length c) := by rw [Go.Lib.cell_of_heap HC.out]; rfl
      have hpl : Calls Try.prog 53 #[.agg #[.int .i64 (lv : Int), .slice A l.length c], .string (Str key)] wr fun e w' => e = .returned (.int .i64 (i : Int)) ∧ Below wr.heap.size wr w' := by
        refine (place_any (lv : Int) A c l key (by omega) hok wr hrd).mono ?_
        rintro e w2 ⟨⟨j, rfl, hj⟩, hb2⟩
        rw [place_one l key j i hj hp]
        exact ⟨rfl, hb2⟩
      have HPL := hid hpl
      have HE : Hid (endsAt (lv, l) key = (decide (lv = 0) || decide (i = l.length))) := hid (by unfold endsAt; rw [hi])
      have HS : Hid (shownS (lv, l) key = if lv = 0 ∧ i < l.length ∧ (itm l i).1 = key then some (itm l i).2 else none) := hid (by unfold shownS; rw [hi])
      have HEND := hid hend
      have HRD := hid hrd
      have HOV := hid hov
      have HIP := hid hi
      clear hpl hp hok hrd hend hov hown hi hcc
      go_wp2_with fail
      refine HPL.out.mono ?_; rintro e w3 ⟨rfl, hb3⟩
      have hcell3 := (hb3.block w1.heap.size (Array.getElem?_eq_some_iff.1 HC.out).1).trans HC.out
      have g0 : w3.cell? ⟨w1.heap.size, 0, none⟩ = some (.int .i64 (lv : Int)) := by rw [Go.Lib.cell_of_heap hcell3]; rfl
      have g1 : w3.cell? ⟨w1.heap.size, 1, none⟩ = some (.slice A l.length c) := by rw [Go.Lib.cell_of_heap hcell3]; rfl
      have HB3 := hid (HBF.out.trans (hb3.mono HBF.out.size))
      have HRD3 := hid (HRD.out.below hb3)
      have HC3 := hid hcell3
      have HM3 := hid (HM.out.trans (Mv.of_below hb3) (O := fun j => j = w1.heap.size) (O2 := fun j => j = w1.heap.size) (fun _ h => h) (fun _ _ h => h))
      clear hb3 hcell3 d0 d1
      have hdone : endsAt (lv, l) key = true → r = some (lv, l) := fun h => by have := HEND.out; unfold endFrom at this; rw [if_pos h] at this; exact this.symm
      by_cases h1 : i = l.length
      · have c1 : ((i : Int) == (l.length : Int)) = true := beq_iff_eq.2 (by omega)
        have HEE := hid (hdone (by rw [HE.out, decide_eq_true h1, Bool.or_true]))
        have HSS : Hid (shownS (lv, l) key = none) := hid (by rw [HS.out, if_neg (fun h => by omega)])
        clear h1 hdone
        go_wp2
        go_ret3
        refine ⟨?_, HB3.out⟩
        rw [HEE.out]
        refine find_none HSS.out ?_
        rw [Str_nil]; rfl
      · have c1 : ((i : Int) == (l.length : Int)) = false := beq_eq_false_iff_ne.2 (by omega)
        have hlt : i < l.length := by omega
        obtain ⟨b, o, rfl, hc1, hc2⟩ := rd_itm HRD3.out hlt
        obtain ⟨xk, hxk⟩ : ∃ xk, xk = (itm l i).1 := ⟨_, rfl⟩
        obtain ⟨xv, hxv⟩ : ∃ xv, xv = (itm l i).2 := ⟨_, rfl⟩
        have hxx : itm l i = (xk, xv) := by rw [hxk, hxv]
        rw [← hxk, ← hxv] at HS
        rw [← hxk] at hc1
        rw [← hxv] at hc2
        by_cases h0 : lv = 0
        · have e0 : ((lv : Int) == 0) = true := beq_iff_eq.2 (by omega)
          have HEE := hid (hdone (by rw [HE.out, decide_eq_true h0]; rfl))
          by_cases h2 : xk = key
          · have e2 : (xk == key) = true := beq_iff_eq.2 h2
            have HSS : Hid (shownS (lv, l) key = some xv) := hid (by rw [HS.out, if_pos ⟨h0, hlt, h2⟩])
            clear h0 h1 h2 hdone hxk hxv hxx
            go_wp2
            go_ret3
            refine ⟨?_, HB3.out⟩
            rw [HEE.out]
            exact find_some HSS.out rfl
          · have e2 : (xk == key) = false := beq_eq_false_iff_ne.2 h2
            have HSS : Hid (shownS (lv, l) key = none) := hid (by rw [HS.out, if_neg (fun h => h2 h.2.2)])
            clear h0 h1 h2 hdone hxk hxv hxx
            go_wp2
            go_ret3
            refine ⟨?_, HB3.out⟩
            rw [HEE.out]
            refine find_none HSS.out ?_
            rw [Str_nil]; rfl
        · have e0 : ((lv : Int) == 0) = false := beq_eq_false_iff_ne.2 (by omega)
          have hne : ¬ endsAt (lv, l) key = true := by rw [HE.out, decide_eq_false h0, decide_eq_false h1]; decide
          obtain ⟨fu', rfl⟩ : ∃ fu', fu = fu' + 1 := ⟨fu - 1, by omega⟩
          have hr2 := HEND.out
          rw [end_step f key fu' lv l hne, ← HIP.out, hxx] at hr2
          have HR2 := hid hr2
          have HX40 : Hid (xv.length = 40) := hid (by
            have := okVal_len (HOV.out (itm l i) (by rw [itm_eq l i hlt]; exact List.getElem_mem _)) (by omega)
            rwa [hxx] at this)
          have HH30 := HH.out.below HB3.out
          have HH3 : Hid (HeapT w3.drew hb mb n f) := hid (show HeapT w3.drew hb mb n f from HH30)
          clear HH30
          have HZ31 : Hid (w1.heap.size < w3.heap.size) := hid (Array.getElem?_eq_some_iff.1 HC3.out).1
          have hq3 : w3.frozen? ⟨w1.heap.size, 0, none⟩ = false := Go.Lib.frozen_of_heap HC3.out 0
          clear h0 h1 hdone hxk hxv hxx hne hr2
          go_wp2
          go_region_with (go_at_call 54; refine (below_gen hb mb n f HF.out lv _ _ _ (xk, xv) (by omega) HX40.out w3.drew HH3.out).mono ?_; rintro e w4 ⟨⟨k', A', n', c', ok', rfl, hnode⟩, hb4⟩; have hc4 := (hb4.block w1.heap.size HZ31.out).trans HC3.out; have q0 : w4.cell? ⟨w1.heap.size, 0, none⟩ = some (.int .i64 (lv : Int)) := (by rw [Go.Lib.cell_of_heap hc4]; rfl); have q1 : w4.cell? ⟨w1.heap.size, 1, none⟩ = some (.slice (some ⟨b, o, none⟩) l.length c) := (by rw [Go.Lib.cell_of_heap hc4]; rfl); have q2 : w4.frozen? ⟨w1.heap.size, 0, none⟩ = false := Go.Lib.frozen_of_heap hc4 0; have q3 : w4.frozen? ⟨w1.heap.size, 1, none⟩ = false := Go.Lib.frozen_of_heap hc4 1)
          all_goals
            have hs4 := set2 hc4 (d0 := .int .i64 k') (d1 := .slice A' n' c')
            have hm4 : Mv (fun j => j = w1.heap.size) w2 ((w4.setCell ⟨w1.heap.size, 0, none⟩ (.int .i64 k')).setCell ⟨w1.heap.size, 1, none⟩ (.slice A' n' c')) :=
              (((HM3.out.trans (Mv.of_below (O := fun j => j = w1.heap.size) (show Below w3.heap.size w3 w4 from (show Below w3.heap.size w3 w3.drew from below_drewN (below_rf w3) 1).trans hb4)) (fun _ h => h) (fun _ _ h => h)).trans (Mv.setCell (O := fun k => k = w1.heap.size) w4 ⟨w1.heap.size, 0, none⟩ _ rfl) (fun _ h => h) (fun _ _ h => h))).trans (Mv.setCell (O := fun k => k = w1.heap.size) _ ⟨w1.heap.size, 1, none⟩ _ rfl) (fun _ h => h) (fun _ _ h => h)
            have hnx : if ok' = true then ∃ (lv' : Nat) (l' : List Itm), k' = (lv' : Int) ∧ n' = l'.length ∧ lv' ≤ fu' ∧ lv' ≤ 32 ∧ l'.length ≤ 16 ∧ (∀ x ∈ l', okVal lv' x.2 = true) ∧ okS l' = true ∧ endFrom f key fu' (lv', l') = r ∧ ((w4.setCell ⟨w1.heap.size, 0, none⟩ (.int .i64 k')).setCell ⟨w1.heap.size, 1, none⟩ (.slice A' n' c')).ownsRow w.heap.size 93 2 (.slice A' l'.length c') l'.length (its l') else r = none := by
              unfold NodeAt at hnode
              cases ok' with
              | false => rw [if_neg (by decide)] at hnode ⊢; rw [← HR2.out, hnode]
              | true =>
                rw [if_pos rfl] at hnode ⊢
                obtain ⟨lv', l', h1, rfl, rfl, h4⟩ := hnode
                obtain ⟨p1, _, _, _, hat⟩ := below_lv h1
                dsimp only at p1
                obtain ⟨u1, u2, u3, u4, _⟩ := at_facts hat
                refine ⟨lv', l', rfl, rfl, by omega, u1, u2, u3, right_ok u4, by rw [← HR2.out, h1], ?_⟩
                have hz1 := HZ31.out
                have hz0 : w.heap.size ≤ w1.heap.size := HB1.out.size
                have hne : ∀ q : Addr, q.block = w1.heap.size → (Value.slice A' l'.length c').ownBlock ≠ some q.block := by
                  intro q hq e
                  have h5 : w3.heap.size ≤ q.block := own_block_base h4 _ e
                  omega
                exact own_setCell (own_setCell (own_base h4 (show w.heap.size ≤ w3.heap.size by omega)) ⟨w1.heap.size, 0, none⟩ _ (hne _ rfl)) ⟨w1.heap.size, 1, none⟩ _ (hne _ rfl)
            have hlt9 : ok' = true → ∃ m : Nat, k' = (m : Int) ∧ m < lv := fun h => by
              unfold NodeAt at hnode
              rw [if_pos h] at hnode
              obtain ⟨lv', l', h1, h2, _⟩ := hnode
              obtain ⟨p1, _⟩ := below_lv h1
              dsimp only at p1
              exact ⟨lv', h2, by omega⟩
            have HS4 := hid hs4
            have HM4 := hid hm4
            have HNX := hid hnx
            have HLT9 := hid hlt9
            clear hs4 hm4 hnx hlt9 hnode hb4 hc4
            simp only [List.getElem_toArray, List.getElem_cons_succ, List.getElem_cons_zero, Act.put, Array.set!_eq_setIfInBounds, List.setIfInBounds_toArray, List.set_cons_succ, List.set_cons_zero]
            go_wp2
            go_roundw
            case rel => exact ⟨k', A', n', c', ok', fu', rfl, HS4, HNX, HM4⟩
            case measure => exact findM_lt HC.out HS4.out HLT9.out
end Go.Proofs.Yteeonfnaikndfaa.W11
namespace Go.Proofs.Yteeonfnaikndfaa.Wit
open Go Go.RowKit Go.Proofs.Yteeonfnaikndfaa Go.Proofs.Yteeonfnaikndfaa.Lib Go.Proofs.Yteeonfnaikndfaa.Sha Go.Proofs.Yteeonfnaikndfaa.T07 Go.Proofs.Yteeonfnaikndfaa.T08 Go.Proofs.Yteeonfnaikndfaa.Itms Go.Proofs.Yteeonfnaikndfaa.WSeq Go.Proofs.Yteeonfnaikndfaa.Ord Go.Proofs.Yteeonfnaikndfaa.W08 Go.Proofs.Yteeonfnaikndfaa.Inj Go.Proofs.Yteeonfnaikndfaa.Tree
/-- the first unlike texts -/
def firstDiff : List (List UInt8) → List (List UInt8) → Option (List UInt8 × List UInt8)
  | x :: a, y :: b => if x = y then firstDiff a b else some (x, y)
  | _, _ => none
theorem diff_at (a b : List (List UInt8)) (k : Nat) (ha : k < a.length) (hb : k < b.length) : firstDiff (a.drop k) (b.drop k) = if sat a k = sat b k then firstDiff (a.drop (k + 1)) (b.drop (k + 1)) else some (sat a k, sat b k) := by
  rw [List.drop_eq_getElem_cons ha, List.drop_eq_getElem_cons hb, firstDiff, ← sat_eq a k ha, ← sat_eq b k hb]
theorem diff_end (a b : List (List UInt8)) (k : Nat) (h : a.length ≤ k ∨ b.length ≤ k) : firstDiff (a.drop k) (b.drop k) = none := by
  rcases h with h | h
  · rw [List.drop_of_length_le h]; rfl
  · rw [List.drop_of_length_le h]; cases a.drop k <;> rfl
/-- Two ways: the same, or a first unlike text of one fingerprint. -/
theorem two_ways {σ τ : Type} (nx1 : Next σ) (nx2 : Next τ) (h1 : ∀ st p t st', nx1 st p = some (t, st') → sha t = p) (h2 : ∀ st p t st', nx2 st p = some (t, st') → sha t = p) (key : List UInt8) :
    ∀ (k : Nat) (st1 : σ) (st2 : τ) (p : List UInt8) (lv : Nat) (x : Option Itm) (ts1 ts2 : List (List UInt8)) (n1 n2 : Nat × List Itm) (z1 : σ) (z2 : τ), wayGo nx1 key k st1 p lv x = some (ts1, n1, z1) → wayGo nx2 key k st2 p lv x = some (ts2, n2, z2) →
      n1 = n2 ∧ ts1 = ts2 ∨ ∃ a b, firstDiff ts1 ts2 = some (a, b) ∧ a ≠ b ∧ sha a = sha b ∧ a ∈ ts1 ∧ b ∈ ts2 := by
  intro k
  induction k with
  | zero => intro st1 st2 p lv x ts1 ts2 n1 n2 z1 z2 e1; rw [wayGo] at e1; cases e1
  | succ k ih =>
    intro st1 st2 p lv x ts1 ts2 n1 n2 z1 z2 e1 e2
    rw [way_step] at e1 e2
    cases q1 : nx1 st1 p with
    | none => rw [q1] at e1; cases e1
    | some r1 =>
      obtain ⟨s1, u1⟩ := r1
      cases q2 : nx2 st2 p with
      | none => rw [q2] at e2; cases e2
      | some r2 =>
        obtain ⟨s2, u2⟩ := r2
        rw [q1] at e1
        rw [q2] at e2
        dsimp only at e1 e2
        have a1 := h1 _ _ _ _ q1
        have a2 := h2 _ _ _ _ q2
        have hd1 : ∃ t1, ts1 = s1 :: t1 := by
          cases hn : nodeS s1 lv x with
          | none => rw [hn] at e1; cases e1
          | some m =>
            rw [hn] at e1
            dsimp only at e1
            split at e1
            · injection e1 with e1; injection e1 with e1 _; exact ⟨[], e1.symm⟩
            · split at e1
              · cases e1
              · injection e1 with e1; injection e1 with e1 _; exact ⟨_, e1.symm⟩
        have hd2 : ∃ t2, ts2 = s2 :: t2 := by
          cases hn : nodeS s2 lv x with
          | none => rw [hn] at e2; cases e2
          | some m =>
            rw [hn] at e2
            dsimp only at e2
            split at e2
            · injection e2 with e2; injection e2 with e2 _; exact ⟨[], e2.symm⟩
            · split at e2
              · cases e2
              · injection e2 with e2; injection e2 with e2 _; exact ⟨_, e2.symm⟩
        by_cases hs : s1 = s2
        · subst hs
          cases hn : nodeS s1 lv x with
          | none => rw [hn] at e1; cases e1
          | some m =>
            rw [hn] at e1 e2
            dsimp only at e1 e2
            by_cases he : endsAt m key = true
            · rw [if_pos he] at e1 e2
              injection e1 with e1; injection e1 with b1 b2; injection b2 with b2 _
              injection e2 with e2; injection e2 with c1 c2; injection c2 with c2 _
              exact .inl ⟨b2.symm.trans c2, b1.symm.trans c1⟩
            · rw [if_neg he] at e1 e2
              cases w1 : wayGo nx1 key k u1 ((itm m.2 (placeS m.2 key)).2.take 32) m.1 (some (itm m.2 (placeS m.2 key))) with
              | none => rw [w1] at e1; cases e1
              | some v1 =>
                obtain ⟨t1, m1, y1⟩ := v1
                cases w2 : wayGo nx2 key k u2 ((itm m.2 (placeS m.2 key)).2.take 32) m.1 (some (itm m.2 (placeS m.2 key))) with
                | none => rw [w2] at e2; cases e2
                | some v2 =>
                  obtain ⟨t2, m2, y2⟩ := v2
                  rw [w1] at e1
                  rw [w2] at e2
                  dsimp only at e1 e2
                  injection e1 with e1; injection e1 with b1 b2; injection b2 with b2 _
                  injection e2 with e2; injection e2 with c1 c2; injection c2 with c2 _
                  subst b1 b2 c1 c2
                  rcases ih _ _ _ _ _ _ _ _ _ _ _ w1 w2 with ⟨i1, i2⟩ | ⟨a, b, i1, i2, i3, i4, i5⟩
                  · exact .inl ⟨i1, by rw [i2]⟩
                  · refine .inr ⟨a, b, ?_, i2, i3, List.mem_cons_of_mem _ i4, List.mem_cons_of_mem _ i5⟩
                    rw [firstDiff, if_pos rfl]; exact i1
        · obtain ⟨t1, rfl⟩ := hd1
          obtain ⟨t2, rfl⟩ := hd2
          exact .inr ⟨s1, s2, by rw [firstDiff, if_neg hs], hs, a1.trans a2.symm, by simp, by simp⟩
/-- what Clash tells -/
def clashS (f : Src) (root key proof : List UInt8) : Option (List UInt8 × List UInt8) := match wayS (srcNx f) key () root, toldS root key proof with
  | some (a, n, _), some (b, m) => if shownS n key = shownS m key then none else firstDiff a b
  | _, _ => none
theorem way_all (f : Src) (Q : List UInt8 → Prop) (hf : ∀ k s, f k = some s → Q s) (key : List UInt8) : ∀ (k : Nat) (p : List UInt8) (lv : Nat) (x : Option Itm) (ts : List (List UInt8)) (n : Nat × List Itm) (z : Unit), wayGo (srcNx f) key k () p lv x = some (ts, n, z) → ∀ t ∈ ts, Q t := by
  intro k
  induction k with
  | zero => intro p lv x ts n z h; rw [wayGo] at h; cases h
  | succ k ih =>
    intro p lv x ts n z h
    rw [way_step] at h
    cases h1 : srcNx f () p with
    | none => rw [h1] at h; cases h
    | some q =>
      obtain ⟨s, st'⟩ := q
      have hs : Q s := by
        unfold srcNx at h1
        cases h9 : f p with
        | none => rw [h9] at h1; cases h1
        | some s' => rw [h9] at h1; injection h1 with h1; injection h1 with h1; subst h1; exact hf _ _ h9
      rw [h1] at h
      dsimp only at h
      cases h2 : nodeS s lv x with
      | none => rw [h2] at h; cases h
      | some m =>
        rw [h2] at h
        dsimp only at h
        split at h
        · injection h with h; injection h with e1 e2
          subst e1
          intro t ht; rw [List.mem_singleton.1 ht]; exact hs
        · cases h3 : wayGo (srcNx f) key k st' ((itm m.2 (placeS m.2 key)).2.take 32) m.1 (some (itm m.2 (placeS m.2 key))) with
          | none => rw [h3] at h; cases h
          | some r =>
            obtain ⟨ts', n', z'⟩ := r
            rw [h3] at h
            dsimp only at h
            injection h with h; injection h with e1 e2
            subst e1
            intro t ht
            rcases List.mem_cons.1 ht with e | ht
            · rw [e]; exact hs
            · exact ih _ _ _ _ _ _ h3 t ht
theorem way_inv {σ : Type} (nx : Next σ) (I : σ → Prop) (Q : List UInt8 → Prop) (hnx : ∀ st p t st', I st → nx st p = some (t, st') → Q t ∧ I st') (key : List UInt8) : ∀ (k : Nat) (st : σ) (p : List UInt8) (lv : Nat) (x : Option Itm) (ts : List (List UInt8)) (n : Nat × List Itm) (z : σ), I st → wayGo nx key k st p lv x = some (ts, n, z) → ∀ t ∈ ts, Q t := by
  intro k
  induction k with
  | zero => intro st p lv x ts n z _ h; rw [wayGo] at h; cases h
  | succ k ih =>
    intro st p lv x ts n z hI h
    rw [way_step] at h
    cases h1 : nx st p with
    | none => rw [h1] at h; cases h
    | some q =>
      obtain ⟨s, st'⟩ := q
      obtain ⟨hs, hI'⟩ := hnx _ _ _ _ hI h1
      rw [h1] at h
      dsimp only at h
      cases h2 : nodeS s lv x with
      | none => rw [h2] at h; cases h
      | some m =>
        rw [h2] at h
        dsimp only at h
        split at h
        · injection h with h; injection h with e1 e2
          subst e1
          intro t ht; rw [List.mem_singleton.1 ht]; exact hs
        · cases h3 : wayGo nx key k st' ((itm m.2 (placeS m.2 key)).2.take 32) m.1 (some (itm m.2 (placeS m.2 key))) with
          | none => rw [h3] at h; cases h
          | some r =>
            obtain ⟨ts', n', z'⟩ := r
            rw [h3] at h
            dsimp only at h
            injection h with h; injection h with e1 e2
            subst e1
            intro t ht
            rcases List.mem_cons.1 ht with e | ht
            · rw [e]; exact hs
            · exact ih _ _ _ _ _ _ _ hI' h3 t ht
theorem proof_len (N : Nat) : ∀ (st p t st' : List UInt8), st.length ≤ N → proofNx st p = some (t, st') → t.length ≤ N ∧ st'.length ≤ N := by
  intro st p t st' hl h
  unfold proofNx at h
  cases hc : cutP st with
  | none => rw [hc] at h; cases h
  | some q =>
    obtain ⟨a, b⟩ := q
    rw [hc] at h
    dsimp only at h
    split at h
    · injection h with h; injection h with h1 h2
      subst h1; subst h2
      unfold cutP at hc
      split at hc
      · cases hc
      · split at hc
        · cases hc
        · injection hc with hc; injection hc with c1 c2
          subst c1; subst c2
          simp only [List.length_drop, List.length_take]; omega
    · cases h
theorem proof_sha : ∀ (st p t st' : List UInt8), proofNx st p = some (t, st') → sha t = p := by
  intro st p t st' h
  unfold proofNx at h
  split at h
  · cases h
  · split at h
    · injection h with h; injection h with h1 h2; subst h1; rename_i hs; exact hs
    · cases h
/-- Of any bytes: where they show something else than a source, two unlike texts of one fingerprint are told; else none. -/
theorem sound_law (f : Src) (ns : List (List UInt8)) (hf : ∀ k s, f k = some s → s ∈ ns ∧ sha s = k) (root key proof : List UInt8) :
    (verifyS root key proof = none → clashS f root key proof = none) ∧ ((wayS (srcNx f) key () root).map (·.2.1) = none → clashS f root key proof = none) ∧
    ∀ s n, verifyS root key proof = some s → (wayS (srcNx f) key () root).map (·.2.1) = some n → (shownS n key = s → clashS f root key proof = none) ∧ (shownS n key ≠ s → ∃ a b, clashS f root key proof = some (a, b) ∧ a ≠ b ∧ sha a = sha b ∧ a ∈ ns ∧ b.length ≤ proof.length) := by
  refine ⟨fun h => ?_, fun h => ?_, fun s n hv hw => ?_⟩
  · unfold verifyS at h
    unfold clashS
    cases ht : toldS root key proof with
    | none => rcases wayS (srcNx f) key () root with _ | ⟨_, _, _⟩ <;> rfl
    | some q => rw [ht] at h; cases h
  · unfold clashS
    cases hw : wayS (srcNx f) key () root with
    | none => rfl
    | some q => rw [hw] at h; cases h
  · rcases hws : wayS (srcNx f) key () root with _ | ⟨ts, n1, z⟩
    · rw [hws] at hw; cases hw
    rw [hws] at hw
    injection hw with hw
    have hw : n1 = n := hw
    subst hw
    unfold verifyS at hv
    rcases ht : toldS root key proof with _ | ⟨us, m⟩
    · rw [ht] at hv; cases hv
    rw [ht] at hv
    injection hv with hv
    have hv : shownS m key = s := hv
    have hc : clashS f root key proof = if shownS n1 key = shownS m key then none else firstDiff ts us := by unfold clashS; rw [hws, ht]
    refine ⟨fun e => by rw [hc, if_pos (e.trans hv.symm)], fun e => ?_⟩
    rw [hc, if_neg (fun q => e (q.trans hv))]
    have hu : ∃ r, wayS proofNx key proof root = some (us, m, r) := by
      unfold toldS at ht
      split at ht
      · cases ht
      · split at ht
        · cases ht
        · rename_i ts' n' r' hw'
          split at ht
          · injection ht with ht; injection ht with e1 e2
            subst e1; subst e2
            exact ⟨r', hw'⟩
          · cases ht
    obtain ⟨r, hu⟩ := hu
    rcases two_ways (srcNx f) proofNx (fun st p t st' h => by
        unfold srcNx at h
        cases h9 : f p with
        | none => rw [h9] at h; cases h
        | some s' => rw [h9] at h; injection h with h; injection h with h; subst h; exact (hf _ _ h9).2) proof_sha key _ _ _ _ _ _ _ _ _ _ _ _ hws hu with ⟨i1, _⟩ | ⟨a, b, i1, i2, i3, i4, i5⟩
    · exact absurd (by rw [i1, hv]) e
    · exact ⟨a, b, i1, i2, i3, way_all f (fun t => t ∈ ns) (fun k s h => (hf k s h).1) key _ _ _ _ _ _ _ hws a i4, way_inv proofNx (fun r => r.length ≤ proof.length) (fun t => t.length ≤ proof.length) (proof_len proof.length) key _ _ _ _ _ _ _ _ (Nat.le_refl _) hu b i5⟩
end Go.Proofs.Yteeonfnaikndfaa.Wit
namespace Go.Proofs.Yteeonfnaikndfaa.W11
open Go Go.RowKit Go.Proofs.Yteeonfnaikndfaa.Lib Go.Proofs.Yteeonfnaikndfaa.Sha Go.Proofs.Yteeonfnaikndfaa.T08 Go.Proofs.Yteeonfnaikndfaa.QTail Go.Proofs.Yteeonfnaikndfaa.Itms Go.Proofs.Yteeonfnaikndfaa.WSeq Go.Proofs.Yteeonfnaikndfaa.Ord Go.Proofs.Yteeonfnaikndfaa.Tree Go.Proofs.Yteeonfnaikndfaa.W08 Go.Proofs.Yteeonfnaikndfaa.Wit Go.Proofs.Yteeonfnaikndfaa.W01 Go.Proofs.Yteeonfnaikndfaa.Bld Go.Proofs.Yteeonfnaikndfaa.Mp
open Go.Proofs.Yteeonfnaikndfaa.Run hiding round_any yield_any
attribute [local go_sem] Str_size Str_toList Str_extract
def ClashOut (r : Option (List UInt8 × List UInt8)) (e : Ending) : Prop := match r with
  | none => e = .returned (.tuple #[.string (Str []), .string (Str []), .bool false])
  | some (a, b) => e = .returned (.tuple #[.string (Str a), .string (Str b), .bool true])
/-- what shown answers, in one form -/
theorem shown_one {r : Option (List UInt8)} {e : Ending} (h : ShownOut r e) : e = .returned (.tuple #[.string (Str (r.getD [])), .bool r.isSome]) := by
  cases r <;> exact h
set_option maxRecDepth 100000 in
set_option maxHeartbeats 1600000 in
theorem clashw_any (hb mb n : Nat) (f : Src) (hf : ∀ k s, f k = some s → s.length ≤ 1000000000) (root key proof : List UInt8) (hroot : root.length ≤ 1000000000) (w : World) (hH : HeapT w hb mb n f) :
    Calls Try.prog 25 #[.iface 43 (.pointer (some ⟨hb, 0, none⟩)), .string (Str root), .string (Str key), .string (Str proof)] w fun e w' => ClashOut (clashS f root key proof) e ∧ Below w.heap.size w w' := by
  have HW := hid (way_heap hb mb n f hf root key hroot w hH)
  clear hf hH
  go_enter Try.func25, Try.ntmps25
  go_wp2_with fail
  refine HW.out.mono ?_; rintro e w1 ⟨ho, hb1⟩
  have hgen : ∃ (A : Option Addr) (N c : Nat) (k : Int) (A' : Option Addr) (N' c' : Nat) (ok : Bool), e = .returned (.tuple #[.slice A N c, .agg #[.int .i64 k, .slice A' N' c'], .bool ok]) ∧ (if ok = true then ∃ ts lv l, wayS (srcNx f) key () root = some (ts, (lv, l), ()) ∧ k = (lv : Int) ∧ N = ts.length ∧ N' = l.length ∧ Rd w1 A (strs ts) ∧ Rd w1 A' (its l) else wayS (srcNx f) key () root = none) := by
    rcases hws : wayS (srcNx f) key () root with _ | ⟨ts, ⟨lv, l⟩, z⟩
    · rw [hws] at ho
      exact ⟨none, 0, 0, 0, none, 0, 0, false, ho, by rw [if_neg (by decide)]⟩
    · rw [hws] at ho
      obtain ⟨v1, v2, rfl, ho1, ho2, _⟩ := ho
      obtain ⟨A1, c1, rfl, _, hr1, _, _⟩ := Rd.own' ho1
      obtain ⟨A2, c2, rfl, _, hr2, _, _⟩ := Rd.own' ho2
      exact ⟨A1, ts.length, c1, (lv : Int), A2, l.length, c2, true, rfl, by rw [if_pos rfl]; exact ⟨ts, lv, l, rfl, rfl, rfl, rfl, hr1, hr2⟩⟩
  obtain ⟨A1, N1, c1, k1, A2, N2, c2, ok1, rfl, hI1⟩ := hgen
  obtain ⟨w2, hw2⟩ : ∃ w2, w2 = w1.alloc (Obj.cells #[.int .i64 k1, .slice A2 N2 c2] 77) := ⟨_, rfl⟩
  have hal : Below w1.heap.size w1 w2 := by rw [hw2]; exact below_al (below_rf w1) _
  have hnod : w2.heap[w1.heap.size]? = some (Obj.cells #[.int .i64 k1, .slice A2 N2 c2] 77 (0, 0)) := by rw [hw2]; exact heap_new _ _
  have HT := hid (told_any root key proof hroot w2)
  have HI1 := hid hI1
  have HB2 := hid (below_tr hb1 hal)
  have HAL := hid hal
  have HNOD := hid hnod
  clear ho hI1 hb1 hal hnod
  go_wp2_with fail
  rw [← hw2]
  clear hw2
  (with_reducible refine HT.out.mono ?_); rintro e w3 ⟨ho, hb3⟩
  have hgen : ∃ (A : Option Addr) (N c : Nat) (k : Int) (A' : Option Addr) (N' c' : Nat) (ok : Bool), e = .returned (.tuple #[.slice A N c, .agg #[.int .i64 k, .slice A' N' c'], .bool ok]) ∧ (if ok = true then ∃ ts lv l, toldS root key proof = some (ts, (lv, l)) ∧ k = (lv : Int) ∧ N = ts.length ∧ N' = l.length ∧ Rd w3 A (strs ts) ∧ Rd w3 A' (its l) else toldS root key proof = none) := by
    rcases ho with ⟨hn, A, N, c, k, A', N', c', rfl⟩ | ⟨ts, lv, l, v1, v2, hs, rfl, ho1, ho2⟩
    · exact ⟨A, N, c, k, A', N', c', false, rfl, by rw [if_neg (by decide)]; exact hn⟩
    · obtain ⟨A1, c1, rfl, _, hr1, _, _⟩ := Rd.own' ho1
      obtain ⟨A2, c2, rfl, _, hr2, _, _⟩ := Rd.own' ho2
      exact ⟨A1, ts.length, c1, (lv : Int), A2, l.length, c2, true, rfl, by rw [if_pos rfl]; exact ⟨ts, lv, l, hs, rfl, rfl, rfl, hr1, hr2⟩⟩
  obtain ⟨A3, N3, c3, k3, A4, N4, c4, ok3, rfl, hI3⟩ := hgen
  obtain ⟨w4, hw4⟩ : ∃ w4, w4 = w3.alloc (Obj.cells #[.int .i64 k3, .slice A4 N4 c4] 77) := ⟨_, rfl⟩
  have hal4 : Below w3.heap.size w3 w4 := by rw [hw4]; exact below_al (below_rf w3) _
  have hnod4 : w4.heap[w3.heap.size]? = some (Obj.cells #[.int .i64 k3, .slice A4 N4 c4] 77 (0, 0)) := by rw [hw4]; exact heap_new _ _
  have hnod14 := (hal4.block w1.heap.size (Nat.lt_of_lt_of_le (Array.getElem?_eq_some_iff.1 HNOD.out).1 hb3.size)).trans ((hb3.block w1.heap.size (Array.getElem?_eq_some_iff.1 HNOD.out).1).trans HNOD.out)
  have HB24 := hid (below_tr hb3 hal4)
  have HB4 := hid (below_tr HB2.out (below_tr hb3 hal4))
  have HI3 := hid hI3
  have HAL4 := hid hal4
  have HN4 := hid hnod4
  have HN14 := hid hnod14
  clear ho hI3 hb3 hal4 hnod4 hnod14
  have hnone : ok1 = false ∨ ok3 = false → clashS f root key proof = none := fun h => by
    unfold clashS
    rcases h with h | h
    · have := HI1.out; rw [h, if_neg (by decide)] at this; rw [this]
    · have := HI3.out; rw [h, if_neg (by decide)] at this; rw [this]; rcases wayS (srcNx f) key () root with _ | ⟨_, _, _⟩ <;> rfl
  cases ok1 with
  | false =>
    have HCN := hid (hnone (.inl rfl))
    clear hnone
    rw [hw4] at HB4
    go_wp2
    go_ret3
    refine ⟨?_, HB4.out⟩
    rw [HCN.out]
    show _ = Ending.returned (.tuple #[.string (Str []), .string (Str []), .bool false])
    rw [Str_nil]; rfl
  | true =>
    cases ok3 with
    | false =>
      have HCN := hid (hnone (.inr rfl))
      clear hnone
      rw [hw4] at HB4
      go_wp2
      go_ret3
      refine ⟨?_, HB4.out⟩
      rw [HCN.out]
      show _ = Ending.returned (.tuple #[.string (Str []), .string (Str []), .bool false])
      rw [Str_nil]; rfl
    | true =>
      clear hnone
      have h1 := HI1.out
      have h3 := HI3.out
      rw [if_pos rfl] at h1 h3
      obtain ⟨ts, lv, l, hws, rfl, rfl, rfl, hr1, hr2⟩ := h1
      obtain ⟨us, mv, m, hus, rfl, rfl, rfl, hr3, hr4⟩ := h3
      obtain ⟨⟨s1, hp1⟩, _, htl⟩ := way_parse _ _ _ _ _ _ _ _ _ _ hws
      obtain ⟨⟨s2, hp2⟩, hul⟩ := told_parse hus
      have hf1 := parse_facts hp1
      have hf2 := parse_facts hp2
      have hcs : clashS f root key proof = if shownS (lv, l) key = shownS (mv, m) key then none else firstDiff ts us := by unfold clashS; rw [hws, hus]
      have HCS := hid hcs
      have d0 : w4.cell? ⟨w1.heap.size, 0, none⟩ = some (.int .i64 (lv : Int)) := by rw [Go.Lib.cell_of_heap HN14.out]; rfl
      have d1 : w4.cell? ⟨w1.heap.size, 1, none⟩ = some (.slice A2 l.length c2) := by rw [Go.Lib.cell_of_heap HN14.out]; rfl
      have HR2 := hid ((hr2.below HAL.out).below HB24.out)
      have HR1 := hid ((hr1.below HAL.out).below HB24.out)
      have HR3 := hid (hr3.below HAL4.out)
      have HR4 := hid (hr4.below HAL4.out)
      have HSH1 := hid (shown_any lv l key A2 c2 (by omega) (by omega) (right_ok hf1.2.2.2.1) w4 HR2.out)
      have HOK2 := hid (right_ok hf2.2.2.2.1)
      have HML := hid (show m.length ≤ 16 ∧ mv ≤ 32 from ⟨hf2.2.1, hf2.1⟩)
      clear hws hus hr1 hr2 hr3 hr4 hp1 hp2 hf1 hf2 hcs HI1 HI3
      rw [hw4] at d0 d1
      have HW4 := hid hw4
      clear hw4
      go_wp2_with fail
      rw [← HW4.out]
      (with_reducible refine HSH1.out.mono ?_); rintro e w5 ⟨ho, hb5⟩
      obtain rfl := shown_one ho
      have hn5 := (hb5.block w3.heap.size (Array.getElem?_eq_some_iff.1 HN4.out).1).trans HN4.out
      have e0 : w5.cell? ⟨w3.heap.size, 0, none⟩ = some (.int .i64 (mv : Int)) := by rw [Go.Lib.cell_of_heap hn5]; rfl
      have e1 : w5.cell? ⟨w3.heap.size, 1, none⟩ = some (.slice A4 m.length c4) := by rw [Go.Lib.cell_of_heap hn5]; rfl
      have HSH2 := hid (shown_any mv m key A4 c4 (by have := HML.out; omega) (by have := HML.out; omega) HOK2.out w5 (HR4.out.below hb5))
      have HR15 := hid (HR1.out.below hb5)
      have HR35 := hid (HR3.out.below hb5)
      have HB5 := hid (below_tr HB4.out hb5)
      clear ho hb5 hn5 d0 d1
      go_wp2_with fail
      (with_reducible refine HSH2.out.mono ?_); rintro e w6 ⟨ho, hb6⟩
      obtain rfl := shown_one ho
      have HR16 := hid (HR15.out.below hb6)
      have HR36 := hid (HR35.out.below hb6)
      have HB6 := hid (below_tr HB5.out hb6)
      clear ho hb6 e0 e1
      obtain ⟨r1, hr1⟩ : ∃ r, r = shownS (lv, l) key := ⟨_, rfl⟩
      obtain ⟨r2, hr2⟩ : ∃ r, r = shownS (mv, m) key := ⟨_, rfl⟩
      rw [← hr1, ← hr2] at HCS
      rw [← hr1, ← hr2]
      clear hr1 hr2
      obtain ⟨M, hM⟩ : ∃ M, M = min ts.length us.length := ⟨_, rfl⟩
      have HMM : Hid (M ≤ ts.length ∧ M ≤ us.length ∧ (ts.length ≤ M ∨ us.length ≤ M)) := hid (by omega)
      have hmin : (if us.length < ts.length then (us.length : Int) else (ts.length : Int)) = (M : Int) := by split <;> omega
      have hml : M ≤ 34 := by omega
      clear hM
      obtain ⟨v1, hv1⟩ : ∃ v, v = r1.getD [] := ⟨_, rfl⟩
      obtain ⟨v2, hv2⟩ : ∃ v, v = r2.getD [] := ⟨_, rfl⟩
      obtain ⟨b1, hb1⟩ : ∃ b, b = r1.isSome := ⟨_, rfl⟩
      obtain ⟨b2, hb2⟩ : ∃ b, b = r2.isSome := ⟨_, rfl⟩
      have hiff : r1 = r2 ↔ v1 = v2 ∧ b1 = b2 := by
        rw [hv1, hv2, hb1, hb2]
        cases r1 <;> cases r2 <;> simp
      rw [← hv1, ← hb1, ← hv2, ← hb2]
      clear hv1 hv2 hb1 hb2
      by_cases q1 : v1 = v2
      · have t1 : (v1 == v2) = true := beq_iff_eq.2 q1
        by_cases q2 : b1 = b2
        · have t2 : (b1 == b2) = true := beq_iff_eq.2 q2
          have HCL : Hid (clashS f root key proof = none) := hid (by rw [HCS.out, if_pos (hiff.2 ⟨q1, q2⟩)])
          have HQ1 := hid q1
          have HQ2 := hid q2
          clear hiff q1 q2 hmin
          go_wp2
          go_ret3
          refine ⟨?_, HB6.out⟩
          rw [HCL.out]
          show _ = Ending.returned (.tuple #[.string (Str []), .string (Str []), .bool false])
          rw [Str_nil]; rfl
        · have t2 : (b1 == b2) = false := beq_eq_false_iff_ne.2 q2
          have HCL : Hid (clashS f root key proof = firstDiff ts us) := hid (by rw [HCS.out, if_neg (fun h => q2 (hiff.1 h).2)])
          have HQ1 := hid q1
          clear hiff q1 q2
          go_wp2
          go_loopw [71] (fun ix wr => ∃ k : Nat, k ≤ M ∧ ix = .int .i64 (k : Int) ∧ Hid (firstDiff (ts.drop k) (us.drop k) = firstDiff ts us) ∧ Hid (Below w.heap.size w wr) ∧ Hid (Rd wr A1 (strs ts)) ∧ Hid (Rd wr A3 (strs us))) (fun ix _ => M - (intOf ix).toNat)
          case atStart => exact ⟨0, Nat.zero_le _, rfl, hid rfl, HB6, HR16, HR36⟩
          case round =>
            obtain ⟨k, hk, rfl, HD, HBR, HRA, HRB⟩ := hrel
            by_cases hlt : k < M
            · obtain ⟨ba, oa, rfl, ha1⟩ := Rd.str HRA.out (j := k) (by have := HMM.out; omega)
              obtain ⟨bb, ob, rfl, hb1⟩ := Rd.str HRB.out (j := k) (by have := HMM.out; omega)
              have hdk := diff_at ts us k (by have := HMM.out; omega) (by have := HMM.out; omega)
              rw [HD.out] at hdk
              obtain ⟨x, hx⟩ : ∃ x, x = sat ts k := ⟨_, rfl⟩
              obtain ⟨y, hy⟩ : ∃ y, y = sat us k := ⟨_, rfl⟩
              rw [← hx] at ha1 hdk
              rw [← hy] at hb1 hdk
              have kt : k < ts.length := by have := HMM.out; omega
              have ku : k < us.length := by have := HMM.out; omega
              clear hx hy
              by_cases he : x = y
              · have e1 : (x == y) = true := beq_iff_eq.2 he
                rw [if_pos he] at hdk
                have HDK := hid hdk
                have HE := hid he
                clear hdk he
                go_wp2
                go_quiet (fail)
                go_wp2
                go_roundw
                case rel => exact ⟨k + 1, by omega, by go_num, hid HDK.out.symm, hid (below_drewN HBR.out _), hid (HRA.out.drewN _), hid (HRB.out.drewN _)⟩
                case measure => simp [intOf]; omega
              · have e1 : (x == y) = false := beq_eq_false_iff_ne.2 he
                rw [if_neg he] at hdk
                have HDK := hid hdk
                clear hdk he
                go_wp2
                go_quiet (fail)
                go_wp2
                go_quiet (fail)
                go_wp2
                go_ret3
                refine ⟨?_, below_drewN (below_drewN HBR.out _) _⟩
                rw [HCL.out, HDK.out]
                rfl
            · obtain rfl : k = M := by omega
              have hde : firstDiff ts us = none := by rw [← HD.out]; exact diff_end ts us _ (by have := HMM.out; omega)
              have HDE := hid hde
              clear hde
              go_wp2
              go_ret3
              refine ⟨?_, HBR.out⟩
              rw [HCL.out, HDE.out]
              show _ = Ending.returned (.tuple #[.string (Str []), .string (Str []), .bool false])
              rw [Str_nil]; rfl
      · have t1 : (v1 == v2) = false := beq_eq_false_iff_ne.2 q1
        have HCL : Hid (clashS f root key proof = firstDiff ts us) := hid (by rw [HCS.out, if_neg (fun h => q1 (hiff.1 h).1)])
        clear hiff q1
        go_wp2
        go_loopw [71] (fun ix wr => ∃ k : Nat, k ≤ M ∧ ix = .int .i64 (k : Int) ∧ Hid (firstDiff (ts.drop k) (us.drop k) = firstDiff ts us) ∧ Hid (Below w.heap.size w wr) ∧ Hid (Rd wr A1 (strs ts)) ∧ Hid (Rd wr A3 (strs us))) (fun ix _ => M - (intOf ix).toNat)
        case atStart => exact ⟨0, Nat.zero_le _, rfl, hid rfl, HB6, HR16, HR36⟩
        case round =>
          obtain ⟨k, hk, rfl, HD, HBR, HRA, HRB⟩ := hrel
          by_cases hlt : k < M
          · obtain ⟨ba, oa, rfl, ha1⟩ := Rd.str HRA.out (j := k) (by have := HMM.out; omega)
            obtain ⟨bb, ob, rfl, hb1⟩ := Rd.str HRB.out (j := k) (by have := HMM.out; omega)
            have hdk := diff_at ts us k (by have := HMM.out; omega) (by have := HMM.out; omega)
            rw [HD.out] at hdk
            obtain ⟨x, hx⟩ : ∃ x, x = sat ts k := ⟨_, rfl⟩
            obtain ⟨y, hy⟩ : ∃ y, y = sat us k := ⟨_, rfl⟩
            rw [← hx] at ha1 hdk
            rw [← hy] at hb1 hdk
            have kt : k < ts.length := by have := HMM.out; omega
            have ku : k < us.length := by have := HMM.out; omega
            clear hx hy
            by_cases he : x = y
            · have e1 : (x == y) = true := beq_iff_eq.2 he
              rw [if_pos he] at hdk
              have HDK := hid hdk
              have HE := hid he
              clear hdk he
              go_wp2
              go_quiet (fail)
              go_wp2
              go_roundw
              case rel => exact ⟨k + 1, by omega, by go_num, hid HDK.out.symm, hid (below_drewN HBR.out _), hid (HRA.out.drewN _), hid (HRB.out.drewN _)⟩
              case measure => simp [intOf]; omega
            · have e1 : (x == y) = false := beq_eq_false_iff_ne.2 he
              rw [if_neg he] at hdk
              have HDK := hid hdk
              clear hdk he
              go_wp2
              go_quiet (fail)
              go_wp2
              go_quiet (fail)
              go_wp2
              go_ret3
              refine ⟨?_, below_drewN (below_drewN HBR.out _) _⟩
              rw [HCL.out, HDK.out]
              rfl
          · obtain rfl : k = M := by omega
            have hde : firstDiff ts us = none := by rw [← HD.out]; exact diff_end ts us _ (by have := HMM.out; omega)
            have HDE := hid hde
            clear hde
            go_wp2
            go_ret3
            refine ⟨?_, HBR.out⟩
            rw [HCL.out, HDE.out]
            show _ = Ending.returned (.tuple #[.string (Str []), .string (Str []), .bool false])
            rw [Str_nil]; rfl
end Go.Proofs.Yteeonfnaikndfaa.W11
