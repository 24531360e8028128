/- The walks of layer 11: what a proof shows; the proof. -/
import Derived.Test.YtbggeccaoibleaaW11c
set_option linter.unusedVariables false
set_option linter.unusedSimpArgs false
namespace Go.Proofs.Ytbggeccaoibleaa.W11
open Go Go.RowKit Go.Proofs.Ytbggeccaoibleaa.Lib Go.Proofs.Ytbggeccaoibleaa.Sha Go.Proofs.Ytbggeccaoibleaa.T08 Go.Proofs.Ytbggeccaoibleaa.QTail Go.Proofs.Ytbggeccaoibleaa.Itms Go.Proofs.Ytbggeccaoibleaa.WSeq Go.Proofs.Ytbggeccaoibleaa.Ord Go.Proofs.Ytbggeccaoibleaa.Tree Go.Proofs.Ytbggeccaoibleaa.W08 Go.Proofs.Ytbggeccaoibleaa.Wit Go.Proofs.Ytbggeccaoibleaa.W01 Go.Proofs.Ytbggeccaoibleaa.Bld Go.Proofs.Ytbggeccaoibleaa.Mp
open Go.Proofs.Ytbggeccaoibleaa.Run hiding round_any yield_any
attribute [local go_sem] Str_size Str_toList Str_extract
def VerifyOut (r : Option (Option (List UInt8))) (e : Ending) : Prop := match r with
  | none => e = .returned (.tuple #[.string (Str []), .bool false, .bool false])
  | some none => e = .returned (.tuple #[.string (Str []), .bool false, .bool true])
  | some (some v) => e = .returned (.tuple #[.string (Str v), .bool true, .bool true])
set_option maxRecDepth 100000 in
set_option maxHeartbeats 800000 in
theorem verify_any (root key proof : List UInt8) (hroot : root.length ≤ 1000000000) (w : World) :
    Calls Try.prog 26 #[.string (Str root), .string (Str key), .string (Str proof)] w fun e w' => VerifyOut (verifyS root key proof) e ∧ Below w.heap.size w w' := by
  have HT := hid (told_any root key proof hroot w)
  go_enter Try.func26, Try.ntmps26
  go_wp2_with fail
  refine HT.out.mono ?_; rintro e w1 ⟨ho, hb1⟩
  rcases ho with ⟨hn, A, n, c, k, A', n', c', rfl⟩ | ⟨ts, lv, l, v1, v2, hs, rfl, ho1, ho2⟩
  · have hv : verifyS root key proof = none := by unfold verifyS; rw [hn]
    have HV := hid hv
    have HB := hid (below_tr hb1 (below_al (below_rf w1) (Obj.cells #[.int .i64 k, .slice A' n' c'] 79)))
    clear hn hv hb1
    go_wp2
    go_ret3
    refine ⟨?_, HB.out⟩
    rw [HV.out]
    show _ = Ending.returned (.tuple #[.string (Str []), .bool false, .bool false])
    rw [Str_nil]; rfl
  · obtain ⟨A1, c1, rfl⟩ := own_succ ho1
    obtain ⟨A2, c2, rfl, hcc, hrd, _, _⟩ := Rd.own' ho2
    have hv : verifyS root key proof = some (shownS (lv, l) key) := by unfold verifyS; rw [hs]
    obtain ⟨⟨s, hp⟩, _⟩ := told_parse hs
    have hpf := parse_facts hp
    obtain ⟨w2, hw2⟩ : ∃ w2, w2 = w1.alloc (Obj.cells #[.int .i64 (lv : Int), .slice A2 l.length c2] 79) := ⟨_, rfl⟩
    have hal : Below w1.heap.size w1 w2 := by rw [hw2]; exact below_al (below_rf w1) _
    have n0 : w2.cell? ⟨w1.heap.size, 0, none⟩ = some (.int .i64 (lv : Int)) := by rw [hw2]; simp [World.cell?_alloc_at]
    have n1 : w2.cell? ⟨w1.heap.size, 1, none⟩ = some (.slice A2 l.length c2) := by rw [hw2]; simp [World.cell?_alloc_at]
    have HSH := hid (shown_any lv l key A2 c2 (by omega) (by omega) (right_ok hpf.2.2.2.1) w2 (hrd.below hal))
    have HV := hid hv
    have HB := hid (below_tr hb1 hal)
    rw [hw2] at n0 n1
    have HW2 := hid hw2
    clear hs hv hb1 ho1 ho2 hrd hal hp hpf hw2 hcc
    go_wp2_with fail
    rw [← HW2.out]
    refine HSH.out.mono ?_; rintro e w3 ⟨ho, hb3⟩
    have HB3 := hid (below_tr HB.out hb3)
    clear hb3
    rcases hsh : shownS (lv, l) key with _ | v
    · rw [hsh] at ho
      rw [hsh] at HV
      obtain rfl : e = _ := ho
      clear hsh
      go_wp2
      go_ret3
      refine ⟨?_, HB3.out⟩
      rw [HV.out]
      rfl
    · rw [hsh] at ho
      rw [hsh] at HV
      obtain rfl : e = _ := ho
      clear hsh
      go_wp2
      go_ret3
      refine ⟨?_, HB3.out⟩
      rw [HV.out]
      rfl
/-- what the proof of a key is -/
def ProveOut (r : Option (List (List UInt8) × (Nat × List Itm) × Unit)) (e : Ending) : Prop := match r with
  | none => e = .returned (.tuple #[.string (Str []), .int .i64 6])
  | some (ts, _, _) => e = .returned (.tuple #[.string (Str (bytesS ts)), .int .i64 0])
theorem bytes_snoc (ts : List (List UInt8)) (k : Nat) (h : k < ts.length) : bytesS (ts.take (k + 1)) = bytesS (ts.take k) ++ (four (sat ts k).length ++ sat ts k) := by
  rw [take_sat ts k h]; simp [bytesS]
theorem bytes_len (ts : List (List UInt8)) (N : Nat) (h : ∀ t ∈ ts, t.length ≤ N) : (bytesS ts).length ≤ ts.length * (N + 4) := by
  induction ts with
  | nil => simp [bytesS]
  | cons t ts ih =>
    have h1 := ih (fun x hx => h x (List.mem_cons_of_mem _ hx))
    have h2 := h t (by simp)
    have e : bytesS (t :: ts) = four t.length ++ t ++ bytesS ts := by simp [bytesS]
    rw [e, List.length_append, List.length_append, List.length_cons, Nat.succ_mul]
    have : (four t.length).length = 4 := rfl
    omega
theorem get_nx (hb mb n : Nat) (f : Src) (hf : ∀ k s, f k = some s → s.length ≤ 1000000000) (p : List UInt8) (W : World) (hH : HeapT W hb mb n f) (hp : p.length ≤ 1000000000) :
    Calls Try.prog 140 #[.pointer (some ⟨hb, 0, none⟩), .string (Str p)] W fun e W' => Mv (fun _ => False) W W' ∧ ((srcNx f () p = none ∧ ∃ t, e = .returned (.tuple #[.string (Str t), .bool false])) ∨ ∃ t st', srcNx f () p = some (t, st') ∧ e = .returned (.tuple #[.string (Str t), .bool true]) ∧ t.length ≤ 1000000000 ∧ HeapT W' hb mb n f) := by
  refine (get_any hb mb n f p hp W hH).mono ?_
  rintro e W' ⟨rfl, rfl⟩
  refine ⟨Mv.refl _ _, ?_⟩
  unfold srcNx
  cases hk : f p with
  | none => exact .inl ⟨rfl, _, rfl⟩
  | some s => exact .inr ⟨s, (), rfl, rfl, hf p s hk, hH⟩
/-- The way in a source: nothing that stood is changed. -/
theorem way_heap (hb mb n : Nat) (f : Src) (hf : ∀ k s, f k = some s → s.length ≤ 1000000000) (root key : List UInt8) (hroot : root.length ≤ 1000000000) (w : World) (hH : HeapT w hb mb n f) :
    Calls Try.prog 57 #[.string (Str root), .string (Str key), .func (.method "Get") #[.iface 32 (.pointer (some ⟨hb, 0, none⟩))] #[]] w fun e w' => WayOut (fun _ W => HeapT W hb mb n f) w.heap.size (wayS (srcNx f) key () root) e w' ∧ Below w.heap.size w w' := by
  refine (waysrc (srcNx f) (fun _ W => HeapT W hb mb n f) (fun _ => False) (fun k => k = hb ∨ k = mb) hb (fun st W W' h hm => h.mv hm (fun h => h (.inl rfl)) (fun h => h (.inr rfl))) (fun st p W h hp => get_nx hb mb n f hf p W h hp) root key hroot () w (fun k hk => hk.elim) (fun k hk => by
    rcases hk with rfl | rfl
    · exact (Array.getElem?_eq_some_iff.1 hH.1).1
    · exact hH.2.lt) hH).mono ?_
  rintro e w' ⟨ho, hm⟩
  exact ⟨ho, hm.below (Nat.le_refl _) (fun k hk h => h)⟩
theorem way_short (f : Src) (N : Nat) (hf : ∀ k s, f k = some s → s.length ≤ N) (key : List UInt8) : ∀ (k : Nat) (p : List UInt8) (lv : Nat) (x : Option Itm) (ts : List (List UInt8)) (n : Nat × List Itm) (z : Unit), wayGo (srcNx f) key k () p lv x = some (ts, n, z) → ∀ t ∈ ts, t.length ≤ N := by
  intro k
  induction k with
  | zero => intro p lv x ts n z h; rw [wayGo] at h; cases h
  | succ k ih =>
    intro p lv x ts n z h
    rw [way_step] at h
    cases h1 : srcNx f () p with
    | none => rw [h1] at h; cases h
    | some q =>
      obtain ⟨s, st'⟩ := q
      have hs : s.length ≤ N := by
        unfold srcNx at h1
        cases h9 : f p with
        | none => rw [h9] at h1; cases h1
        | some s' => rw [h9] at h1; injection h1 with h1; injection h1 with h1; subst h1; exact hf _ _ h9
      rw [h1] at h
      dsimp only at h
      cases h2 : nodeS s lv x with
      | none => rw [h2] at h; cases h
      | some m =>
        rw [h2] at h
        dsimp only at h
        split at h
        · injection h with h; injection h with e1 e2
          subst e1
          intro t ht; rw [List.mem_singleton.1 ht]; exact hs
        · cases h3 : wayGo (srcNx f) key k st' ((itm m.2 (placeS m.2 key)).2.take 32) m.1 (some (itm m.2 (placeS m.2 key))) with
          | none => rw [h3] at h; cases h
          | some r =>
            obtain ⟨ts', n', z'⟩ := r
            rw [h3] at h
            dsimp only at h
            injection h with h; injection h with e1 e2
            subst e1
            intro t ht
            rcases List.mem_cons.1 ht with e | ht
            · rw [e]; exact hs
            · exact ih _ _ _ _ _ _ h3 t ht
set_option maxRecDepth 100000 in
set_option maxHeartbeats 1600000 in
theorem prove_any (hb mb n : Nat) (f : Src) (hf : ∀ k s, f k = some s → s.length ≤ 1000000000) (root key : List UInt8) (hroot : root.length ≤ 1000000000) (w : World) (hH : HeapT w hb mb n f) :
    Calls Try.prog 28 #[.iface 32 (.pointer (some ⟨hb, 0, none⟩)), .string (Str root), .string (Str key)] w fun e w' => ProveOut (wayS (srcNx f) key () root) e ∧ Below w.heap.size w w' := by
  have HW := hid (way_heap hb mb n f hf root key hroot w hH)
  have HF := hid hf
  clear hf
  go_enter Try.func28, Try.ntmps28
  go_wp2_with fail
  refine HW.out.mono ?_; rintro e w1 ⟨ho, hb1⟩
  rcases hws : wayS (srcNx f) key () root with _ | ⟨ts, ⟨lv, l⟩, z⟩
  · rw [hws] at ho
    obtain rfl : e = _ := ho
    have HB := hid (below_tr hb1 (below_al (below_rf w1) (Obj.cells #[.int .i64 0, .slice none 0 0] 79)))
    have HWS := hid hws
    clear hb1 hws
    go_wp2
    go_ret2
    refine ⟨?_, HB.out⟩
    rw [HWS.out]
    show _ = Ending.returned (.tuple #[.string (Str []), .int .i64 6])
    rw [Str_nil]; rfl
  · rw [hws] at ho
    obtain ⟨v1, v2, rfl, ho1, ho2, _⟩ := ho
    obtain ⟨A1, c1, rfl, hc1, hrd1, _, _⟩ := Rd.own' ho1
    obtain ⟨A2, c2, rfl⟩ := own_succ ho2
    obtain ⟨_, _, htl⟩ := way_parse _ _ _ _ _ _ _ _ _ _ hws
    have hsh := way_short f 1000000000 HF.out key _ _ _ _ _ _ _ hws
    have hbl := bytes_len ts 1000000000 hsh
    obtain ⟨w3, hw3⟩ : ∃ w3, w3 = (w1.alloc (Obj.cells #[.int .i64 (lv : Int), .slice A2 l.length c2] 79)).alloc (Obj.cells #[Value.pointer none, Value.slice none 0 0] 113) := ⟨_, rfl⟩
    have hb3 : Below w1.heap.size w1 w3 := by rw [hw3]; exact below_al (below_al (below_rf w1) _) _
    have z3 : w3.heap.size = w1.heap.size + 2 := by rw [hw3]; simp
    have hbld : w3.heap[w1.heap.size + 1]? = some (Obj.cells #[Value.pointer none, Value.slice none 0 0] 113 (0, 0)) := by rw [hw3]; exact heap_new' _ _ (by simp)
    have hib : IsB (w1.heap.size + 1) (w1.heap.size + 1) [] w3 := .inl ⟨Nat.le_refl _, _, hbld, own_nil _ _ _ _, by simp [Value.ownBlock]⟩
    have HRD := hid hrd1
    have HB13 := hid hb3
    have HB3 := hid (below_tr hb1 hb3)
    have HIB := hid hib
    have HSH := hid hsh
    have HBL := hid hbl
    have HZ3 := hid z3
    have HZ1 := hid hb1.size
    have HWS := hid hws
    clear ho1 ho2 hrd1 hws hsh hb3 z3 hbld hib hbl hb1 hc1
    go_wp2
    rw [← hw3]
    clear hw3
    obtain ⟨B, hB⟩ : ∃ B, B = w1.heap.size + 1 := ⟨_, rfl⟩
    rw [← hB] at HIB ⊢
    have HB := hid hB
    have hBz : B ≤ w3.heap.size := by rw [HZ3.out]; omega
    clear hB
    go_loopw [29] (fun i wr => ∃ k : Nat, k ≤ ts.length ∧ i = .int .i64 (k : Int) ∧ Hid (IsB B B (bytesS (ts.take k)) wr) ∧ Below B w3 wr) (fun i _ => ts.length - (intOf i).toNat)
    case atStart => exact ⟨0, by omega, rfl, by simpa [bytesS] using HIB, below_rf w3 |>.mono hBz⟩
    case round =>
      obtain ⟨k, hk, rfl, HI, hBr⟩ := hrel
      by_cases hlt : k < ts.length
      · obtain ⟨b, o, rfl, hc1⟩ := Rd.str (HRD.out.below (HB13.out.trans (hBr.mono (by rw [HB.out]; omega)))) hlt
        obtain ⟨t, ht⟩ : ∃ t, t = sat ts k := ⟨_, rfl⟩
        rw [← ht] at hc1
        have htl2 : t.length ≤ 1000000000 := by rw [ht, sat_eq ts k hlt]; exact HSH.out _ (List.getElem_mem hlt)
        have HT := hid ht
        clear ht
        have hbk : (bytesS (ts.take k)).length ≤ 34000000136 := by
          have h1 := bytes_len (ts.take k) 1000000000 (fun x hx => HSH.out x (List.mem_of_mem_take hx))
          have h2 : (ts.take k).length ≤ 34 := by rw [List.length_take]; omega
          have h3 : (ts.take k).length * (1000000000 + 4) ≤ 34 * 1000000004 := Nat.mul_le_mul h2 (Nat.le_refl _)
          omega
        have hsr : B + 1 ≤ wr.heap.size := by have := hBr.size; rw [HZ3.out] at this; rw [HB.out]; omega
        obtain ⟨wa, hwa⟩ : ∃ wa, wa = wr.alloc (Obj.cells #[Value.int IntKind.u8 ((t.length : Int) / 16777216), Value.int IntKind.u8 ((t.length : Int) / 65536 % 256), Value.int IntKind.u8 ((t.length : Int) / 256 % 256), Value.int IntKind.u8 ((t.length : Int) % 256)] 5) := ⟨_, rfl⟩
        have hba : Below wr.heap.size wr wa := by rw [hwa]; exact below_al (below_rf wr) _
        have hrow : Rd wa (some ⟨wr.heap.size, 0, none⟩) (byts (four t.length)) := by
          refine .inr ⟨_, _, rfl, fun j x hj => ?_⟩
          have e : byts (four t.length) = [Value.int IntKind.u8 ((t.length : Int) / 16777216), Value.int IntKind.u8 ((t.length : Int) / 65536 % 256), Value.int IntKind.u8 ((t.length : Int) / 256 % 256), Value.int IntKind.u8 ((t.length : Int) % 256)] := by
            simp only [byts, four, List.map_cons, List.map_nil]
            rw [u8_toNat _ (by omega), u8_toNat _ (by omega), u8_toNat _ (by omega), u8_toNat _ (by omega)]
            rw [show ((t.length / 16777216 : Nat) : Int) % 256 = (t.length : Int) / 16777216 by omega]
            rfl
          rw [e] at hj
          rw [hwa, World.cell?_alloc_at _ _ _ _ (by simp), Nat.zero_add, ← hj]
          simp
        have hw := wbytes_any B B (bytesS (ts.take k)) (four t.length) (some ⟨wr.heap.size, 0, none⟩) 4 wa (isb_below HI.out hba) hrow (by rw [show (four t.length).length = 4 from rfl]; omega) (by have := hba.size; omega) (by intro a h; injection h with h; subst h; show wr.heap.size ≠ B; omega) (by simp) (by intro a h; injection h with h; subst h; rfl)
        have HWB := hid hw
        have HBA := hid (hBr.trans (hba.mono (by omega : B ≤ wr.heap.size)))
        have hza := hba.size
        clear hw hrow hba
        go_wp2_with fail
        rw [← hwa]
        clear hwa
        refine HWB.out.mono ?_; rintro e w5 ⟨rfl, hI5, hB5⟩
        have hz5 := hB5.size
        have hh := wstr_any B B _ t w5 hI5 (by rw [List.length_append, show (four t.length).length = 4 from rfl]; omega) (by omega)
        have HH := hid hh
        have HB5 := hid (HBA.out.trans hB5)
        clear hh hI5 hB5
        go_wp2_with fail
        refine HH.out.mono ?_; rintro e w6 ⟨rfl, hI6, hB6⟩
        rw [List.append_assoc, HT.out, ← bytes_snoc ts k hlt] at hI6
        have HI6 := hid hI6
        have HB6 := hid (HB5.out.trans hB6)
        clear hI6 hB6
        go_wp2
        go_roundw
        case rel => exact ⟨k + 1, by omega, by go_num, HI6, HB6.out⟩
        case measure => simp [intOf]; omega
      · obtain rfl : k = ts.length := by omega
        rw [List.take_length] at HI
        have hsr : B ≤ wr.heap.size := by have := hBr.size; rw [HZ3.out] at this; rw [HB.out]; omega
        go_wp2_with fail
        refine (wstring_any B B _ _ HI.out hsr).mono ?_; rintro e w5 ⟨rfl, hb5⟩
        have HF : Hid (Below w.heap.size w w5) := hid ((HB3.out.trans (hBr.mono (by rw [HB.out]; have := HZ1.out; omega))).trans (hb5.mono (by rw [HB.out]; have := HZ1.out; omega)))
        clear hb5
        go_wp2
        go_ret2
        refine ⟨?_, HF.out⟩
        rw [HWS.out]
        rfl
end Go.Proofs.Ytbggeccaoibleaa.W11
