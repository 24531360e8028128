/- The walks of the document's answers of layer 11: a proof's texts. -/
import Derived.Test.YteeonfnaikndfaaP08q
import Derived.Test.YteeonfnaikndfaaWitv
import Derived.Test.YteeonfnaikndfaaW11
set_option linter.unusedVariables false
set_option linter.unusedSimpArgs false
namespace Go.Proofs.Yteeonfnaikndfaa.P08
open Go Go.RowKit Go.Proofs.Yteeonfnaikndfaa Go.Proofs.Yteeonfnaikndfaa.Lib Go.Proofs.Yteeonfnaikndfaa.Sha Go.Proofs.Yteeonfnaikndfaa.T07 Go.Proofs.Yteeonfnaikndfaa.T08 Go.Proofs.Yteeonfnaikndfaa.Itms Go.Proofs.Yteeonfnaikndfaa.WSeq Go.Proofs.Yteeonfnaikndfaa.Ord Go.Proofs.Yteeonfnaikndfaa.W08 Go.Proofs.Yteeonfnaikndfaa.W01 Go.Proofs.Yteeonfnaikndfaa.Inj Go.Proofs.Yteeonfnaikndfaa.Tree Go.Proofs.Yteeonfnaikndfaa.Bld Go.Proofs.Yteeonfnaikndfaa.QTail Go.Proofs.Yteeonfnaikndfaa.Wit
attribute [local go_sem] Str_size Str_toList Str_extract Str_append Str_get bt_nn bt_lt List.length_append take_rest
def txLen : Value → Nat
  | .string b => b.size
  | _ => 0
theorem nodes_bound {s : List UInt8} {l : List (List UInt8)} (h : nodesS s = some l) : l.length * 4 ≤ s.length ∧ ∀ t ∈ l, t.length ≤ s.length := by
  suffices H : ∀ (k : Nat) (s : List UInt8) (l : List (List UInt8)), s.length ≤ k → nodesS s = some l → l.length * 4 ≤ s.length ∧ ∀ t ∈ l, t.length ≤ s.length from H _ s l (Nat.le_refl _) h
  clear h s l
  intro k
  induction k with
  | zero =>
    intro s l hk h
    obtain rfl : s = [] := List.eq_nil_of_length_eq_zero (by omega)
    rw [nodes_nil] at h
    injection h with h; subst h
    exact ⟨Nat.zero_le _, fun t ht => by cases ht⟩
  | succ k ih =>
    intro s l hk h
    by_cases h0 : s = []
    · subst h0
      rw [nodes_nil] at h
      injection h with h; subst h
      exact ⟨Nat.zero_le _, fun t ht => by cases ht⟩
    · rw [nodes_cut h0] at h
      cases hc : cutP s with
      | none => rw [hc] at h; cases h
      | some q =>
        obtain ⟨t, r⟩ := q
        rw [hc] at h
        dsimp only at h
        obtain ⟨h1, h2⟩ := cut_rest hc
        cases hr : nodesS r with
        | none => rw [hr] at h; cases h
        | some l' =>
          rw [hr] at h
          injection h with h
          have h : t :: l' = l := h
          subst h
          obtain ⟨i1, i2⟩ := ih r l' (by omega) hr
          refine ⟨by rw [List.length_cons]; omega, fun x hx => ?_⟩
          rcases List.mem_cons.1 hx with e | hx
          · rw [e]; omega
          · have := i2 x hx; omega
def NodesOut (B : Nat) (r : Option (List (List UInt8))) (e : Ending) (W : World) : Prop :=
  (r = none ∧ e = .returned (.tuple #[.slice none 0 0, .bool false])) ∨ ∃ l v, r = some l ∧ e = .returned (.tuple #[v, .bool true]) ∧ W.ownsRow B 9 1 v l.length (strs l)
set_option maxRecDepth 100000 in
set_option maxHeartbeats 3200000 in
theorem nodes_any (s : List UInt8) (w : World) (hs : s.length ≤ 1000000000) :
    Calls Try.prog 40 #[.string (Str s)] w fun e w' => NodesOut w.heap.size (nodesS s) e w' ∧ Below w.heap.size w w' := by
  go_enter Try.func40, Try.ntmps40
  go_wp2
  go_loopw [0, 4] (fun sv v wr => ∃ (st : List UInt8) (acc : List (List UInt8)), sv = .string (Str st) ∧ acc.length + st.length ≤ s.length ∧ Hid (nodesS s = (nodesS st).map (acc ++ ·)) ∧ wr.ownsRow w.heap.size 9 1 v acc.length (strs acc) ∧ Hid (Below w.heap.size w wr)) (fun sv _ _ => txLen sv)
  case atStart => exact ⟨s, [], rfl, by simp, hid (by cases nodesS s <;> rfl), own_nil _ _ _ _, hid (below_rf w)⟩
  case round =>
    obtain ⟨st, acc, rfl, hlen, HN, hown, HB⟩ := hrel
    obtain ⟨A0, c0, rfl⟩ := own_succ hown
    have HOWN := hid hown
    clear hown
    by_cases h0 : 0 < st.length
    · have g0 : decide ((0 : Int) < (st.length : Int)) = true := decide_eq_true (by omega)
      have g0n : decide (0 < st.length) = true := decide_eq_true h0
      have hcut : nodesS st = match cutP st with
          | none => none
          | some (t, r) => (nodesS r).map (t :: ·) := nodes_cut (List.length_pos_iff.1 h0)
      have HCUT := hid hcut
      clear hcut
      by_cases h4 : st.length < 4
      · have g4 : decide ((st.length : Int) < 4) = true := decide_eq_true (by omega)
        have HR : Hid (nodesS s = none) := hid (by rw [HN.out, HCUT.out, show cutP st = none by unfold cutP; rw [if_pos h4]]; rfl)
        clear h4 h0
        go_wp2
        go_ret2
        exact ⟨.inl ⟨HR.out, rfl⟩, HB.out⟩
      · have g4 : decide ((st.length : Int) < 4) = false := decide_eq_false (by omega)
        have h4' : 4 ≤ st.length := by omega
        obtain ⟨n, hn⟩ : ∃ n, n = n4 st := ⟨_, rfl⟩
        have hn1 : n < 4294967296 := by rw [hn]; exact W11.n4_lt st
        have hw2 : bits .or .i64 (bits .or .i64 (bits .or .i64 (wrap64 (wrap64 (bt st 0) * 16777216)) (wrap64 (wrap64 (bt st 1) * 65536))) (wrap64 (wrap64 (bt st 2) * 256))) (wrap64 (bt st 3)) = (n : Int) := by rw [hn]; exact W11.n4_walk st
        have wn : IntKind.i64.wrap ((st.length : Int) - 4) = (st.length : Int) - 4 := by rw [IntKind.wrap_i64]; omega
        have wn4 : IntKind.i64.wrap (4 + (n : Int)) = 4 + (n : Int) := by rw [IntKind.wrap_i64]; omega
        by_cases h3 : st.length - 4 < n
        · have g3 : decide ((st.length : Int) - 4 < (n : Int)) = true := decide_eq_true (by omega)
          have HR : Hid (nodesS s = none) := hid (by rw [HN.out, HCUT.out, show cutP st = none by unfold cutP; rw [if_neg h4, ← hn, if_pos h3]]; rfl)
          clear h4 h0 h3 hn
          go_wp2
          go_quiet (fail)
          go_wp2
          go_ret2
          exact ⟨.inl ⟨HR.out, rfl⟩, below_drewN HB.out _⟩
        · have g3 : decide ((st.length : Int) - 4 < (n : Int)) = false := decide_eq_false (by omega)
          have h3' : 4 + n ≤ st.length := by omega
          obtain ⟨t, ht⟩ : ∃ t, t = (st.drop 4).take n := ⟨_, rfl⟩
          obtain ⟨r, hr⟩ : ∃ r, r = (st.drop 4).drop n := ⟨_, rfl⟩
          have hrl : r.length + 4 + n = st.length := by rw [hr]; simp only [List.length_drop]; omega
          have HR : Hid (nodesS s = (nodesS r).map ((acc ++ [t]) ++ ·)) := hid (by
            rw [HN.out, HCUT.out, show cutP st = some (t, r) by unfold cutP; rw [if_neg h4, ← hn, if_neg h3, ht, hr]]
            dsimp only
            cases nodesS r <;> simp)
          have HT := hid ht
          have HRR : Hid (r = st.drop (4 + n)) := hid (by rw [hr, List.drop_drop])
          clear h4 h0 h3 hn ht hr
          go_wp2
          go_quiet (fail)
          have HOWN2 : Hid ((wr.drewN nq).ownsRow w.heap.size 9 1 (.slice A0 acc.length c0) acc.length (strs acc)) := hid (show wr.ownsRow _ _ _ _ _ _ from HOWN.out)
          have HB2 : Hid (Below w.heap.size w (wr.drewN nq)) := hid (below_drewN HB.out nq)
          go_wp2_with (at_builtin; (refine wpList_appN W11.ti_st (.tmp 35) (.tmp 40) (by rfl) (by rfl) w.heap.size [.string (Str ((st.drop 4).take n))] 9 1 1 (by rfl) (by rfl) HOWN2.out (by rfl) (by simp [Value.oneCell']) HB2.out HB2.out.size (by omega) ?_; intro A7 c7 w7 ho7 hg7 hB7 hs7))
          go_wp2
          go_roundw
          case rel => exact ⟨r, acc ++ [t], by rw [HRR.out], by simp; omega, HR, by rw [← strs_app, List.length_append, HT.out]; exact ho7, hid hB7⟩
          case measure => show (Str _).size < (Str _).size; rw [Str_size, Str_size, List.length_drop]; omega
    · have g0 : decide ((0 : Int) < (st.length : Int)) = false := decide_eq_false (by omega)
      have g0n : decide (0 < st.length) = false := decide_eq_false h0
      have he : st = [] := List.eq_nil_of_length_eq_zero (by omega)
      have HR : Hid (nodesS s = some acc) := hid (by rw [HN.out, he, nodes_nil]; simp)
      clear he
      go_wp2
      go_ret2
      exact ⟨.inr ⟨acc, _, HR.out, rfl, HOWN.out⟩, HB.out⟩
theorem bel_one {t : List UInt8} {lv : Nat} {x : Itm} (h : sha t = x.2.take 32) : belowP (getL [t]) lv x = nodeS t lv (some x) := by
  have hg : getL [t] (x.2.take 32) = some t := by unfold getL; rw [List.find?_cons_of_pos (by simpa using h)]
  rw [bel_at]
  unfold atS nodeS
  rw [hg]
  dsimp only
  cases parseS t <;> rfl
theorem rd_one {W : World} {b o : Nat} {l : List (List UInt8)} (h : Rd W (some ⟨b, o, none⟩) (strs l)) (i : Nat) (hi : i < l.length) : Rd W (some ⟨b, o + i, none⟩) (strs [sat l i]) := by
  obtain ⟨b', o', e, hc⟩ := h.str hi
  injection e with e; injection e with e1 e2; subst e1; subst e2
  refine .inr ⟨b, o + i, rfl, fun j x hj => ?_⟩
  match j with
  | 0 => simp [strs] at hj; rw [Nat.add_zero, hc, hj]
  | j + 1 => simp [strs] at hj
/-- how far a key's place is looked for -/
theorem place_done {l : List Itm} {key : List UInt8} {a : Nat} (hok : okS l = true) (ha : a ≤ l.length) (h1 : ∀ t, t < a → ltS (itm l t).1 key = true) (h2 : a < l.length → ltS (itm l a).1 key = false) : a = placeS l key :=
  place_one l key a _ ⟨ha, h1, fun t ht htl => place_hi l key hok a t ht htl (h2 (by omega))⟩ (place_s l key hok)
set_option maxRecDepth 100000 in
set_option maxHeartbeats 6400000 in
theorem vref_any (root key proof : List UInt8) (hp : proof.length ≤ 1000000) (w : World) :
    Calls Try.prog 18 #[.string (Str root), .string (Str key), .string (Str proof)] w fun e w' => W11.VerifyOut (verifyS root key proof) e ∧ Below w.heap.size w w' := by
  have HVL := hid (verify_list root key proof (by omega))
  obtain ⟨R, hR⟩ : ∃ R, R = verifyS root key proof := ⟨_, rfl⟩
  rw [← hR] at HVL ⊢
  clear hR
  have hno : R = none → W11.VerifyOut R (.returned (.tuple #[.string ⟨#[]⟩, .bool false, .bool false])) := fun h => by rw [h]; show _ = _; rw [Str_nil]
  have HNO := hid hno
  have HNA := hid (nodes_any proof w (by omega))
  have g1 : decide ((1048576 : Int) < (proof.length : Int)) = false := decide_eq_false (by omega)
  have g1n : decide (1048576 < proof.length) = false := decide_eq_false (by omega)
  clear hno
  go_enter Try.func18, Try.ntmps18
  go_wp2_with fail
  (with_reducible refine HNA.out.mono ?_); rintro e w1 ⟨ho, hb1⟩
  rcases ho with ⟨hn, rfl⟩ | ⟨l, v, hn, rfl, hown⟩
  · have HR := hid (show R = none by rw [HVL.out, hn])
    clear hn
    go_wp2
    go_ret3
    exact ⟨HNO.out HR.out, hb1⟩
  · obtain ⟨A, c, rfl, hlc, hrd, _, _⟩ := Rd.own' hown
    have hV : R = showL key (wayS listNx key l root) := by rw [HVL.out, hn]
    have hbnd := nodes_bound hn
    cases l with
    | nil =>
      have HR := hid (show R = none by rw [hV]; unfold wayS; rw [way_step]; rfl)
      clear hn hV hown hbnd
      go_wp2
      go_ret3
      exact ⟨HNO.out HR.out, hb1⟩
    | cons t rest =>
      rw [verify_first] at hV
      obtain ⟨L, hL⟩ : ∃ L, L = t :: rest := ⟨_, rfl⟩
      have hd1 : rest = L.drop 1 := by rw [hL]; rfl
      have hs0 : t = sat L 0 := by rw [hL]; rfl
      have hl0 : 0 < L.length := by rw [hL]; simp
      rw [← hL] at hown hlc hrd hn hbnd ⊢
      clear hL
      obtain ⟨b, o, rfl, hc0⟩ := hrd.str0 hl0
      rw [← hs0] at hc0
      have hll : L.length ≤ 1000000 := by have := hbnd.1; omega
      have htl : t.length ≤ 1000000 := by have := hbnd.2 t (by rw [hs0, sat_eq L 0 hl0]; exact List.getElem_mem hl0); omega
      have gl0 : ((L.length : Int) == 0) = false := beq_eq_false_iff_ne.2 (by omega)
      have HPG := hid (parse_gen t w1 (by omega))
      have HRD := hid hrd
      have HV := hid hV
      have HB1 := hid hb1
      have HD1 := hid hd1
      have HSL := hid (show ∀ x ∈ L, x.length ≤ 1000000 from fun x hx => by have := hbnd.2 x hx; omega)
      clear hn hV hown hbnd hd1 hs0 hrd hb1
      go_wp2_with fail
      (with_reducible refine HPG.out.mono ?_); rintro e w2 ⟨⟨k, A2, n2, c2, ok, rfl, hat⟩, hb2⟩
      have HB2 := hid (below_tr HB1.out hb2)
      have HRD2 := hid (HRD.out.below hb2)
      have hc2 : w2.cell? ⟨b, o, none⟩ = some (.string (Str t)) := (hb2.cell (World.block_lt_of_cell? _ _ hc0)).trans hc0
      unfold RootAt at hat
      cases ok with
      | false =>
        rw [if_neg (by decide)] at hat
        have HR := hid (show R = none by rw [HV.out, hat.1]; split <;> rfl)
        clear hat hb2
        go_wp2
        go_ret3
        exact ⟨HNO.out HR.out, HB2.out⟩
      | true =>
        rw [if_pos rfl] at hat
        obtain ⟨lv, its, hps, rfl, rfl, hown2⟩ := hat
        obtain ⟨f1, f2, f3, f4, _⟩ := parse_facts hps
        have HOW2 := hid hown2
        have HF3 := hid f3
        have HOK := hid (right_ok f4)
        have HPR := hid (print_ref_any t w2 (by omega))
        obtain ⟨q, hq⟩ : ∃ q, q = sha t := ⟨_, rfl⟩
        rw [← hq] at HPR
        have HV2 : Hid (R = if q = root then endL key 33 (lv, its) (L.drop 1) else none) := hid (by rw [HV.out, hps, hq, ← HD1.out])
        clear f3 f4 hps hown2 hb2 hq HV HD1
        go_wp2_with fail
        (with_reducible refine HPR.out.mono ?_); rintro e w3 ⟨rfl, hb3⟩
        have HB3 := hid (below_tr HB2.out hb3)
        have HRD3 := hid (HRD2.out.below hb3)
        have HOW3 := hid (own_base (own_of_below HOW2.out hb3) HB1.out.size)
        by_cases hqr : q = root
        · have gq : (q == root) = true := beq_iff_eq.2 hqr
          have gqn : (q != root) = false := by rw [bne, gq]; rfl
          have HV3 : Hid (endL key 33 (lv, its) (L.drop 1) = R) := hid (by rw [HV2.out, if_pos hqr])
          clear hqr hb3 HV2 hc0 hc2
          go_wp2
          have HGE := hid f2
          go_loopw [11, 12, 14] (fun lvv iv nv wr => ∃ (lv : Nat) (its : List Itm) (i fu : Nat), lvv = .int .i64 (lv : Int) ∧ nv = .int .i64 (i : Int) ∧ 1 ≤ i ∧ i ≤ L.length ∧ lv ≤ fu ∧ lv ≤ 32 ∧ its.length ≤ 16 ∧ Hid (∀ x ∈ its, okVal lv x.2 = true) ∧ Hid (okS its = true) ∧ Hid (endL key fu (lv, its) (L.drop i) = R) ∧ wr.ownsRow w.heap.size 27 2 iv its.length (Itms.its its) ∧ Hid (Below w3.heap.size w3 wr)) (fun lvv _ _ _ => (intOf lvv).toNat)
          case atStart => exact ⟨lv, its, 1, 33, rfl, rfl, by omega, by omega, by omega, f1, f2, HF3, HOK, HV3, HOW3.out, hid (below_rf w3)⟩
          case round =>
            clear HV3 HF3 HOK f1 f2 HOW2 HOW3 HGE
            obtain ⟨lv, its, i, fu, rfl, rfl, hi1, hil, hlf, hlv, h16, HOV, HOK, HEL, hown, HB⟩ := hrel
            obtain ⟨A4, c4, rfl⟩ := own_succ hown
            have HOWN := hid hown
            obtain ⟨wo, rfl⟩ : ∃ wo, wo = wr := ⟨_, rfl⟩
            clear hown
            go_wp2
            go_loopw [15] (fun av wi => ∃ a : Nat, a ≤ its.length ∧ av = .int .i64 (a : Int) ∧ Hid (∀ t, t < a → ltS (itm its t).1 key = true) ∧ wi = wo) (fun av _ => its.length - (intOf av).toNat)
            case atStart => exact ⟨0, by omega, rfl, hid (fun t h => by omega), rfl⟩
            case round =>
              obtain ⟨a, ha, rfl, HLO, rfl⟩ := hrel
              by_cases hlt : a < its.length
              · obtain ⟨b4, o4, rfl, hk4, hv4⟩ := rd_itm (rd_own HOWN.out) hlt
                obtain ⟨x, hx⟩ : ∃ x, x = itm its a := ⟨_, rfl⟩
                rw [← hx] at hk4 hv4
                cases hl9 : ltS x.1 key with
                | true =>
                  have hl8 : Op.bytesLess x.1 key = true := hl9
                  have HLO2 : Hid (∀ t, t < a + 1 → ltS (itm its t).1 key = true) := hid (fun t ht => by
                    rcases Nat.lt_or_ge t a with h | h
                    · exact HLO.out t h
                    · obtain rfl : t = a := by omega
                      rw [← hx]; exact hl9)
                  clear hl9 hx
                  go_wp2
                  go_roundw
                  case rel => exact ⟨a + 1, by omega, by go_num, HLO2, trivial⟩
                  case measure => simp [intOf]; omega
                | false =>
                  have hl8 : Op.bytesLess x.1 key = false := hl9
                  have hpl : a = placeS its key := place_done HOK.out ha HLO.out (fun _ => by rw [← hx]; exact hl9)
                  have HPL := hid hpl
                  have HX := hid hx
                  have HLT := hid hlt
                  have hne9 : ((a : Int) == (its.length : Int)) = false := beq_eq_false_iff_ne.2 (by omega)
                  have hle9 : decide ((a : Int) < (its.length : Int)) = true := decide_eq_true (by omega)
                  clear hl9 hpl HLO hx
                  by_cases h0 : lv = 0
                  · have g0 : ((lv : Int) == 0) = true := beq_iff_eq.2 (by omega)
                    have hen : endsAt (lv, its) key = true := by unfold endsAt; rw [decide_eq_true h0]; rfl
                    have hR := HEL.out
                    rw [endL_end hen] at hR
                    by_cases hie : i = L.length
                    · have gi : ((i : Int) == (L.length : Int)) = true := beq_iff_eq.2 (by omega)
                      have gin : ((i : Int) != (L.length : Int)) = false := by rw [bne, gi]; rfl
                      rw [if_pos (by rw [hie, List.drop_length])] at hR
                      by_cases hke : x.1 = key
                      · have gk : (x.1 == key) = true := beq_iff_eq.2 hke
                        have hsh : shownS (lv, its) key = some x.2 := by unfold shownS; dsimp only; rw [← HPL.out, ← HX.out, if_pos ⟨h0, hlt, hke⟩]
                        rw [hsh] at hR
                        have HR := hid hR
                        clear hR hie hen hsh h0 hke
                        go_wp2
                        go_ret3
                        exact ⟨by rw [← HR.out]; rfl, HB3.out.trans (HB.out.mono HB3.out.size)⟩
                      · have gk : (x.1 == key) = false := beq_eq_false_iff_ne.2 hke
                        have hsh : shownS (lv, its) key = none := by unfold shownS; dsimp only; rw [← HPL.out, ← HX.out, if_neg (fun h => hke h.2.2)]
                        rw [hsh] at hR
                        have HR := hid hR
                        clear hR hie hen hsh h0 hke
                        go_wp2
                        go_ret3
                        exact ⟨by rw [← HR.out]; show _ = Ending.returned (.tuple #[.string (Str []), .bool false, .bool true]); rw [Str_nil]; rfl, HB3.out.trans (HB.out.mono HB3.out.size)⟩
                    · have gi : ((i : Int) == (L.length : Int)) = false := beq_eq_false_iff_ne.2 (by omega)
                      have gin : ((i : Int) != (L.length : Int)) = true := by rw [bne, gi]; rfl
                      rw [if_neg (by intro e; have := congrArg List.length e; rw [List.length_drop] at this; simp at this; omega)] at hR
                      have HR := hid hR
                      clear hR hie hen h0
                      go_wp2
                      go_ret3
                      exact ⟨HNO.out HR.out.symm, HB3.out.trans (HB.out.mono HB3.out.size)⟩
                  · have g0 : ((lv : Int) == 0) = false := beq_eq_false_iff_ne.2 (by omega)
                    have hen : ¬ endsAt (lv, its) key = true := by unfold endsAt; dsimp only; rw [← HPL.out, decide_eq_false h0, decide_eq_false (by omega : ¬ a = its.length)]; decide
                    have hR := HEL.out
                    by_cases hie : i = L.length
                    · have gi : ((i : Int) == (L.length : Int)) = true := beq_iff_eq.2 (by omega)
                      rw [show L.drop i = [] by rw [hie, List.drop_length], endL_none hen] at hR
                      have HR := hid hR
                      clear hR hie hen h0
                      go_wp2
                      go_ret3
                      exact ⟨HNO.out HR.out.symm, HB3.out.trans (HB.out.mono HB3.out.size)⟩
                    · have gi : ((i : Int) == (L.length : Int)) = false := beq_eq_false_iff_ne.2 (by omega)
                      have hil2 : i < L.length := by omega
                      obtain ⟨fu', rfl⟩ : ∃ fu', fu = fu' + 1 := ⟨fu - 1, by omega⟩
                      have hlv1 : 1 ≤ lv := by omega
                      obtain ⟨t', ht'⟩ : ∃ t', t' = sat L i := ⟨_, rfl⟩
                      rw [List.drop_eq_getElem_cons hil2, ← sat_eq L i hil2, endL_step hen, ← HPL.out, ← HX.out, ← ht'] at hR
                      have HR := hid hR
                      have HXO : Hid (okVal lv x.2 = true) := hid (HOV.out x (by rw [HX.out, itm_eq its a hlt]; exact List.getElem_mem _))
                      have hx40 := okVal_len HXO.out (by omega)
                      have hx32 : 32 ≤ x.2.length := by omega
                      have hx32i : (32 : Int) ≤ (x.2.length : Int) := by omega
                      have HB30 := hid (HB3.out.trans (HB.out.mono HB3.out.size))
                      have HRDo := hid (HRD3.out.below HB.out)
                      obtain ⟨b', o', e', hci⟩ := HRDo.out.str hil2
                      injection e' with e'
                      injection e' with e1' e2'
                      subst e1'; subst e2'
                      rw [← ht'] at hci
                      have htl' : t'.length ≤ 1000000 := HSL.out t' (by rw [ht', sat_eq L i hil2]; exact List.getElem_mem hil2)
                      obtain ⟨w5, hw5⟩ : ∃ w5, w5 = wr.alloc (Obj.cells #[.string (Str x.1), .string (Str x.2)] 27) := ⟨_, rfl⟩
                      have hb5 : Below wr.heap.size wr w5 := by rw [hw5]; exact below_al (below_rf wr) _
                      have hy5 : w5.heap[wr.heap.size]? = some (Obj.cells #[.string (Str x.1), .string (Str x.2)] 27 (0, 0)) := by rw [hw5]; exact heap_new _ _
                      have hci5 := (hb5.cell (World.block_lt_of_cell? _ _ hci)).trans hci
                      have y5 : w5.cell? ⟨wr.heap.size, 1, none⟩ = some (.string (Str x.2)) := by rw [Go.Lib.cell_of_heap hy5]; rfl
                      have n0 : ∀ W, Below w5.heap.size w5 W → W.cell? ⟨b, o + i, none⟩ = some (.string (Str t')) := fun W hW => (hW.cell (World.block_lt_of_cell? _ _ hci5)).trans hci5
                      have n1 : ∀ W, Below w5.heap.size w5 W → W.cell? ⟨wr.heap.size, 1, none⟩ = some (.string (Str x.2)) := fun W hW => (hW.cell (World.block_lt_of_cell? _ _ y5)).trans y5
                      have hpr : ∀ W, Below w5.heap.size w5 W → Calls Try.prog 16 #[.string (Str t')] W fun e w' => e = .returned (.string (Str (sha t'))) ∧ Below w5.heap.size w5 w' := fun W hW =>
                        (print_ref_any t' W (by omega)).mono fun e w' h => ⟨h.1, hW.trans (h.2.mono hW.size)⟩
                      obtain ⟨q', hq'⟩ : ∃ q', q' = sha t' := ⟨_, rfl⟩
                      rw [← hq'] at hpr
                      have HQ' := hid hq'
                      have HB5 := hid (below_tr HB30.out hb5)
                      have HB35 := hid (below_tr HB.out hb5)
                      have HRD5 := hid (HRDo.out.below hb5)
                      have HY5 := hid hy5
                      have HT' := hid ht'
                      clear hb5 hy5 hci hci5 y5 hq' ht' hR hen hie h0 htl' hx40
                      go_wp2
                      rw [← hw5]
                      clear hw5
                      refine wp_region_mild w5.heap.size (by kernel_rfl) (by kernel_rfl) ?_
                      repeat (
                        refine wpQuiet_step (fun K hK => ?_)
                        first
                          | (refine mild_skip (by rfl) (hK _ ?_)
                             clear hK K)
                          | (refine mild_read (by rfl) ?_
                             apply Exists.intro
                             refine ⟨fun W hW => ?_, hK _ ?_⟩
                             (go_simp; first | rfl | (rw [if_neg (by omega)]) | (rw [if_pos (by omega)]))
                             clear hK K)
                          | (refine mild_call (by rfl) ?_
                             apply Exists.intro
                             apply Exists.intro
                             refine ⟨fun W hW => ?_, ?_⟩
                             (go_simp; exact ⟨rfl, rfl⟩)
                             apply Exists.intro
                             refine ⟨fun W hW => ?_, hK _ ?_⟩
                             (with_reducible exact (hpr W hW))
                             clear hK K)
                        go_simp)
                      refine wpQuiet_nil ?_
                      intro W hW
                      have HBW := hid (HB5.out.trans (hW.mono HB5.out.size))
                      have HRDW := hid (HRD5.out.below hW)
                      have HB3W := hid (below_tr HB35.out hW)
                      have hyW := (hW.block wr.heap.size (Array.getElem?_eq_some_iff.1 HY5.out).1).trans HY5.out
                      have s0 : W.cell? ⟨wr.heap.size, 0, none⟩ = some (.string (Str x.1)) := by rw [Go.Lib.cell_of_heap hyW]; rfl
                      have s1 : W.cell? ⟨wr.heap.size, 1, none⟩ = some (.string (Str x.2)) := by rw [Go.Lib.cell_of_heap hyW]; rfl
                      clear n0 n1 hpr hW hyW
                      by_cases hqx : q' = x.2.take 32
                      · have gq : (q' == x.2.take 32) = true := beq_iff_eq.2 hqx
                        have gqn : (q' != x.2.take 32) = false := by rw [bne, gq]; rfl
                        have HQX := hid hqx
                        clear hqx
                        simp only [gq, Bool.not_true]
                        go_wp2
                        have HBEL := hid (show ∀ cc : Nat, Calls Try.prog 42 #[.agg #[.slice (some ⟨b, o + i, none⟩) 1 cc], .int .i64 (lv : Int), .agg #[.string (Str x.1), .string (Str x.2)]] W.drew fun e w' => BelPost W.drew (belowP (getL [t']) lv x) e w' from fun cc =>
                          below_any (some ⟨b, o + i, none⟩) cc [t'] lv x hlv1 hlv HXO.out (by simp) (fun s hs => by rw [List.mem_singleton.1 hs, HT'.out]; have := HSL.out (sat L i) (by rw [sat_eq L i hil2]; exact List.getElem_mem hil2); omega) W.drew (by have := (rd_one HRDW.out i hil2).drewN 1; rw [← HT'.out] at this; exact this))
                        have HBP : Hid (belowP (getL [t']) lv x = nodeS t' lv (some x)) := hid (bel_one (by rw [← HQ'.out]; exact HQX.out))
                        have ws1 : IntKind.i64.wrap ((i : Int) + 1) = (i : Int) + 1 := by rw [IntKind.wrap_i64]; omega
                        have ws2 : ((i : Int) + 1).toNat = i + 1 := by omega
                        have ws3 : (i : Int) + 1 ≤ (c : Int) := by omega
                        have ws4 : (0 : Int) ≤ (i : Int) + 1 := by omega
                        have ws5 : (i : Int) ≤ (i : Int) + 1 := by omega
                        have ws6 : i + 1 ≤ c := by omega
                        have ws7 : i + 1 - i = 1 := by omega
                        go_region_with (go_at_call 42; (with_reducible refine (HBEL.out _).mono ?_); rintro e w6 ⟨⟨A6, n6, c6, ok6, rfl, hbel⟩, hb6⟩)
                        all_goals
                          have hbw6 : Below W.heap.size W w6 := (show Below W.heap.size W W.drew from below_drewN (below_rf W) 1).trans hb6
                          have HB6 := hid (below_tr HBW.out hbw6)
                          have HB36 := hid (below_tr HB3W.out hbw6)
                          have HZW := hid (show w.heap.size ≤ W.drew.heap.size from HBW.out.size)
                          unfold BelAt at hbel
                          simp only [List.getElem_toArray, List.getElem_cons_succ, List.getElem_cons_zero, Act.put, Array.set!_eq_setIfInBounds, List.setIfInBounds_toArray, List.set_cons_succ, List.set_cons_zero]
                          cases ok6 with
                          | false =>
                            rw [if_neg (by decide)] at hbel
                            have HRN := hid (show R = none by rw [← HR.out, ← HBP.out, hbel.1]; split <;> rfl)
                            clear hbel hb6 hbw6 ws1 ws2 ws3 ws4 ws5 ws6 ws7
                            go_wp2
                            go_ret3
                            exact ⟨HNO.out HRN.out, HB6.out⟩
                          | true =>
                            rw [if_pos rfl] at hbel
                            obtain ⟨m, l6, hb9, rfl, hown6⟩ := hbel
                            obtain ⟨e1, _, _, _, hat⟩ := below_lv hb9
                            dsimp only at e1
                            obtain ⟨u1, u2, u3, u4, _⟩ := at_facts hat
                            have hwr : IntKind.i64.wrap ((lv : Int) - 1) = (m : Int) := by rw [IntKind.wrap_i64]; omega
                            have HEN : Hid (endL key fu' (m, l6) (L.drop (i + 1)) = R) := hid (by rw [← HR.out, ← HBP.out, hb9, if_pos (by rw [← HQ'.out]; exact HQX.out)])
                            have HO6 := hid (own_base hown6 HZW.out)
                            have HU3 := hid u3
                            have HU4 := hid (right_ok u4)
                            have hmf : m ≤ fu' := by omega
                            have hml : m < lv := by omega
                            clear hbw6 hb6 hb9 hat hown6 u3 u4 e1 ws2 ws3 ws4 ws5 ws6 ws7 s0 s1
                            go_wp2
                            go_roundw
                            case rel => exact ⟨m, l6, i + 1, fu', rfl, by go_num, by omega, by omega, hmf, u1, u2, HU3, HU4, HEN, HO6.out, HB36⟩
                            case measure => simp [intOf]; omega
                      · have gq : (q' == x.2.take 32) = false := beq_eq_false_iff_ne.2 hqx
                        have gqn : (q' != x.2.take 32) = true := by rw [bne, gq]; rfl
                        have HRN := hid (show R = none by rw [← HR.out, if_neg (by rw [← HQ'.out]; exact hqx)])
                        clear hqx
                        simp only [gq, Bool.not_false]
                        go_wp2
                        go_ret3
                        exact ⟨HNO.out HRN.out, HBW.out⟩
              · obtain rfl : a = its.length := by omega
                have hpl : its.length = placeS its key := place_done HOK.out ha HLO.out (fun h => absurd h hlt)
                have hen : endsAt (lv, its) key = true := by unfold endsAt; dsimp only; rw [← hpl]; simp
                have hsh : shownS (lv, its) key = none := by unfold shownS; rw [if_neg (fun h => by have := h.2.1; dsimp only at this; omega)]
                have hR := HEL.out
                rw [endL_end hen, hsh] at hR
                by_cases hie : i = L.length
                · have gi : ((i : Int) == (L.length : Int)) = true := beq_iff_eq.2 (by omega)
                  have gin : ((i : Int) != (L.length : Int)) = false := by rw [bne, gi]; rfl
                  rw [if_pos (by rw [hie, List.drop_length])] at hR
                  have HR := hid hR
                  clear hR hie hlt hpl hen hsh
                  go_wp2
                  all_goals
                    go_ret3
                    exact ⟨by rw [← HR.out]; show _ = Ending.returned (.tuple #[.string (Str []), .bool false, .bool true]); rw [Str_nil]; rfl, HB3.out.trans (HB.out.mono HB3.out.size)⟩
                · have gi : ((i : Int) == (L.length : Int)) = false := beq_eq_false_iff_ne.2 (by omega)
                  have gin : ((i : Int) != (L.length : Int)) = true := by rw [bne, gi]; rfl
                  rw [if_neg (by intro e; have := congrArg List.length e; rw [List.length_drop] at this; simp at this; omega)] at hR
                  have HR := hid hR
                  clear hR hie hlt hpl hen hsh
                  go_wp2
                  all_goals
                    go_ret3
                    exact ⟨HNO.out HR.out.symm, HB3.out.trans (HB.out.mono HB3.out.size)⟩
        · have gq : (q == root) = false := beq_eq_false_iff_ne.2 hqr
          have gqn : (q != root) = true := by rw [bne, gq]; rfl
          have HR := hid (show R = none by rw [HV2.out, if_neg hqr])
          clear hqr hb3
          go_wp2
          go_ret3
          exact ⟨HNO.out HR.out, HB3.out⟩
end Go.Proofs.Yteeonfnaikndfaa.P08
