/- Walk of the law CodecReads: it answers true for any bytes and widths. -/
import Derived.Test.YtncooadaeifekaaT10
import Derived.Test.YtncooadaeifekaaF3
namespace Go.Proofs.Ytncooadaeifekaa
open Go.RowKit Go.BigFrame
theorem same_true (n : Nat) (a1 : Option Addr) (l1 l2 : List Nat) (he : l1 = l2) (hl : l1.length = n) (c1 : Nat) (a2 : Option Addr) (c2 : Nat) (w : World) (h1 : HasB w a1 l1) (h2 : HasB w a2 l2) (hn : n ≤ 1000000) :
    Calls Try.prog 48 #[.slice a1 n c1, .slice a2 n c2] w fun e w' => e = .returned (.bool true) ∧ Below w.heap.size w w' := by
  subst he; exact same_selfN n a1 l1 hl c1 a2 c2 w h1 h2 hn
theorem readN (n : Nat) (a : Option Addr) (l : List Nat) (hl : l.length = n) (c : Nat) (w : World) (h : HasB w a l) (hn : n ≤ 7) (V : Nat) (hV : M.leV l = V) :
    Calls Try.prog 57 #[.slice a n c] w fun e w' => e = .returned (.int .i64 V) ∧ Below w.heap.size w w' := by
  subst hl hV; exact read_calls a l c w h hn
theorem done_good (R : Nat) (w : World) (a : Option Addr) (l : List Nat) (cap : Nat) (bad : Bool) (hr : RdB w R a l cap bad) (h : bad = false ∧ l = []) :
    Calls Try.prog 58 #[.pointer (some ⟨R, 0, none⟩)] w fun e w' => e = .returned (.int .i64 0) ∧ Below w.heap.size w w' := by
  have := done_calls R w a l cap bad hr
  rw [if_neg (by simp [h])] at this
  exact this
theorem done_bad (R : Nat) (w : World) (a : Option Addr) (l : List Nat) (cap : Nat) (bad : Bool) (hr : RdB w R a l cap bad) (h : bad = true ∨ l ≠ []) :
    Calls Try.prog 58 #[.pointer (some ⟨R, 0, none⟩)] w fun e w' => e = .returned (.int .i64 14) ∧ Below w.heap.size w w' := by
  have := done_calls R w a l cap bad hr
  rw [if_pos h] at this
  exact this
theorem restN (R : Nat) (w : World) (a : Option Addr) (l : List Nat) (cap : Nat) (bad : Bool) (k : Nat) (hk : l.length = k) (hr : RdB w R a l cap bad) :
    Calls Try.prog 53 #[.pointer (some ⟨R, 0, none⟩)] w fun e w' => e = .returned (.int .i64 k) ∧ Below w.heap.size w w' := by
  subst hk; exact rest_calls R w a l cap bad hr
/-- what holds ahead of each round -/
def Rds (R : Nat) (W6 : World) (l : List Nat) (at' : Nat) (bad : Bool) (w : World) : Prop := ∃ a' l' c', at' ≤ l.length ∧ (bad = false → l' = l.drop at') ∧ RdB w R a' l' c' bad ∧ Turned (fun k => k = R) W6 w
theorem Rds.bad {R : Nat} {W6 : World} {l : List Nat} {at' : Nat} {w w1 w2 : World} {c : Bool} (h : Rds R W6 l at' c w) (hr : RdB w1 R none [] 0 true) (ht : Turned (fun k => k = R) w w1) (hb : Below w1.heap.size w1 w2) : Rds R W6 l at' true w2 := by
  obtain ⟨_, _, _, h1, _, _, h4⟩ := h
  exact ⟨none, [], 0, h1, (fun e => by cases e), hr.grow hb, (h4.trans ht fun i hi => .inl hi).trans (Turned.ofBelow (S := fun k => k = R) hb) fun i hi => .inl hi⟩
theorem Rds.good {R : Nat} {W6 : World} {l l' : List Nat} {at' n k2 : Nat} {w w1 w2 : World} {a' : Option Addr} {c' : Nat} (h : Rds R W6 l at' false w) (hl' : l' = l.drop at') (h2 : k2 = at' + n) (hn : k2 ≤ l.length) (hr : RdB w1 R a' (l'.drop n) c' false) (ht : Turned (fun k => k = R) w w1) (hb : Below w1.heap.size w1 w2) : Rds R W6 l k2 false w2 := by
  obtain ⟨_, _, _, h1, _, _, h4⟩ := h
  exact ⟨a', l'.drop n, c', hn, (fun _ => by rw [hl', List.drop_drop, h2]), hr.grow hb, (h4.trans ht fun i hi => .inl hi).trans (Turned.ofBelow (S := fun k => k = R) hb) fun i hi => .inl hi⟩
theorem hasB_nil {w : World} {a : Option Addr} {l : List Nat} (h : l = []) : HasB w a l := by subst h; exact ⟨by simp, .inl rfl⟩
theorem hasB_drop {w : World} {a : Option Addr} {l : List Nat} (h : HasB w a l) (k n cap : Nat) (hc : l.length ≤ cap) (hne : ¬ cap = k) : HasB w (Option.map (fun x => x.add k) a) ((l.drop k).take n) := by
  have h1 := (h.drop k cap hc).take n
  unfold cutAt at h1
  rw [if_neg hne] at h1
  exact h1
set_option maxRecDepth 100000 in
set_option maxHeartbeats 2000000 in
theorem reads_walk (ab : Option Addr) (l : List Nat) (cb : Nat) (ai : Option Addr) (ws : List Int) (ci : Nat) (hl : l.length ≤ 200) (hws : ws.length ≤ 100) (hcb : l.length ≤ cb) (w : World) (hB : HasB w ab l) (hI : HasI w ai ws) :
    Calls Try.prog 16 #[.slice ab l.length cb, .slice ai ws.length ci] w fun e w' => e = .returned (.bool true) ∧ Below w.heap.size w w' := by
  have t0 : decide ((200 : Int) < (l.length : Int)) = false := by simp; omega
  have t1 : decide ((100 : Int) < (ws.length : Int)) = false := by simp; omega
  have HB0 := hid hB
  have HI0 := hid hI
  have hW := Below.refl w.heap.size w
  have habl : Hid (∀ W : World, ∀ R : Nat, Below w.heap.size w W → w.heap.size ≤ R → ∀ V, Turned (fun k => k = R) W V → HasB V ab l) := fun W R h1 h2 V h3 => by
    have hb2 : Below w.heap.size w V := h1.trans (h3.below _ h1.size (fun k hk => by subst hk; exact h2))
    exact hB.below hb2
  have hail : Hid (∀ W : World, ∀ R : Nat, Below w.heap.size w W → w.heap.size ≤ R → ∀ V, Turned (fun k => k = R) W V → HasI V ai ws) := fun W R h1 h2 V h3 => by
    have hb2 : Below w.heap.size w V := h1.trans (h3.below _ h1.size (fun k hk => by subst hk; exact h2))
    exact hI.grow hb2
  clear hB hI
  go_enter Try.func16, Try.ntmps16
  go_upto_region 8 with (first | (go_at_call 43; refine (anchor2_calls _).mono ?_; rintro e w1 ⟨rfl, hb1⟩; have hW := below_next hW hb1) | (go_at_call 49; refine (rnew_calls ab l cb _ (HB0.out.below hW) (by omega)).mono ?_; rintro e W6 ⟨⟨R, ar, cr, rfl, hrd, hR1, hR2, hR3⟩, hb6⟩; have hRw : w.heap.size ≤ R := (by have := hW.size; omega); have hW := below_next hW hb6))
  have hst : Rds R W6 l 0 false W6 := ⟨ar, l, cr, Nat.zero_le _, fun _ => rfl, hrd, Turned.refl _ _⟩
  have HW := hid hW
  clear hrd hR3 hb6 hb1 t0 t1 hW
  go_wp2
  go_loopw [6, 7, 8, 9, 10, 11, 12, 27] (fun at6 bad7 _ _ _ _ _ i wr => ∃ (k at' : Nat) (bad : Bool), k ≤ ws.length ∧ i = .int .i64 k ∧ at6 = .int .i64 at' ∧ bad7 = .bool bad ∧ at' ≤ l.length ∧ Hid (Rds R W6 l at' bad wr)) (fun _ _ _ _ _ _ _ i _ => ws.length - (intOf i).toNat)
  case atStart => exact ⟨0, 0, false, Nat.zero_le _, rfl, rfl, rfl, Nat.zero_le _, hst⟩
  case round =>
    obtain ⟨k, at', bad, hk, rfl, rfl, rfl, hatl, HR⟩ := hrel
    have htw : Turned (fun k => k = R) W6 wr := by obtain ⟨_, _, _, _, _, _, h4⟩ := HR.out; exact h4
    have HT := hid htw
    have hBr : Hid (HasB wr ab l) := habl.out W6 R HW.out hRw wr htw
    have hWr : Hid (Below w.heap.size w wr) := below_turned HW.out htw (fun k hk => by subst hk; exact hRw)
    have hIr := hail.out W6 R HW.out hRw wr htw
    clear htw
    by_cases hlt : k < ws.length
    · obtain ⟨bi, offi, rfl, hc⟩ := hIr.cell (by omega)
      have hcell := hc k hlt
      have hwb := hIr.1 k
      clear hc hIr
      obtain ⟨v, hv⟩ : ∃ v, v = nthI ws k := ⟨_, rfl⟩
      rw [← hv] at hcell hwb
      clear hv
      have hk100 : k < 100 := by omega
      have hlt' : (k : Int) < 100 := by omega
      by_cases hpar : k % 2 = 1
      · have tp : ((k : Int) % 2 == 1) = true := by rw [beq_iff_eq]; omega
        have tq : ((k : Int) % 2 == 0) = false := by rw [beq_eq_false_iff_ne]; omega
        clear hpar
        by_cases hbad : bad = true
        · subst hbad
          by_cases h7 : 7 < v
          · have th7 : (decide (7 < v)) = true := by simp; omega
            obtain ⟨a', l', c', h1, h2, h3, h4⟩ := HR.out
            have hk0 : Hid (true = true ∨ (8 : Int) < 0 ∨ (l'.length : Int) < (8 : Int)) := by exact .inl rfl
            have H3 := hid h3
            clear h1 h2 h3 h4
            go_wp2_with (first | (go_at_call 52; refine (rdBytes_bad R (8 : Int) _ a' l' c' true H3.out hk0.out).mono ?_; rintro e w2 ⟨rfl, hr2, ht2⟩) | (go_at_call 53; refine (rest_calls R _ none [] 0 true hr2).mono ?_; rintro e w3 ⟨rfl, hb3⟩))
            go_roundw
            case rel => exact ⟨k + 1, at', true, by omega, by go_num, rfl, rfl, hatl, HR.out.bad hr2 ht2 hb3⟩
            case measure => simp [intOf]; omega
          · have th7 : (decide (7 < v)) = false := by simp; omega
            obtain ⟨a', l', c', h1, h2, h3, h4⟩ := HR.out
            have hk0 : Hid (true = true ∨ v < 0 ∨ (l'.length : Int) < v) := by exact .inl rfl
            have H3 := hid h3
            clear h1 h2 h3 h4
            go_wp2_with (first | (go_at_call 52; refine (rdBytes_bad R v _ a' l' c' true H3.out hk0.out).mono ?_; rintro e w2 ⟨rfl, hr2, ht2⟩) | (go_at_call 53; refine (rest_calls R _ none [] 0 true hr2).mono ?_; rintro e w3 ⟨rfl, hb3⟩))
            go_roundw
            case rel => exact ⟨k + 1, at', true, by omega, by go_num, rfl, rfl, hatl, HR.out.bad hr2 ht2 hb3⟩
            case measure => simp [intOf]; omega
        · obtain rfl : bad = false := by cases bad; rfl; exact absurd rfl hbad
          by_cases h7 : 7 < v
          · have th7 : (decide (7 < v)) = true := by simp; omega
            by_cases h8 : (l.length : Int) - at' < 8
            · have th8 : (decide ((l.length : Int) - at' < 8)) = true := by simp; omega
              obtain ⟨a', l', c', h1, h2, h3, h4⟩ := HR.out
              have hk0 : Hid (false = true ∨ (8 : Int) < 0 ∨ (l'.length : Int) < (8 : Int)) := by have e := h2 rfl; right; right; rw [e]; simp; omega
              have H3 := hid h3
              clear h1 h2 h3 h4
              go_wp2_with (first | (go_at_call 52; refine (rdBytes_bad R (8 : Int) _ a' l' c' false H3.out hk0.out).mono ?_; rintro e w2 ⟨rfl, hr2, ht2⟩) | (go_at_call 53; refine (rest_calls R _ none [] 0 true hr2).mono ?_; rintro e w3 ⟨rfl, hb3⟩))
              go_roundw
              case rel => exact ⟨k + 1, at', true, by omega, by go_num, rfl, rfl, hatl, HR.out.bad hr2 ht2 hb3⟩
              case measure => simp [intOf]; omega
            · have th8 : (decide ((l.length : Int) - at' < 8)) = false := by simp; omega
              obtain ⟨a', l', c', h1, h2, h3, h4⟩ := HR.out
              have e := h2 rfl
              have hll : l'.length = l.length - at' := by rw [e]; simp
              have hnl : 8 ≤ l'.length := by omega
              have hl2 : Hid (l'.length ≤ 1000000) := by show _ ≤ _; omega
              have htk : Hid ((l'.take 8).length = 8) := by show _ = _; simp; omega
              have htk2 : Hid (((l.drop at').take 8).length = 8) := by show _ = _; rw [← e]; exact htk.out
              have hle : at' + 8 ≤ l.length := by omega
              have HLE := hid hle
              have hcb2 : at' + 8 ≤ cb := by omega
              have HE := hid e
              have H3 := hid h3
              have HNL := hid hnl
              have hrl : Hid ((l'.drop 8).length = l.length - (at' + 8)) := by show _ = _; simp; omega
              have hrest : ((l.length - (at' + 8) : Nat) : Int) = (l.length : Int) - ((at' + 8 : Nat) : Int) := by omega
              clear h1 h2 h3 h4 e hll hnl
              have hT : Hid (l'.take 8 = (l.drop at').take 8) := by show _ = _; rw [HE.out]
              have hcbne : ¬ (cb = at') := by omega
              go_wp2_with (first | (go_at_call 52; refine (rdBytes_good R 8 _ a' l' c' H3.out HNL.out hl2.out).mono ?_; rintro e w2 ⟨rfl, hr2, ht2⟩; have hB2 := habl.out W6 R HW.out hRw _ (HT.out.trans ht2 fun i hi => .inl hi)) | (go_at_call 48; refine (same_true 8 a' (l'.take 8) ((l.drop at').take 8) hT.out htk.out _ _ _ _ ((ht2.has H3.out.2.1 H3.out.2.2.2).take 8) (hasB_drop hB2 at' 8 cb hcb hcbne) (by omega)).mono ?_; rintro e w3 ⟨rfl, hb3⟩) | (go_at_call 53; refine (restN R _ _ (l'.drop 8) _ false _ hrl.out (hr2.grow hb3)).mono ?_; rintro e w4 ⟨rfl, hb4⟩; rw [hrest]))
              go_roundw
              case rel => exact ⟨k + 1, at' + 8, false, by omega, by go_num, by go_num, rfl, hle, HR.out.good HE.out rfl HLE.out hr2 ht2 (below_next hb3 hb4)⟩
              case measure => simp [intOf]; omega
          · have th7 : (decide (7 < v)) = false := by simp; omega
            by_cases hneg : v < 0
            · have thneg : (decide (v < 0)) = true := by simp; omega
              obtain ⟨a', l', c', h1, h2, h3, h4⟩ := HR.out
              have hk0 : Hid (false = true ∨ v < 0 ∨ (l'.length : Int) < v) := by exact .inr (.inl hneg)
              have H3 := hid h3
              clear h1 h2 h3 h4
              go_wp2_with (first | (go_at_call 52; refine (rdBytes_bad R v _ a' l' c' false H3.out hk0.out).mono ?_; rintro e w2 ⟨rfl, hr2, ht2⟩) | (go_at_call 53; refine (rest_calls R _ none [] 0 true hr2).mono ?_; rintro e w3 ⟨rfl, hb3⟩))
              go_roundw
              case rel => exact ⟨k + 1, at', true, by omega, by go_num, rfl, rfl, hatl, HR.out.bad hr2 ht2 hb3⟩
              case measure => simp [intOf]; omega
            · have thneg : (decide (v < 0)) = false := by simp; omega
              by_cases h8 : (l.length : Int) - at' < v
              · have th8 : (decide ((l.length : Int) - at' < v)) = true := by simp; omega
                obtain ⟨a', l', c', h1, h2, h3, h4⟩ := HR.out
                have hk0 : Hid (false = true ∨ v < 0 ∨ (l'.length : Int) < v) := by have e := h2 rfl; right; right; rw [e]; simp; omega
                have H3 := hid h3
                clear h1 h2 h3 h4
                go_wp2_with (first | (go_at_call 52; refine (rdBytes_bad R v _ a' l' c' false H3.out hk0.out).mono ?_; rintro e w2 ⟨rfl, hr2, ht2⟩) | (go_at_call 53; refine (rest_calls R _ none [] 0 true hr2).mono ?_; rintro e w3 ⟨rfl, hb3⟩))
                go_roundw
                case rel => exact ⟨k + 1, at', true, by omega, by go_num, rfl, rfl, hatl, HR.out.bad hr2 ht2 hb3⟩
                case measure => simp [intOf]; omega
              · have th8 : (decide ((l.length : Int) - at' < v)) = false := by simp; omega
                obtain ⟨n, rfl⟩ : ∃ n : Nat, v = n := ⟨v.toNat, by omega⟩
                obtain ⟨a', l', c', h1, h2, h3, h4⟩ := HR.out
                have e := h2 rfl
                have hll : l'.length = l.length - at' := by rw [e]; simp
                have hnl : n ≤ l'.length := by omega
                have hl2 : Hid (l'.length ≤ 1000000) := by show _ ≤ _; omega
                have htk : Hid ((l'.take n).length = n) := by show _ = _; simp; omega
                have htk2 : Hid (((l.drop at').take n).length = n) := by show _ = _; rw [← e]; exact htk.out
                have hle : at' + n ≤ l.length := by omega
                have HLE := hid hle
                have hcb2 : at' + n ≤ cb := by omega
                have HE := hid e
                have H3 := hid h3
                have HNL := hid hnl
                have hrl : Hid ((l'.drop n).length = l.length - (at' + n)) := by show _ = _; simp; omega
                have hrest : ((l.length - (at' + n) : Nat) : Int) = (l.length : Int) - ((at' + n : Nat) : Int) := by omega
                clear h1 h2 h3 h4 e hll hnl
                have hT : Hid (l'.take n = (l.drop at').take n) := by show _ = _; rw [HE.out]
                by_cases hcbne : cb = at'
                · obtain rfl : n = 0 := by omega
                  subst hcbne
                  go_wp2_with (first | (go_at_call 52; refine (rdBytes_good R 0 _ a' l' c' H3.out HNL.out hl2.out).mono ?_; rintro e w2 ⟨rfl, hr2, ht2⟩; have hB2 := habl.out W6 R HW.out hRw _ (HT.out.trans ht2 fun i hi => .inl hi)) | (go_at_call 48; refine (same_true 0 a' (l'.take 0) ((l.drop cb).take 0) hT.out htk.out _ _ _ _ ((ht2.has H3.out.2.1 H3.out.2.2.2).take 0) (hasB_nil (by rw [List.drop_eq_nil_of_le (by omega)]; rfl)) (by omega)).mono ?_; rintro e w3 ⟨rfl, hb3⟩) | (go_at_call 53; refine (restN R _ _ (l'.drop 0) _ false _ hrl.out (hr2.grow hb3)).mono ?_; rintro e w4 ⟨rfl, hb4⟩; rw [hrest]))
                  go_roundw
                  case rel => exact ⟨k + 1, cb + 0, false, by omega, by go_num, by go_num, rfl, hle, HR.out.good HE.out rfl HLE.out hr2 ht2 (below_next hb3 hb4)⟩
                  case measure => simp [intOf]; omega
                · skip
                  go_wp2_with (first | (go_at_call 52; refine (rdBytes_good R n _ a' l' c' H3.out HNL.out hl2.out).mono ?_; rintro e w2 ⟨rfl, hr2, ht2⟩; have hB2 := habl.out W6 R HW.out hRw _ (HT.out.trans ht2 fun i hi => .inl hi)) | (go_at_call 48; refine (same_true n a' (l'.take n) ((l.drop at').take n) hT.out htk.out _ _ _ _ ((ht2.has H3.out.2.1 H3.out.2.2.2).take n) (hasB_drop hB2 at' n cb hcb hcbne) (by omega)).mono ?_; rintro e w3 ⟨rfl, hb3⟩) | (go_at_call 53; refine (restN R _ _ (l'.drop n) _ false _ hrl.out (hr2.grow hb3)).mono ?_; rintro e w4 ⟨rfl, hb4⟩; rw [hrest]))
                  go_roundw
                  case rel => exact ⟨k + 1, at' + n, false, by omega, by go_num, by go_num, rfl, hle, HR.out.good HE.out rfl HLE.out hr2 ht2 (below_next hb3 hb4)⟩
                  case measure => simp [intOf]; omega
      · have tp : ((k : Int) % 2 == 1) = false := by rw [beq_eq_false_iff_ne]; omega
        have tq : ((k : Int) % 2 == 0) = true := by rw [beq_iff_eq]; omega
        clear hpar
        by_cases hbad : bad = true
        · subst hbad
          obtain ⟨a', l', c', h1, h2, h3, h4⟩ := HR.out
          have hk0 : Hid (true = true ∨ ¬ (1 ≤ v ∧ v ≤ 7) ∨ (l'.length : Int) < v) := by exact .inl rfl
          have H3 := hid h3
          clear h1 h2 h3 h4
          go_wp2_with (first | (go_at_call 56; refine (rdNum_bad R v _ a' l' c' true H3.out hk0.out).mono ?_; rintro e w2 ⟨rfl, hr2, ht2⟩) | (go_at_call 53; refine (rest_calls R _ none [] 0 true hr2).mono ?_; rintro e w3 ⟨rfl, hb3⟩))
          go_roundw
          case rel => exact ⟨k + 1, at', true, by omega, by go_num, rfl, rfl, hatl, HR.out.bad hr2 ht2 hb3⟩
          case measure => simp [intOf]; omega
        · obtain rfl : bad = false := by cases bad; rfl; exact absurd rfl hbad
          by_cases hneg : v < 0
          · have thneg : (decide (v < 0)) = true := by simp; omega
            obtain ⟨a', l', c', h1, h2, h3, h4⟩ := HR.out
            have hk0 : Hid (false = true ∨ ¬ (1 ≤ v ∧ v ≤ 7) ∨ (l'.length : Int) < v) := by right; left; omega
            have H3 := hid h3
            clear h1 h2 h3 h4
            go_wp2_with (first | (go_at_call 56; refine (rdNum_bad R v _ a' l' c' false H3.out hk0.out).mono ?_; rintro e w2 ⟨rfl, hr2, ht2⟩) | (go_at_call 53; refine (rest_calls R _ none [] 0 true hr2).mono ?_; rintro e w3 ⟨rfl, hb3⟩))
            go_roundw
            case rel => exact ⟨k + 1, at', true, by omega, by go_num, rfl, rfl, hatl, HR.out.bad hr2 ht2 hb3⟩
            case measure => simp [intOf]; omega
          · have thneg : (decide (v < 0)) = false := by simp; omega
            by_cases h8 : (l.length : Int) - at' < v
            · have th8 : (decide ((l.length : Int) - at' < v)) = true := by simp; omega
              obtain ⟨a', l', c', h1, h2, h3, h4⟩ := HR.out
              have hk0 : Hid (false = true ∨ ¬ (1 ≤ v ∧ v ≤ 7) ∨ (l'.length : Int) < v) := by have e := h2 rfl; right; right; rw [e]; simp; omega
              have H3 := hid h3
              clear h1 h2 h3 h4
              go_wp2_with (first | (go_at_call 56; refine (rdNum_bad R v _ a' l' c' false H3.out hk0.out).mono ?_; rintro e w2 ⟨rfl, hr2, ht2⟩) | (go_at_call 53; refine (rest_calls R _ none [] 0 true hr2).mono ?_; rintro e w3 ⟨rfl, hb3⟩))
              go_roundw
              case rel => exact ⟨k + 1, at', true, by omega, by go_num, rfl, rfl, hatl, HR.out.bad hr2 ht2 hb3⟩
              case measure => simp [intOf]; omega
            · have th8 : (decide ((l.length : Int) - at' < v)) = false := by simp; omega
              by_cases h1v : v < 1
              · have th1v : (decide (v < 1)) = true := by simp; omega
                obtain ⟨a', l', c', h1, h2, h3, h4⟩ := HR.out
                have hk0 : Hid (false = true ∨ ¬ (1 ≤ v ∧ v ≤ 7) ∨ (l'.length : Int) < v) := by right; left; omega
                have H3 := hid h3
                clear h1 h2 h3 h4
                go_wp2_with (first | (go_at_call 56; refine (rdNum_bad R v _ a' l' c' false H3.out hk0.out).mono ?_; rintro e w2 ⟨rfl, hr2, ht2⟩) | (go_at_call 53; refine (rest_calls R _ none [] 0 true hr2).mono ?_; rintro e w3 ⟨rfl, hb3⟩))
                go_roundw
                case rel => exact ⟨k + 1, at', true, by omega, by go_num, rfl, rfl, hatl, HR.out.bad hr2 ht2 hb3⟩
                case measure => simp [intOf]; omega
              · have th1v : (decide (v < 1)) = false := by simp; omega
                by_cases h7 : 7 < v
                · have th7 : (decide (7 < v)) = true := by simp; omega
                  obtain ⟨a', l', c', h1, h2, h3, h4⟩ := HR.out
                  have hk0 : Hid (false = true ∨ ¬ (1 ≤ v ∧ v ≤ 7) ∨ (l'.length : Int) < v) := by right; left; omega
                  have H3 := hid h3
                  clear h1 h2 h3 h4
                  go_wp2_with (first | (go_at_call 56; refine (rdNum_bad R v _ a' l' c' false H3.out hk0.out).mono ?_; rintro e w2 ⟨rfl, hr2, ht2⟩) | (go_at_call 53; refine (rest_calls R _ none [] 0 true hr2).mono ?_; rintro e w3 ⟨rfl, hb3⟩))
                  go_roundw
                  case rel => exact ⟨k + 1, at', true, by omega, by go_num, rfl, rfl, hatl, HR.out.bad hr2 ht2 hb3⟩
                  case measure => simp [intOf]; omega
                · have th7 : (decide (7 < v)) = false := by simp; omega
                  obtain ⟨n, rfl⟩ : ∃ n : Nat, v = n := ⟨v.toNat, by omega⟩
                  have hn1 : 1 ≤ n := by omega
                  have hn7 : n ≤ 7 := by omega
                  obtain ⟨a', l', c', h1, h2, h3, h4⟩ := HR.out
                  have e := h2 rfl
                  have hll : l'.length = l.length - at' := by rw [e]; simp
                  have hnl : n ≤ l'.length := by omega
                  have hl2 : Hid (l'.length ≤ 1000000) := by show _ ≤ _; omega
                  have htk : Hid ((l'.take n).length = n) := by show _ = _; simp; omega
                  have htk2 : Hid (((l.drop at').take n).length = n) := by show _ = _; rw [← e]; exact htk.out
                  have hle : at' + n ≤ l.length := by omega
                  have HLE := hid hle
                  have hcb2 : at' + n ≤ cb := by omega
                  have HE := hid e
                  have H3 := hid h3
                  have HNL := hid hnl
                  have hrl : Hid ((l'.drop n).length = l.length - (at' + n)) := by show _ = _; simp; omega
                  have hrest : ((l.length - (at' + n) : Nat) : Int) = (l.length : Int) - ((at' + n : Nat) : Int) := by omega
                  clear h1 h2 h3 h4 e hll hnl
                  have hV : Hid (M.leV ((l.drop at').take n) = M.leV (l'.take n)) := by show _ = _; rw [HE.out]
                  obtain ⟨V, hVV⟩ : ∃ V, V = M.leV (l'.take n) := ⟨_, rfl⟩
                  rw [← hVV] at hV
                  have hcbne : ¬ (cb = at') := by omega
                  go_wp2_with (first | (go_at_call 56; refine (rdNum_good R n _ a' l' c' H3.out hn1 hn7 HNL.out hl2.out).mono ?_; rw [← hVV]; rintro e w2 ⟨rfl, hr2, ht2⟩; have hB2 := habl.out W6 R HW.out hRw _ (HT.out.trans ht2 fun i hi => .inl hi)) | (go_at_call 57; refine (readN n _ ((l.drop at').take n) htk2.out _ _ (by first | exact hasB_drop hB2 at' n cb hcb hcbne) hn7 _ hV.out).mono ?_; rintro e w3 ⟨rfl, hb3⟩) | (go_at_call 53; refine (restN R _ _ (l'.drop n) _ false _ hrl.out (hr2.grow hb3)).mono ?_; rintro e w4 ⟨rfl, hb4⟩; rw [hrest]))
                  go_roundw
                  case rel => exact ⟨k + 1, at' + n, false, by omega, by go_num, by go_num, rfl, hle, HR.out.good HE.out rfl HLE.out hr2 ht2 (below_next hb3 hb4)⟩
                  case measure => simp [intOf]; omega
    · clear hIr
      have hke : k = ws.length := by omega
      by_cases hbad : bad = true
      · subst hbad
        obtain ⟨a', l', c', h1, h2, h3, h4⟩ := HR.out
        go_wp2_with (go_at_call 58; refine (done_bad R _ a' l' c' true h3 (.inl rfl)).mono ?_; rintro e w5 ⟨rfl, hb5⟩)
        go_ret
        exact ⟨rfl, below_next hWr.out hb5⟩
      · obtain rfl : bad = false := by cases bad; rfl; exact absurd rfl hbad
        obtain ⟨a', l', c', h1, h2, h3, h4⟩ := HR.out
        have e := h2 rfl
        by_cases hend : at' = l.length
        · have hz : l' = [] := by rw [e, hend]; simp
          have tt : ((at' : Int) == (l.length : Int)) = true := by rw [hend]; simp
          have HZ := hid hz
          have H3 := hid h3
          clear hz e h2 h1 hend h4 h3
          go_wp2_with (go_at_call 58; refine (done_good R _ a' l' c' false H3.out ⟨rfl, HZ.out⟩).mono ?_; rintro e w5 ⟨rfl, hb5⟩)
          go_ret
          exact ⟨rfl, below_next hWr.out hb5⟩
        · have hz : l' ≠ [] := by intro h; have : l'.length = 0 := (by rw [h]; rfl); rw [e] at this; simp at this; omega
          have tt : ((at' : Int) == (l.length : Int)) = false := by rw [beq_eq_false_iff_ne]; omega
          have HZ := hid hz
          have H3 := hid h3
          clear hz e h2 h1 hend h4 h3
          go_wp2_with (go_at_call 58; refine (done_bad R _ a' l' c' false H3.out (.inr HZ.out)).mono ?_; rintro e w5 ⟨rfl, hb5⟩)
          go_ret
          exact ⟨rfl, below_next hWr.out hb5⟩
end Go.Proofs.Ytncooadaeifekaa
