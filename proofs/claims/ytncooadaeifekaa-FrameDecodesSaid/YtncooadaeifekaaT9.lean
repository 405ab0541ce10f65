/- Walk of the law CrcOpens: it answers true for any two lists of bytes. -/
import Derived.Test.YtncooadaeifekaaC9
import Derived.Test.YtncooadaeifekaaF2
namespace Go.Proofs.Ytncooadaeifekaa
open Go.RowKit Go.BigFrame
theorem seal_as (a : Option Addr) (l L : List Nat) (hL : L = l ++ M.leB 4 (M.crc l)) (c : Nat) (w : World) (hl : HasB w a l) (hn : l.length ≤ 900000) :
    Calls Try.prog 46 #[.agg tbl, .slice a l.length c] w fun e w' => (∃ a' cap, e = .returned (.slice a' L.length cap) ∧ OwnB w' w.heap.size (.slice a' L.length cap) L ∧ L.length ≤ cap ∧ HasB w' a' L) ∧ Below w.heap.size w w' := by
  subst hL; exact seal_calls a l c w hl hn
theorem open_sealed (a : Option Addr) (l L : List Nat) (hL : L = l ++ M.leB 4 (M.crc l)) (cap : Nat) (w : World) (hl : HasB w a L) (hn : l.length ≤ 800000) (hcap : L.length ≤ cap) :
    Calls Try.prog 47 #[.agg tbl, .slice a L.length cap] w fun e w' => (∃ a' cap', e = .returned (.tuple #[.slice a' l.length cap', .int .i64 0]) ∧ HasB w' a' l ∧ OwnB w' w.heap.size (.slice a' l.length cap') l) ∧ Below w.heap.size w w' := by
  have h1 : L.take l.length = l := by rw [hL]; simp
  have h2 : L.drop l.length = M.leB 4 (M.crc l) := by rw [hL]; simp
  have h3 : L.length = l.length + 4 := by rw [hL, List.length_append, M.leB_length]
  refine (open_calls a L cap l.length w hl h3 (by omega) hcap).mono ?_
  rintro e w' ⟨h, hb⟩
  rw [h1, h2] at h
  rcases h with ⟨_, a', cap', he, hh, _, ho⟩ | ⟨h, _⟩
  · exact ⟨⟨a', cap', he, hh, ho⟩, hb⟩
  · exact absurd rfl h
theorem open_yes (a : Option Addr) (l : List Nat) (cap n : Nat) (w : World) (hl : HasB w a l) (hn : l.length = n + 4) (hn2 : l.length ≤ 900000) (hcap : l.length ≤ cap) (h : l.drop n = M.leB 4 (M.crc (l.take n))) :
    Calls Try.prog 47 #[.agg tbl, .slice a l.length cap] w fun e w' => (∃ a' cap', e = .returned (.tuple #[.slice a' n cap', .int .i64 0]) ∧ HasB w' a' (l.take n) ∧ OwnB w' w.heap.size (.slice a' n cap') (l.take n)) ∧ Below w.heap.size w w' := by
  refine (open_calls a l cap n w hl hn hn2 hcap).mono ?_
  rintro e w' ⟨⟨_, a', cap', he, hh, _, ho⟩ | ⟨h1, _⟩, hb⟩
  · exact ⟨⟨a', cap', he, hh, ho⟩, hb⟩
  · exact absurd h h1
theorem open_no (a : Option Addr) (l : List Nat) (cap n : Nat) (w : World) (hl : HasB w a l) (hn : l.length = n + 4) (hn2 : l.length ≤ 900000) (hcap : l.length ≤ cap) (h : ¬ l.drop n = M.leB 4 (M.crc (l.take n))) :
    Calls Try.prog 47 #[.agg tbl, .slice a l.length cap] w fun e w' => e = .returned (.tuple #[.slice none 0 0, .int .i64 11]) ∧ Below w.heap.size w w' := by
  refine (open_calls a l cap n w hl hn hn2 hcap).mono ?_
  rintro e w' ⟨⟨h1, _⟩ | ⟨_, he⟩, hb⟩
  · exact absurd h1 h
  · exact ⟨he, hb⟩
theorem same_self (a1 : Option Addr) (l1 : List Nat) (c1 : Nat) (a2 : Option Addr) (c2 : Nat) (w : World) (h1 : HasB w a1 l1) (h2 : HasB w a2 l1) (hn : l1.length ≤ 1000000) :
    Calls Try.prog 48 #[.slice a1 l1.length c1, .slice a2 l1.length c2] w fun e w' => e = .returned (.bool true) ∧ Below w.heap.size w w' := by
  have h := same_calls a1 l1 c1 a2 l1 c2 w h1 h2 hn hn
  rw [decide_eq_true rfl] at h
  exact h
theorem same_selfN (n : Nat) (a1 : Option Addr) (l1 : List Nat) (hl : l1.length = n) (c1 : Nat) (a2 : Option Addr) (c2 : Nat) (w : World) (h1 : HasB w a1 l1) (h2 : HasB w a2 l1) (hn : n ≤ 1000000) :
    Calls Try.prog 48 #[.slice a1 n c1, .slice a2 n c2] w fun e w' => e = .returned (.bool true) ∧ Below w.heap.size w w' := by
  subst hl; exact same_self a1 l1 c1 a2 c2 w h1 h2 hn
theorem rsumN (n : Nat) (a : Option Addr) (l : List Nat) (hl : l.length = n) (cap : Nat) (w : World) (h : HasB w a l) (hn : n ≤ 1000000) :
    Calls Try.prog 34 #[.slice a n cap] w fun e w' => e = .returned (.int .u32 (M.crc l)) ∧ Below w.heap.size w w' := by
  subst hl; exact rsum_calls a l cap w h hn
theorem last4 (b : List Nat) (n : Nat) (hn : b.length = n + 4) (hb : ∀ c ∈ b, c < 256) :
    ∃ V : Nat, (nth b n : Int) + 256 * (nth b (n + 1) : Int) + 65536 * (nth b (n + 2) : Int) + 16777216 * (nth b (n + 3) : Int) = (V : Int) ∧ (V = M.crc (b.take n) ↔ b.drop n = M.leB 4 (M.crc (b.take n))) := by
  refine ⟨nth b n + 256 * nth b (n + 1) + 65536 * nth b (n + 2) + 16777216 * nth b (n + 3), by omega, ?_⟩
  have h0 := nth_lt b hb n
  have h1 := nth_lt b hb (n + 1)
  have h2 := nth_lt b hb (n + 2)
  have h3 := nth_lt b hb (n + 3)
  have hd : b.drop n = [nth b n, nth b (n + 1), nth b (n + 2), nth b (n + 3)] := by
    refine nth_eq _ _ (by simp; omega) fun j hj => ?_
    have hj4 : j < 4 := by simp at hj; omega
    rw [nth_drop]
    match j, hj4 with
    | 0, _ => simp [nth]
    | 1, _ => simp [nth]
    | 2, _ => simp [nth]
    | 3, _ => simp [nth]
  have hS := M.crc_lt (b.take n) fun c hc => hb c (List.mem_of_mem_take hc)
  rw [hd, leB4]
  generalize M.crc (b.take n) = S at *
  constructor
  · intro h
    subst h
    congr 1; omega; congr 1; omega; congr 1; omega; congr 1; omega
  · intro h
    simp only [List.cons.injEq, and_true] at h
    omega
set_option maxRecDepth 100000 in
set_option maxHeartbeats 400000 in
theorem opens_walk (aa : Option Addr) (a : List Nat) (ca : Nat) (ab : Option Addr) (b : List Nat) (cb : Nat) (ha : a.length ≤ 300) (hb : b.length ≤ 300) (hcb : b.length ≤ cb) (w : World) (hA : HasB w aa a) (hB : HasB w ab b) :
    Calls Try.prog 11 #[.slice aa a.length ca, .slice ab b.length cb] w fun e w' => e = .returned (.bool true) ∧ Below w.heap.size w w' := by
  have ta : decide ((300 : Int) < (a.length : Int)) = false := by simp; omega
  have tb : decide ((300 : Int) < (b.length : Int)) = false := by simp; omega
  obtain ⟨L, hL⟩ : ∃ L, L = a ++ M.leB 4 (M.crc a) := ⟨_, rfl⟩
  have hLl : L.length = a.length + 4 := by rw [hL, List.length_append, M.leB_length]
  have hLt : L.take a.length = a := by rw [hL]; simp
  have tL : ((L.length : Int) != (a.length : Int) + 4) = false := by rw [bne_eq_false_iff_eq]; omega
  have HL := hid hL
  have HLl := hid hLl
  have HLt := hid hLt
  have HB := hid hB
  have HA := hid hA
  have HCB := hid hcb
  have Hbl := hid hb
  have Hal := hid ha
  clear hL hLl hLt hB hA hcb
  have hW := Below.refl w.heap.size w
  go_enter Try.func11, Try.ntmps11
  go_upto_region 10 with (first | (go_at_call 28; refine (anchor_calls _).mono ?_; rintro e w1 ⟨rfl, hb1⟩; have hW := below_next hW hb1) | (go_at_call 29; refine (new_calls _).mono ?_; rintro e w2 ⟨rfl, hb2⟩; have hW := below_next hW hb2) | ((with_reducible show wpList _ _ _ (⟨some 5, _, _, _, _, _⟩ :: _) _ _); refine wpList_local 5 rfl rfl rfl rfl 25 rfl _ rfl tbl rfl (by simp) ty25 tbl_all ?_; intro W5 N5 hN5 hM5 hr5 hb5; have hW := below_next hW hb5) | ((with_reducible show wpList _ _ _ (⟨some 24, _, _, _, _, _⟩ :: _) _ _); refine wpList_load_row rfl _ _ rfl N5 rfl 25 tbl (0, 0) _ hr5 Try.underlying25 rfl (by kernel_rfl) ?_) | (go_at_call 46; refine (seal_as aa a L HL.out ca _ (HA.out.below hW) (by have := Hal.out; omega)).mono ?_; rintro e W6 ⟨⟨sa, cs, rfl, os, hcs, hs⟩, hb6⟩; have hW := below_next hW hb6; have hr5 := below_blk hb6 hr5) | ((with_reducible show wpList _ _ _ (⟨some 28, _, _, _, _, _⟩ :: _) _ _); refine wpList_load_row rfl _ _ rfl N5 rfl 25 tbl (0, 0) _ hr5 Try.underlying25 rfl (by kernel_rfl) ?_) | (go_at_call 47; refine (open_sealed sa a L HL.out cs _ hs (by have := Hal.out; omega) hcs).mono ?_; rintro e W7 ⟨⟨ax, cx, rfl, hx, _⟩, hb7⟩; have hW := below_next hW hb7; have hr5 := below_blk hb7 hr5; have hs := hs.below hb7; have hst := HLt.out ▸ hs.take a.length; have hcut : a.length ≤ cs := by have := HLl.out; omega) | ((with_reducible show Calls _ _ #[.slice ax _ _, _] _ _); refine (same_self ax a cx aa ca _ hx (HA.out.below hW) (by have := Hal.out; omega)).mono ?_; rintro e W8 ⟨rfl, hb8⟩; have hW := below_next hW hb8; have hr5 := below_blk hb8 hr5; have hst := hst.below hb8) | ((with_reducible show Calls _ _ #[.slice sa _ _, _] _ _); refine (same_self sa a cs aa ca _ hst (HA.out.below hW) (by have := Hal.out; omega)).mono ?_; rintro e W9 ⟨rfl, hb9⟩; have hW := below_next hW hb9; have hr5 := below_blk hb9 hr5))
  clear hst hcut hs hx hcs os hb9 hb8 hb7 hb6 hb5 hb2 hb1 hM5 hN5
  by_cases h4 : b.length < 4
  · have t4 : decide ((b.length : Int) < 4) = true := by simp; omega
    have H4 := hid h4
    clear h4
    go_wp2_with (first | ((with_reducible show wpList _ _ _ (⟨some 59, _, _, _, _, _⟩ :: _) _ _); refine wpList_load_row rfl _ _ rfl N5 rfl 25 tbl (0, 0) _ hr5 Try.underlying25 rfl (by kernel_rfl) ?_) | (go_at_call 47; refine (open_short ab b cb _ H4.out).mono ?_; rintro e W10 ⟨rfl, hb10⟩))
    go_ret
    exact ⟨rfl, below_next hW hb10⟩
  · obtain ⟨n, hn⟩ : ∃ n, b.length = n + 4 := ⟨b.length - 4, by omega⟩
    have t4 : decide ((b.length : Int) < 4) = false := by simp; omega
    have tn : (b.length : Int) - 4 = (n : Int) := by omega
    have hn300 : n ≤ 296 := by omega
    have HN := hid hn
    have hnb : n < b.length := by omega
    have hnb1 : n + 1 < b.length := by omega
    have hnb2 : n + 2 < b.length := by omega
    have hnb3 : n + 3 < b.length := by omega
    obtain ⟨bb, off, rfl, hc⟩ := (HB.out.below hW).cell (by omega)
    have HCC := hid hc
    clear hc hn h4
    obtain ⟨V, hV, hVS⟩ := last4 b n HN.out HB.out.1
    have HTK : Hid ((b.take n).length = n) := by show _ = _; simp; omega
    by_cases hE : b.drop n = M.leB 4 (M.crc (b.take n))
    · have HE := hid hE
      have tv : ((V : Int) != (M.crc (b.take n) : Int)) = false := by rw [bne_eq_false_iff_eq]; have := hVS.2 hE; omega
      clear hVS
      clear hE
      go_upto_region 14 with (first | ((with_reducible show wpList _ _ _ (⟨some 59, _, _, _, _, _⟩ :: _) _ _); refine wpList_load_row rfl _ _ rfl N5 rfl 25 tbl (0, 0) _ hr5 Try.underlying25 rfl (by kernel_rfl) ?_) | (go_at_call 47; refine (open_yes (some ⟨bb, off, none⟩) b cb n _ (HB.out.below hW) HN.out (by omega) HCB.out HE.out).mono ?_; rintro e W10 ⟨⟨ay, cy, rfl, hy, _⟩, hb10⟩; have hW := below_next hW hb10))
      have hcells : ∀ i, i < b.length → W10.cell? ⟨bb, off + i, none⟩ = some (.int .u8 (nth b i)) := fun i hi => by rw [hb10.cell (p := ⟨bb, off + i, none⟩) (block_lt_of_cell (w := W9) (a := ⟨bb, off + i, none⟩) (HCC.out i hi))]; exact HCC.out i hi
      have q0 := hcells n hnb
      have q1 := hcells (n + 1) hnb1
      have q2 := hcells (n + 2) hnb2
      have q3 := hcells (n + 3) hnb3
      have b0 := nth_lt b HB.out.1 n
      have b1 := nth_lt b HB.out.1 (n + 1)
      have b2 := nth_lt b HB.out.1 (n + 2)
      have b3 := nth_lt b HB.out.1 (n + 3)
      clear hcells tn
      go_quiet (fail)
      have hT : HasB (W10.drewN nq) (some ⟨bb, off, none⟩) (b.take n) := ((HB.out.below hW).below (below_drewN (Below.refl _ _) nq)).take n
      have hy := hy.below (below_drewN (Below.refl _ _) nq)
      have hW := below_drewN hW nq
      generalize W10.drewN nq = W11 at *
      clear b0 b1 b2 b3 q0 q1 q2 q3 hnb1 hnb2 hnb3 hr5
      have hncb : n ≤ cb := by have := HCB.out; omega
      go_wp2_with (first | (go_at_call 34; refine (rsumN n _ (b.take n) HTK.out cb _ hT (by omega)).mono ?_; rintro e W12 ⟨rfl, hb12⟩; have hW := below_next hW hb12) | (go_at_call 48; refine (same_selfN n ay (b.take n) HTK.out cy _ cb _ (hy.below hb12) (hT.below hb12) (by omega)).mono ?_; rintro e W13 ⟨rfl, hb13⟩; have hW := below_next hW hb13))
      go_ret
      exact ⟨rfl, hW⟩
    · have HE := hid hE
      have tv : ((V : Int) != (M.crc (b.take n) : Int)) = true := by rw [bne_iff_ne]; intro h; exact hE (hVS.1 (by omega))
      clear hVS
      clear hE
      go_upto_region 14 with (first | ((with_reducible show wpList _ _ _ (⟨some 59, _, _, _, _, _⟩ :: _) _ _); refine wpList_load_row rfl _ _ rfl N5 rfl 25 tbl (0, 0) _ hr5 Try.underlying25 rfl (by kernel_rfl) ?_) | (go_at_call 47; refine (open_no (some ⟨bb, off, none⟩) b cb n _ (HB.out.below hW) HN.out (by omega) HCB.out HE.out).mono ?_; rintro e W10 ⟨rfl, hb10⟩; have hW := below_next hW hb10))
      have hcells : ∀ i, i < b.length → W10.cell? ⟨bb, off + i, none⟩ = some (.int .u8 (nth b i)) := fun i hi => by rw [hb10.cell (p := ⟨bb, off + i, none⟩) (block_lt_of_cell (w := W9) (a := ⟨bb, off + i, none⟩) (HCC.out i hi))]; exact HCC.out i hi
      have q0 := hcells n hnb
      have q1 := hcells (n + 1) hnb1
      have q2 := hcells (n + 2) hnb2
      have q3 := hcells (n + 3) hnb3
      have b0 := nth_lt b HB.out.1 n
      have b1 := nth_lt b HB.out.1 (n + 1)
      have b2 := nth_lt b HB.out.1 (n + 2)
      have b3 := nth_lt b HB.out.1 (n + 3)
      clear hcells tn
      go_quiet (fail)
      have hT : HasB (W10.drewN nq) (some ⟨bb, off, none⟩) (b.take n) := ((HB.out.below hW).below (below_drewN (Below.refl _ _) nq)).take n
      have hW := below_drewN hW nq
      generalize W10.drewN nq = W11 at *
      clear b0 b1 b2 b3 q0 q1 q2 q3 hnb1 hnb2 hnb3 hr5
      have hncb : n ≤ cb := by have := HCB.out; omega
      go_wp2_with (first | (go_at_call 34; refine (rsumN n _ (b.take n) HTK.out cb _ hT (by omega)).mono ?_; rintro e W12 ⟨rfl, hb12⟩; have hW := below_next hW hb12))
      go_ret
      exact ⟨rfl, hW⟩
end Go.Proofs.Ytncooadaeifekaa
