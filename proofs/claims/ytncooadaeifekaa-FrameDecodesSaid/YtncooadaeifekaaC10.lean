/- Walks of the frame's within and Right; what a frame's and a sector's cells are. -/
import Derived.Test.YtncooadaeifekaaM3
namespace Go.Proofs.Ytncooadaeifekaa
open Go.RowKit
/-- a frame's cells -/
def frm (f : M.Fr) : Array Value := (Value.int .i64 f.kind :: Value.int .i64 f.zone :: Value.int .i64 f.off :: Value.int .i64 f.epoch :: Value.int .i64 f.seq :: u8s f.body).toArray
/-- a sector's cells -/
def sct (s : List Nat) : Array Value := (u8s s).toArray
theorem frm_size (f : M.Fr) (h : f.ok) : (frm f).size = 49 := by simp [frm, u8s_length, h.1]
theorem sct_size (s : List Nat) : (sct s).size = s.length := by simp [sct, u8s_length]
theorem frm_all (f : M.Fr) : (frm f).all (·.oneCell') = true := by
  refine Array.all_eq_true_iff_forall_mem.2 fun v hv => ?_
  simp only [frm, List.mem_toArray, List.mem_cons] at hv
  rcases hv with rfl | rfl | rfl | rfl | rfl | hv
  all_goals first | rfl | exact u8s_one _ v hv
theorem sct_all (s : List Nat) : (sct s).all (·.oneCell') = true := Array.all_eq_true_iff_forall_mem.2 fun v hv => u8s_one s v (by simpa [sct] using hv)
theorem frm_body (f : M.Fr) (i : Nat) (hi : i < f.body.length) : (frm f)[5 + i]? = some (.int .u8 (nth f.body i)) := by
  have := u8s_at f.body i hi
  rw [show 5 + i = i + 5 by omega]
  simpa [frm] using this
theorem ty41 (f : M.Fr) (h : f.ok) : TyRow Try.prog 41 (frm f).size := by rw [frm_size f h]; unfold TyRow; kernel_rfl
theorem ty44 (s : List Nat) (h : s.length = 64) : TyRow Try.prog 44 (sct s).size := by rw [sct_size, h]; unfold TyRow; kernel_rfl
/-- the bytes of a frame's body, where the frame lies -/
theorem hasB_body {w : World} {N : Nat} {f : M.Fr} {t : TypeId} (h : f.ok) (hr : w.heap[N]? = some (.cells (frm f) t (0, 0))) : HasB w (some ⟨N, 5, none⟩) f.body :=
  ⟨h.2, .inr ⟨N, 5, rfl, fun i hi => by rw [cell_of_row _ _ _ _ _ _ hr]; exact frm_body f i hi⟩⟩
theorem hasB_sct {w : World} {N : Nat} {s : List Nat} {t : TypeId} (h : ∀ c ∈ s, c < 256) (hr : w.heap[N]? = some (.cells (sct s) t (0, 0))) : HasB w (some ⟨N, 0, none⟩) s :=
  ⟨h, .inr ⟨N, 0, rfl, fun i hi => by rw [cell_of_row _ _ _ _ _ _ hr]; have := u8s_at s i hi; simpa [sct] using this⟩⟩
theorem fwithin_calls (x a b : Int) (w : World) :
    Calls Try.prog 76 #[.int .i64 x, .int .i64 a, .int .i64 b] w fun e w' => e = .returned (.bool (decide (a ≤ x ∧ x ≤ b))) ∧ Below w.heap.size w w' := by
  by_cases h1 : a ≤ x
  · by_cases h2 : x ≤ b
    · have t1 : decide (a ≤ x) = true := by simpa using h1
      have t2 : decide (x ≤ b) = true := by simpa using h2
      have t3 : decide (a ≤ x ∧ x ≤ b) = true := by simp [h1, h2]
      rw [t3]
      clear h1 h2 t3
      go_enter Try.func76, Try.ntmps76
      go_wp2
      go_ret
      exact ⟨rfl, Below.refl _ _⟩
    · have t1 : decide (a ≤ x) = true := by simpa using h1
      have t2 : decide (x ≤ b) = false := by simpa using h2
      have t3 : decide (a ≤ x ∧ x ≤ b) = false := by simp; omega
      rw [t3]
      clear h1 h2 t3
      go_enter Try.func76, Try.ntmps76
      go_wp2
      go_ret
      exact ⟨rfl, Below.refl _ _⟩
  · have t1 : decide (a ≤ x) = false := by simpa using h1
    have t3 : decide (a ≤ x ∧ x ≤ b) = false := by simp; omega
    rw [t3]
    clear h1 t3
    go_enter Try.func76, Try.ntmps76
    go_wp2
    go_ret
    exact ⟨rfl, Below.refl _ _⟩
end Go.Proofs.Ytncooadaeifekaa
