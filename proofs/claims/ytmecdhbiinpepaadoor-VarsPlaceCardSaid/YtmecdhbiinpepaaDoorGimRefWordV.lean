/- The document's Word, at a byte. Conditions: none. -/
import Derived.Test.YtmecdhbiinpepaaDoorGimPackX
namespace Go.Proofs.YtmecdhbiinpepaaDoor
open Go.RowKit Go.Gim
set_option maxHeartbeats 1600000 in
set_option maxRecDepth 1000000 in
theorem refWordV_any (c : UInt8) (w : World) : Calls Tryd.prog 21 #[.int .u8 c.toNat] w fun e w' => e = .returned (.bool (wB c)) ∧ w' = w := by
  have hall : wB c = (decide ((48 : Int) ≤ (c.toNat : Int)) && decide ((c.toNat : Int) ≤ 57) || decide ((65 : Int) ≤ (c.toNat : Int)) && decide ((c.toNat : Int) ≤ 90) || decide ((97 : Int) ≤ (c.toNat : Int)) && decide ((c.toNat : Int) ≤ 122) || ((c.toNat : Int) == 95) || decide ((128 : Int) ≤ (c.toNat : Int))) := by
    unfold wB
    rw [Bool.eq_iff_iff]
    simp only [Bool.or_eq_true, Bool.and_eq_true, decide_eq_true_eq, beq_iff_eq]
    omega
  rw [hall]
  clear hall
  go_enter Tryd.func21, Tryd.ntmps21
  by_cases h1 : (48 : Int) ≤ (c.toNat : Int)
  · by_cases h2 : (c.toNat : Int) ≤ 57
    · go_wp2_with fail
      go_ret
      exact ⟨ret_bool (by simp [h1, h2]), rfl⟩
    · by_cases h3 : (65 : Int) ≤ (c.toNat : Int)
      · by_cases h4 : (c.toNat : Int) ≤ 90
        · go_wp2_with fail
          go_ret
          exact ⟨ret_bool (by simp <;> omega), rfl⟩
        · by_cases h5 : (97 : Int) ≤ (c.toNat : Int)
          · by_cases h6 : (c.toNat : Int) ≤ 122
            · go_wp2_with fail
              go_ret
              exact ⟨ret_bool (by simp <;> omega), rfl⟩
            · by_cases h7 : ((c.toNat : Int) == 95) = true
              · go_wp2_with fail
                go_ret
                exact ⟨ret_bool (by simp at h7 ⊢ <;> omega), rfl⟩
              · have h7' : ((c.toNat : Int) == 95) = false := by simpa using h7
                by_cases h8 : (128 : Int) ≤ (c.toNat : Int)
                · go_wp2_with fail
                  go_ret
                  exact ⟨ret_bool (by simp <;> omega), rfl⟩
                · go_wp2_with fail
                  go_ret
                  exact ⟨ret_bool (by simp at h7' ⊢ <;> omega), rfl⟩
          · by_cases h7 : ((c.toNat : Int) == 95) = true
            · go_wp2_with fail
              go_ret
              exact ⟨ret_bool (by simp at h7 ⊢ <;> omega), rfl⟩
            · have h7' : ((c.toNat : Int) == 95) = false := by simpa using h7
              by_cases h8 : (128 : Int) ≤ (c.toNat : Int)
              · go_wp2_with fail
                go_ret
                exact ⟨ret_bool (by simp <;> omega), rfl⟩
              · go_wp2_with fail
                go_ret
                exact ⟨ret_bool (by simp at h7' ⊢ <;> omega), rfl⟩
      · by_cases h5 : (97 : Int) ≤ (c.toNat : Int)
        · by_cases h6 : (c.toNat : Int) ≤ 122
          · go_wp2_with fail
            go_ret
            exact ⟨ret_bool (by simp <;> omega), rfl⟩
          · by_cases h7 : ((c.toNat : Int) == 95) = true
            · go_wp2_with fail
              go_ret
              exact ⟨ret_bool (by simp at h7 ⊢ <;> omega), rfl⟩
            · have h7' : ((c.toNat : Int) == 95) = false := by simpa using h7
              by_cases h8 : (128 : Int) ≤ (c.toNat : Int)
              · go_wp2_with fail
                go_ret
                exact ⟨ret_bool (by simp <;> omega), rfl⟩
              · go_wp2_with fail
                go_ret
                exact ⟨ret_bool (by simp at h7' ⊢ <;> omega), rfl⟩
        · by_cases h7 : ((c.toNat : Int) == 95) = true
          · go_wp2_with fail
            go_ret
            exact ⟨ret_bool (by simp at h7 ⊢ <;> omega), rfl⟩
          · have h7' : ((c.toNat : Int) == 95) = false := by simpa using h7
            by_cases h8 : (128 : Int) ≤ (c.toNat : Int)
            · go_wp2_with fail
              go_ret
              exact ⟨ret_bool (by simp <;> omega), rfl⟩
            · go_wp2_with fail
              go_ret
              exact ⟨ret_bool (by simp at h7' ⊢ <;> omega), rfl⟩
  · by_cases h3 : (65 : Int) ≤ (c.toNat : Int)
    · by_cases h4 : (c.toNat : Int) ≤ 90
      · go_wp2_with fail
        go_ret
        exact ⟨ret_bool (by simp <;> omega), rfl⟩
      · by_cases h5 : (97 : Int) ≤ (c.toNat : Int)
        · by_cases h6 : (c.toNat : Int) ≤ 122
          · go_wp2_with fail
            go_ret
            exact ⟨ret_bool (by simp <;> omega), rfl⟩
          · by_cases h7 : ((c.toNat : Int) == 95) = true
            · go_wp2_with fail
              go_ret
              exact ⟨ret_bool (by simp at h7 ⊢ <;> omega), rfl⟩
            · have h7' : ((c.toNat : Int) == 95) = false := by simpa using h7
              by_cases h8 : (128 : Int) ≤ (c.toNat : Int)
              · go_wp2_with fail
                go_ret
                exact ⟨ret_bool (by simp <;> omega), rfl⟩
              · go_wp2_with fail
                go_ret
                exact ⟨ret_bool (by simp at h7' ⊢ <;> omega), rfl⟩
        · by_cases h7 : ((c.toNat : Int) == 95) = true
          · go_wp2_with fail
            go_ret
            exact ⟨ret_bool (by simp at h7 ⊢ <;> omega), rfl⟩
          · have h7' : ((c.toNat : Int) == 95) = false := by simpa using h7
            by_cases h8 : (128 : Int) ≤ (c.toNat : Int)
            · go_wp2_with fail
              go_ret
              exact ⟨ret_bool (by simp <;> omega), rfl⟩
            · go_wp2_with fail
              go_ret
              exact ⟨ret_bool (by simp at h7' ⊢ <;> omega), rfl⟩
    · by_cases h5 : (97 : Int) ≤ (c.toNat : Int)
      · by_cases h6 : (c.toNat : Int) ≤ 122
        · go_wp2_with fail
          go_ret
          exact ⟨ret_bool (by simp <;> omega), rfl⟩
        · by_cases h7 : ((c.toNat : Int) == 95) = true
          · go_wp2_with fail
            go_ret
            exact ⟨ret_bool (by simp at h7 ⊢ <;> omega), rfl⟩
          · have h7' : ((c.toNat : Int) == 95) = false := by simpa using h7
            by_cases h8 : (128 : Int) ≤ (c.toNat : Int)
            · go_wp2_with fail
              go_ret
              exact ⟨ret_bool (by simp <;> omega), rfl⟩
            · go_wp2_with fail
              go_ret
              exact ⟨ret_bool (by simp at h7' ⊢ <;> omega), rfl⟩
      · by_cases h7 : ((c.toNat : Int) == 95) = true
        · go_wp2_with fail
          go_ret
          exact ⟨ret_bool (by simp at h7 ⊢ <;> omega), rfl⟩
        · have h7' : ((c.toNat : Int) == 95) = false := by simpa using h7
          by_cases h8 : (128 : Int) ≤ (c.toNat : Int)
          · go_wp2_with fail
            go_ret
            exact ⟨ret_bool (by simp <;> omega), rfl⟩
          · go_wp2_with fail
            go_ret
            exact ⟨ret_bool (by simp at h7' ⊢ <;> omega), rfl⟩

end Go.Proofs.YtmecdhbiinpepaaDoor
