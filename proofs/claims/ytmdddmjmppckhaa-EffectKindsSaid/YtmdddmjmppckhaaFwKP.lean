/- The law EffectKinds, of the plain functions. -/
import Derived.Test.YtmdddmjmppckhaaFwKF
namespace Go.Fw.K
open Go.Fw

def reck (n : Int) : Bool := decide (n = 2 ∨ n = 14 ∨ (3 ≤ n ∧ n ≤ 13))
theorem args_eq (n : Int) : arith_Args_f n = some (if n = 2 ∨ n = 14 then 1 else if 3 ≤ n ∧ n ≤ 13 then 2 else 0, reck n) := by
  unfold arith_Args_f reck
  by_cases h1 : n = 2 ∨ n = 14
  · rcases h1 with rfl | rfl <;> simp
  · by_cases h2 : 3 ≤ n ∧ n ≤ 13
    · have : ¬ n = 2 ∧ ¬ n = 14 := by omega
      simp [this, h2]
    · have h3 : ¬ n = 2 ∧ ¬ n = 14 := by omega
      have h4 : ¬ (n ≥ 3 ∧ n ≤ 13) := h2
      simp only [h3.1, h3.2, decide_false, Bool.or_self, Bool.false_eq_true, if_false, ← Bool.decide_and, decide_eq_true_eq, h4, h2, or_self]

theorem plain_eq (x : Instr) : effect_plain_f x = some (decide (x.Op = 1) || (reck x.Op && !decide (x.Op = 11))) := by
  unfold effect_plain_f arith_Traps_f
  rw [args_eq]
  by_cases h1 : x.Op = 1
  · simp [h1]
  · cases h2 : reck x.Op <;> simp [h1, h2]

theorem rargs_eq (n : Int) : ∃ k, ref01_Args_f n = some k ∧ (decide (k > 0)) = reck n := by
  unfold ref01_Args_f reck
  by_cases h2 : n = 2
  · subst h2; exact ⟨_, rfl, by decide⟩
  by_cases h14 : n = 14
  · subst h14; exact ⟨_, rfl, by decide⟩
  by_cases h3 : 3 ≤ n ∧ n ≤ 13
  · have : n = 3 ∨ n = 4 ∨ n = 5 ∨ n = 6 ∨ n = 7 ∨ n = 8 ∨ n = 9 ∨ n = 10 ∨ n = 11 ∨ n = 12 ∨ n = 13 := by omega
    rcases this with rfl | rfl | rfl | rfl | rfl | rfl | rfl | rfl | rfl | rfl | rfl <;> exact ⟨_, rfl, by decide⟩
  · have hn : n ≠ 3 ∧ n ≠ 4 ∧ n ≠ 5 ∧ n ≠ 6 ∧ n ≠ 7 ∧ n ≠ 8 ∧ n ≠ 9 ∧ n ≠ 10 ∧ n ≠ 11 ∧ n ≠ 12 ∧ n ≠ 13 := by omega
    have hr : ¬ (n = 2 ∨ n = 14 ∨ (3 ≤ n ∧ n ≤ 13)) := by omega
    refine ⟨-1, by simp [hn, h2, h14], ?_⟩
    rw [decide_eq_false hr]; rfl

theorem at_of (l : List Effect) {i : Int} (h : 0 ≤ i ∧ i < (l.length : Int)) : ∃ v, at? l i = some v := by
  have hlt : i.toNat < l.length := by omega
  exact ⟨l[i.toNat], by simp [at?, h.1, hlt]⟩

theorem rem_eq (x : Instr) (l : List Effect) : effect_Removable_f x l = ref15_Removable_f x l false ∧ effect_Fixed_f x l = ref15_Removable_f x l true ∧ ∃ b c, effect_Removable_f x l = some b ∧ effect_Fixed_f x l = some c := by
  unfold effect_Removable_f effect_Fixed_f ref15_Removable_f
  rw [plain_eq]
  obtain ⟨k, hk, hk2⟩ := rargs_eq x.Op
  by_cases h17 : x.Op = 17
  · have hr : reck 17 = false := by decide
    by_cases hf : 0 ≤ x.Fun ∧ x.Fun < (l.length : Int)
    · obtain ⟨v, hv⟩ := at_of l hf
      have h2 : ¬ x.Fun < 0 := by omega
      have h3 : ¬ (l.length : Int) ≤ x.Fun := by omega
      simp only [h17, hr, hf, h2, h3, hv, effect_Quiet_f, effect_Still_f, ref15_Quiet_f, Option.bind_some, ge_iff_le, decide_true, decide_false, Bool.and_self, Bool.or_self, if_true, Bool.false_and, Bool.or_false, Bool.false_eq_true, if_false, show ¬ (17 : Int) = 1 by decide]
      cases v.Writes <;> cases v.Outs <;> cases v.Traps <;> cases v.Turns <;> cases v.Reads <;> simp
    · have h2 : ¬ (0 ≤ x.Fun ∧ x.Fun < (l.length : Int)) := hf
      have h3 : (decide (x.Fun < 0) || decide ((l.length : Int) ≤ x.Fun)) = true := by
        rw [Bool.or_eq_true, decide_eq_true_eq, decide_eq_true_eq]; omega
      have h4 : (decide (0 ≤ x.Fun) && decide (x.Fun < (l.length : Int))) = false := by
        rw [Bool.eq_false_iff]; simp only [ne_eq, Bool.and_eq_true, decide_eq_true_eq]; exact h2
      simp only [h17, hr, ge_iff_le, h3, h4, decide_true, decide_false, Bool.true_and, Bool.and_self, Bool.or_self, if_true, Bool.false_and, Bool.or_false, Bool.false_eq_true, if_false, show ¬ (17 : Int) = 1 by decide, Option.bind_some]
      exact ⟨trivial, trivial, _, _, rfl, rfl⟩
  · simp only [h17, if_false, hk, Option.bind_some, hk2, decide_false, Bool.false_and, Bool.false_eq_true]
    by_cases h1 : x.Op = 1
    · simp [h1]
    · by_cases h11 : x.Op = 11
      · have hr : reck x.Op = true := by rw [h11]; decide
        simp [h11]
      · cases reck x.Op <;> simp [h1, h11]

theorem kinds (x : Instr) (l : List Effect) (e : Effect) : law15_EffectKinds_f x l e = some true := by
  unfold law15_EffectKinds_f
  obtain ⟨h1, h2, b, c, hb, hc⟩ := rem_eq x l
  rw [hb] at h1; rw [hc] at h2
  simp only [law15_up_f, effect_Quiet_f, effect_Still_f, ref15_Quiet_f, ref15_Still_f, hb, hc, ← h1, ← h2, Option.bind_some]
  split
  · rfl
  · cases e.Writes <;> cases e.Outs <;> cases e.Traps <;> cases e.Turns <;> cases e.Reads <;> cases b <;> cases c <;> simp
end Go.Fw.K
