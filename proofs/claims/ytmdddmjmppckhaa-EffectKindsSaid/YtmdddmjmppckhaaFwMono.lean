/- More fuel tells the same. -/
import Derived.Test.YtmdddmjmppckhaaFwProg
namespace Go.Fw

def OLe (O O' : Orc) : Prop := ∀ f args ep nx h r, O f args ep nx h = some r → O' f args ep nx h = some r

section
variable {O O' : Orc} {σ σ' : St}

theorem pureOf_mono (hO : OLe O O') {f : FuncId} {args : List SV} {rvs : List RV} (h : pureOf O f args = some rvs) : pureOf O' f args = some rvs := by
  unfold pureOf at h ⊢
  split at h
  · rename_i r x h1
    rw [hO _ _ _ _ _ _ h1]
    exact h
  · cases h

theorem pureCall_mono (hO : OLe O O') {d : Nat} {f : FuncId} {args : List SV} (h : pureCall O σ d f args = some σ') : pureCall O' σ d f args = some σ' := by
  unfold pureCall at h ⊢
  split at h
  · rename_i b xs hb
    split at h
    · rename_i rvs hp
      simp only [pureOf_mono hO hp]
      exact h
    · cases h
  · cases h

theorem lentCall_mono (hO : OLe O O') {d : Nat} {f : FuncId} {args : List SV} {L : List Id} (h : lentCall O σ d f args L = some σ') : lentCall O' σ d f args L = some σ' := by
  unfold lentCall at h ⊢
  split at h
  · rename_i h1
    rw [hO _ _ _ _ _ _ h1]
    exact h
  · cases h

theorem istep_mono (hO : OLe O O') {d : Option Nat} {ins : Ins} (h : istep O σ d ins = some σ') : istep O' σ d ins = some σ' := by
  cases ins with
  | call f args =>
    simp only [istep] at h ⊢
    split at h
    · exact pureCall_mono hO h
    · cases h
  | calll f args more =>
    simp only [istep] at h ⊢
    split at h
    · exact lentCall_mono hO h
    · cases h
  | callv lent x args more =>
    simp only [istep] at h ⊢
    split at h
    · split at h
      · cases lent with
        | true => exact lentCall_mono hO h
        | false => exact pureCall_mono hO h
      · cases h
    · cases h
  | _ => exact h

theorem rstep_mono (hO : OLe O O') {r : RStep} (h : rstep O σ r = some σ') : rstep O' σ r = some σ' := by
  unfold rstep at h ⊢
  split at h
  · exact istep_mono hO h
  · exact h
  · cases h

theorem rrun_mono (hO : OLe O O') : ∀ {rs : List RStep} {σ : St}, rrun O σ rs = some σ' → rrun O' σ rs = some σ'
  | [], _, h => h
  | r :: rs, σ, h => by
    simp only [rrun] at h ⊢
    split at h
    · rename_i h1
      rw [rstep_mono hO h1]
      exact rrun_mono hO h
    · cases h

theorem iter_mono {f g : St → Option (Ex × St)} (hfg : ∀ σ r, f σ = some r → g σ = some r) : ∀ {n m : Nat} {σ : St} {r : Ex × St}, n ≤ m → iter f n σ = some r → iter g m σ = some r
  | 0, _, _, _, _, h => by simp [iter] at h
  | n + 1, 0, _, _, hle, _ => by omega
  | n + 1, m + 1, σ, r, hle, h => by
    simp only [iter] at h ⊢
    split at h
    · rename_i σ1 h1
      rw [hfg _ _ h1]
      exact iter_mono hfg (by omega) h
    · rename_i hne
      rw [hfg _ _ h]
      obtain ⟨e, σ1⟩ := r
      cases e with
      | normal => exact absurd h (hne _)
      | exit id => rfl
      | ret => rfl

theorem brun_mono (hO : OLe O O') {N n m : Nat} (hle : n ≤ m) : ∀ {b : Blk} {σ : St} {r : Ex × St}, brun O N n b σ = some r → brun O' N m b σ = some r
  | .skip, _, _, h => h
  | .reg s, σ, r, h => by
    simp only [brun] at h ⊢
    split at h
    · rename_i h1; rw [rrun_mono hO h1]; exact h
    · cases h
  | .seq a b, σ, r, h => by
    simp only [brun] at h ⊢
    split at h
    · rename_i σ1 h1
      rw [brun_mono hO hle h1]
      exact brun_mono hO hle h
    · rename_i hne
      rw [brun_mono hO hle h]
      obtain ⟨e, σ1⟩ := r
      cases e with
      | normal => exact absurd h (hne _)
      | exit id => rfl
      | ret => rfl
  | .cond c a b, σ, r, h => by
    simp only [brun] at h ⊢
    split at h
    · exact brun_mono hO hle h
    · exact brun_mono hO hle h
    · cases h
  | .block id b, σ, r, h => by
    simp only [brun] at h ⊢
    split at h
    · rename_i id' σ1 h1
      rw [brun_mono hO hle h1]
      exact h
    · rename_i hne
      rw [brun_mono hO hle h]
      obtain ⟨e, σ1⟩ := r
      cases e with
      | normal => rfl
      | exit id => exact absurd h (hne _ _)
      | ret => rfl
  | .loop b, σ, r, h => by
    simp only [brun] at h ⊢
    exact iter_mono (fun σ r hr => brun_mono hO hle hr) hle h
  | .exit _, _, _, h => h
  | .ret, _, _, h => h
  | .gh gs b, σ, r, h => by
    simp only [brun] at h ⊢
    split at h
    · exact brun_mono hO hle h
    · cases h
  | .post b gs, σ, r, h => by
    simp only [brun] at h ⊢
    split at h
    · rename_i σ1 h1
      rw [brun_mono hO hle h1]
      exact h
    · rename_i hne
      rw [brun_mono hO hle h]
      obtain ⟨e, σ1⟩ := r
      cases e with
      | normal => exact absurd h (hne _)
      | exit id => rfl
      | ret => rfl

theorem fcall_mono (hO : OLe O O') {n m : Nat} (hle : n ≤ m) {fi : FI} {args : List SV} {ep nx : Nat} {h : Hp} {r : List RV × Nat × Nat × Hp} (hc : fcall O n fi args ep nx h = some r) : fcall O' m fi args ep nx h = some r := by
  unfold fcall at hc ⊢
  split at hc
  · rename_i hlen
    rw [if_pos hlen]
    split at hc
    · cases hc
    · rename_i e σ hne hr
      rw [brun_mono hO hle hr]
      cases e with
      | normal => exact hc
      | ret => exact hc
      | exit id => exact (hne _ rfl).elim
    · cases hc
  · cases hc

theorem orc_succ (T : Tab) (X : Orc) : ∀ n, OLe (orc T X n) (orc T X (n + 1))
  | 0 => fun f args ep nx h r hc => by
    cases hT : T f with
    | none => simp only [orc, hT] at hc ⊢; exact hc
    | some fi => simp only [orc, hT] at hc; cases hc
  | n + 1 => fun f args ep nx h r hc => by
    cases hT : T f with
    | none => simp only [orc, hT] at hc ⊢; exact hc
    | some fi =>
      simp only [orc, hT] at hc
      rw [orc]
      simp only [hT]
      exact fcall_mono (orc_succ T X n) (Nat.le_succ n) hc

theorem orc_mono (T : Tab) (X : Orc) {n m : Nat} (h : n ≤ m) : OLe (orc T X n) (orc T X m) := by
  induction h with
  | refl => exact fun _ _ _ _ _ _ h => h
  | step _ ih => exact fun f args ep nx h r hc => orc_succ T X _ f args ep nx h r (ih f args ep nx h r hc)
end
end Go.Fw
