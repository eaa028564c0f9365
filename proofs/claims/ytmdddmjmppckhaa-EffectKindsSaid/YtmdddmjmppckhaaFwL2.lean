/- Words for proofs on the machine. -/
import Derived.Test.YtmdddmjmppckhaaFwAwp
namespace Go.Fw

def look : List (Nat × SV) → (Nat → SV) → Nat → SV
  | [], j, s => j s
  | (k, x) :: L, j, s => if s = k then x else look L j s

theorem look_self : ∀ (ks : List Nat) (t : Nat → SV), t = look (ks.map fun k => (k, t k)) t
  | [], t => rfl
  | k :: ks, t => by
    funext s
    simp only [List.map_cons, look]
    split
    · rename_i h; rw [h]
    · rw [← look_self ks t]

theorem St.at_ (σ : St) (ks : List Nat) : σ = ⟨look (ks.map fun k => (k, σ.t k)) σ.t, σ.h, σ.ep, σ.nx⟩ := by
  rw [← look_self]

theorem wrap_id {n : Int} (h1 : -9223372036854775808 ≤ n) (h2 : n < 9223372036854775808) : IntKind.i64.wrap n = n := by
  show (if true && decide (n % 18446744073709551616 ≥ 9223372036854775808) then n % 18446744073709551616 - 18446744073709551616 else n % 18446744073709551616) = n
  by_cases h : n % 18446744073709551616 ≥ 9223372036854775808
  · simp only [h, decide_true, Bool.and_self, if_true]; omega
  · simp only [h, decide_false, Bool.and_false, Bool.false_eq_true, if_false]; omega

def int (n : Int) : Cell := .int .i64 n
def encI (n : Int) : List Cell := [.int .i64 n]

section
variable {T : Tab} {X : Orc} {σ σ' : St} {N : Nat} {K K' : St → Prop} {Q Q' : Ex → St → Prop}

theorem IWp.mvc {d : Option Nat} {o : Opd} {x : Cell} (h : σ.get o = .c x) (hk : K (σ.put d (.c x))) : IWp T X d (.q (.mv o)) σ K := IWp.q (by simp only [qval, h]) hk
theorem IWp.mva {d : Option Nat} {o : Opd} {x : List Cell} (h : σ.get o = .a x) (hk : K (σ.put d (.a x))) : IWp T X d (.q (.mv o)) σ K := IWp.q (by simp only [qval, h]) hk
theorem IWp.idxr {d : Option Nat} {sz : Nat} {x i : Opd} {es : List (List Cell)} {n : Nat} {e : List Cell} (h : σ.get x = .c (.ro es)) (hi : σ.get i = .c (.int .i64 n)) (he : es[n]? = some e) (hl : e.length = sz) (hk : K (σ.put d (.c (.ar e 0)))) :
    IWp T X d (.q (.idx sz x i)) σ K := IWp.q (by simp [qval, h, hi, asI, he, hl]) hk
end

/-- What slots hold. -/
def Has (L : List (Nat × SV)) (σ : St) : Prop := ∃ j, σ.t = look L j
theorem Has.intro {L : List (Nat × SV)} {σ : St} (h : L.map (fun p => (p.1, σ.t p.1)) = L) : Has L σ := by
  refine ⟨σ.t, ?_⟩
  have h1 := look_self (L.map (·.1)) σ.t
  rw [List.map_map] at h1
  rw [show (L.map ((fun k => (k, σ.t k)) ∘ fun p => p.1)) = L from h] at h1
  exact h1
theorem Has.elim {L : List (Nat × SV)} {σ : St} (h : Has L σ) : ∃ j h ep nx, σ = ⟨look L j, h, ep, nx⟩ := by
  obtain ⟨j, hj⟩ := h
  exact ⟨j, σ.h, σ.ep, σ.nx, by cases σ; simp only at hj; subst hj; rfl⟩

section
variable {T : Tab} {X : Orc} {σ σ' : St} {N : Nat} {K K' : St → Prop} {Q Q' : Ex → St → Prop}
theorem IWp.inc {d : Option Nat} {x : Opd} {i : Nat} (h : σ.get x = .c (.int .i64 i)) (hb : i < 9223372036854775807) (hk : K (σ.put d (.c (.int .i64 (i + 1 : Nat))))) :
    IWp T X d (.q (.bin .add x (.k (.c (.int .i64 1))))) σ K := IWp.q (by
      have h1 : σ.get (.k (.c (.int .i64 1))) = .c (.int .i64 1) := rfl
      simp only [qval, h, h1, opInt, if_true, Option.map_some]
      rw [wrap_id (by omega) (by omega)]; rfl) hk
end
end Go.Fw
