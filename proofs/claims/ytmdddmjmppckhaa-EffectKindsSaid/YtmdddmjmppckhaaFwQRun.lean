/- Quiet operations: Go's run tells what `qval` tells. -/
import Derived.Test.YtmdddmjmppckhaaFwQOp
namespace Go.Fw

section
variable {G : Gh} {ep : Nat} {w : World} {v : Value}

theorem asI_RS {x : SV} {n : Int} (h : asI x = some n) (hr : RS G ep w x v) : v = .int .i64 n := by
  unfold asI at h
  split at h
  · injection h with h; subst h; exact RS_int hr
  · cases h
theorem asB_RS {x : SV} {b : Bool} (h : asB x = some b) (hr : RS G ep w x v) : v = .bool b := by
  unfold asB at h
  split at h
  · injection h with h; subst h; exact RS_bool hr
  · cases h

/-! ### Reading cells -/
theorem RCs_get {S : Nat → Prop} {b : Nat} : ∀ {cs : List Cell} {k0 : Nat} {F : List Nat}, RCs w S b k0 cs F → F = [] → ∀ (k : Nat) (c : Cell), cs[k]? = some c → ∃ u, w.cell? ⟨b, k0 + k, none⟩ = some u ∧ RD w S c u []
  | [], _, _, _, _, k, c, hk => by simp at hk
  | c0 :: cs, k0, F, h, hF, k, c, hk => by
    simp only [RCs] at h
    obtain ⟨u, F1, F2, rfl, hu, h1, h2⟩ := h
    obtain ⟨rfl, rfl⟩ : F1 = [] ∧ F2 = [] := by simpa using hF
    cases k with
    | zero => simp at hk; subst hk; exact ⟨u, hu, h1⟩
    | succ k =>
      obtain ⟨u', h3, h4⟩ := RCs_get h2 rfl k c (by simpa using hk)
      exact ⟨u', by rw [← h3]; congr 2; omega, h4⟩
theorem RRow_get {S : Nat → Prop} {b sz : Nat} : ∀ {es : List (List Cell)} {o : Nat} {F : List Nat}, RRow w S b sz o es F → F = [] → ∀ (i : Nat) (e : List Cell), es[i]? = some e → e.length = sz ∧ RCs w S b (o + i * sz) e []
  | [], _, _, _, _, i, e, hi => by simp at hi
  | e0 :: es, o, F, h, hF, i, e, hi => by
    simp only [RRow] at h
    obtain ⟨hl, F1, F2, rfl, h1, h2⟩ := h
    obtain ⟨rfl, rfl⟩ : F1 = [] ∧ F2 = [] := by simpa using hF
    cases i with
    | zero => simp at hi; subst hi; exact ⟨hl, by simpa using h1⟩
    | succ i =>
      obtain ⟨h3, h4⟩ := RRow_get h2 rfl i e (by simpa using hi)
      exact ⟨h3, by rw [show o + (i + 1) * sz = o + sz + i * sz by rw [Nat.add_mul]; omega]; exact h4⟩
theorem RFs_get {b : Nat} : ∀ {cs : List Cell} {k0 : Nat} {F : List Nat}, RFs G ep w b k0 cs F → ∀ (k : Nat) (c : Cell), cs[k]? = some c → ∃ u F1, w.cell? ⟨b, k0 + k, none⟩ = some u ∧ RF G ep w c u F1 ∧ ∀ x ∈ F1, x ∈ F
  | [], _, _, _, k, c, hk => by simp at hk
  | c0 :: cs, k0, F, h, k, c, hk => by
    simp only [RFs] at h
    obtain ⟨u, F1, F2, rfl, hu, h1, h2⟩ := h
    cases k with
    | zero => simp at hk; subst hk; exact ⟨u, F1, hu, h1, fun x hx => by simp [hx]⟩
    | succ k =>
      obtain ⟨u', F3, h3, h4, h5⟩ := RFs_get h2 k c (by simpa using hk)
      exact ⟨u', F3, by rw [← h3]; congr 2; omega, h4, fun x hx => by simp [h5 x hx]⟩
theorem RFRow_get {b sz : Nat} : ∀ {es : List (List Cell)} {o : Nat} {F : List Nat}, RFRow G ep w b sz o es F → ∀ (i : Nat) (e : List Cell), es[i]? = some e → e.length = sz ∧ ∃ F1, RFs G ep w b (o + i * sz) e F1 ∧ ∀ x ∈ F1, x ∈ F
  | [], _, _, _, i, e, hi => by simp at hi
  | e0 :: es, o, F, h, i, e, hi => by
    simp only [RFRow] at h
    obtain ⟨hl, F1, F2, rfl, h1, h2⟩ := h
    cases i with
    | zero => simp at hi; subst hi; exact ⟨hl, F1, by simpa using h1, fun x hx => by simp [hx]⟩
    | succ i =>
      obtain ⟨h3, F3, h4, h5⟩ := RFRow_get h2 i e (by simpa using hi)
      exact ⟨h3, F3, by rw [show o + (i + 1) * sz = o + sz + i * sz by rw [Nat.add_mul]; omega]; exact h4, fun x hx => by simp [h5 x hx]⟩

/-! ### Freezing -/
mutual
theorem RD_frz {S S' : Nat → Prop} (hS : ∀ b, S b → S' b) : ∀ (c : Cell) (v : Value) (F : List Nat), RD w S c v F → (∀ b ∈ F, S' b) → RD w S' (frz c) v []
  | .int .., v, F, h, _ | .bool .., v, F, h, _ | .str .., v, F, h, _ | .nilp, v, F, h, _ | .nili, v, F, h, _ | .nilf, v, F, h, _ | .und, v, F, h, _ | .fn .., v, F, h, _ | .z, v, F, h, _ => by
    simp only [RD, frz] at h ⊢
    simp [h]
  | .ifc t c, v, F, h, hF => by
    simp only [RD, frz] at h ⊢
    obtain ⟨_, u, e, hu⟩ := h
    exact ⟨trivial, u, e, RD_frz hS c u [] hu (by simp)⟩
  | .ro es, v, F, h, hF => by
    simp only [frz]
    simp only [RD] at h ⊢
    obtain ⟨e, a, cap, hv, hc, hr⟩ := h
    refine ⟨trivial, a, cap, hv, hc, fun hne => ?_⟩
    obtain ⟨b, o, sz, ha, hb, hrow⟩ := hr hne
    exact ⟨b, o, sz, ha, hS b hb, RRow_mono (fun b hb => ⟨hS b hb, rfl⟩) b sz o (fun _ _ => rfl) es [] hrow (by simp)⟩
  | .ow sz es, v, F, h, hF => by
    simp only [frz]
    simp only [RD] at h ⊢
    rcases h with ⟨rfl, rfl, a, hv⟩ | ⟨b, o, cap, cur, E, F', hv, hh, hcap, hle, hm, rfl, hrow⟩
    · exact ⟨trivial, a, 0, by simpa [frzRows] using hv, by simp [frzRows], by simp [frzRows]⟩
    · have hlen : (frzRows es).length = es.length := by rw [frzRows_eq]; simp
      refine ⟨trivial, some ⟨b, o, none⟩, cap, by rw [hlen]; exact hv, by rw [hlen]; exact hle, fun _ => ⟨b, o, sz, rfl, hF b (by simp), RRow_frz hS b sz es o F' hrow (fun x hx => hF x (by simp [hx]))⟩⟩
  | .ar cs j, v, F, h, hF => by
    simp only [frz]
    simp only [RD] at h ⊢
    obtain ⟨e, b, o, hv, hb, hcs⟩ := h
    exact ⟨trivial, b, o, hv, hS b hb, RCs_mono (fun b hb => ⟨hS b hb, rfl⟩) b o (fun _ _ => rfl) cs [] hcs (by simp)⟩
  | .sn .., _, _, h, _ | .sa .., _, _, h, _ | .sl .., _, _, h, _ | .ad .., _, _, h, _ | .bad, _, _, h, _ => by simp only [RD] at h
theorem RRow_frz {S S' : Nat → Prop} (hS : ∀ b, S b → S' b) (b sz : Nat) : ∀ (es : List (List Cell)) (o : Nat) (F : List Nat), RRow w S b sz o es F → (∀ b ∈ F, S' b) → RRow w S' b sz o (frzRows es) []
  | [], _, _, _, _ => by simp [frzRows, RRow]
  | e :: es, o, F, h, hF => by
    simp only [RRow] at h
    obtain ⟨hl, F1, F2, rfl, h1, h2⟩ := h
    simp only [frzRows, RRow]
    exact ⟨by rw [frzs_eq]; simpa using hl, [], [], rfl, RCs_frz hS b e o F1 h1 (fun x hx => hF x (by simp [hx])), RRow_frz hS b sz es (o + sz) F2 h2 (fun x hx => hF x (by simp [hx]))⟩
theorem RCs_frz {S S' : Nat → Prop} (hS : ∀ b, S b → S' b) (b : Nat) : ∀ (cs : List Cell) (k : Nat) (F : List Nat), RCs w S b k cs F → (∀ b ∈ F, S' b) → RCs w S' b k (frzs cs) []
  | [], _, _, _, _ => by simp [frzs, RCs]
  | c :: cs, k, F, h, hF => by
    simp only [RCs] at h
    obtain ⟨u, F1, F2, rfl, hu, h1, h2⟩ := h
    simp only [frzs, RCs]
    exact ⟨u, [], [], rfl, hu, RD_frz hS c u F1 h1 (fun x hx => hF x (by simp [hx])), RCs_frz hS b cs (k + 1) F2 h2 (fun x hx => hF x (by simp [hx]))⟩
end

/-- What a peek tells stands. -/
theorem RX_peek {c : Cell} {F : List Nat} (hs : ∀ b, G.S b → b < w.heap.size) (hF : ∀ b ∈ F, b < w.heap.size) (h : RF G ep w c v F) : RX G ep w (peek ep c) v := by
  by_cases hc : ∃ sz es, c = .ow sz es
  · obtain ⟨sz, es, rfl⟩ := hc
    have key : ∀ F, (∀ b ∈ F, b < w.heap.size) → RD w G.S (.ow sz es) v F → RX G ep w (peek ep (.ow sz es)) v := fun F hF h => by
      refine ⟨Nat.le_refl _, fun _ => ?_⟩
      have := RD_frz (S' := AllB w) hs (.ow sz es) v F h hF
      simpa only [frz] using this
    rcases h with h | ⟨h, rfl⟩
    · exact key F hF h
    · exact key [] (by simp) h
  · have hne : ∀ sz es, c ≠ .ow sz es := fun sz es e => hc ⟨sz, es, e⟩
    have hp : peek ep c = c := by cases c <;> first | rfl | exact absurd rfl (hne _ _)
    rw [hp]
    rcases h with h | ⟨h, rfl⟩
    · obtain rfl := RD_F hne h
      have hl : c.live = false := by cases c <;> simp only [RD] at h <;> simp [Cell.live]; exact h.1
      exact (RX_plain hl).2 h
    · exact h

end

end Go.Fw
