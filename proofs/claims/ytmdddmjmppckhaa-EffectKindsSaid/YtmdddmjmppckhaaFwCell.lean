/-
The abstract cells, and how they stand in a world: a cell tells a value, and the blocks that it owns.
-/
import Derived.Calls
import Derived.Below
import Derived.Laws.AppendOwn
import Derived.Laws.Rows
namespace Go.Fw

abbrev Id := Nat × Nat

inductive Cell where
  | int (k : IntKind) (n : Int)
  | bool (b : Bool)
  | str (s : ByteArray)
  | nilp | nili | nilf | und
  | ifc (t : TypeId) (c : Cell)
  | fn (f : FuncId) (caps : List Cell)
  | z
  | ro (es : List (List Cell))
  | ow (sz : Nat) (es : List (List Cell))
  | ar (cs : List Cell) (j : Nat)
  | sn (e : Nat) (es : List (List Cell))
  | sa (e : Nat) (cs : List Cell) (j : Nat)
  | sl (id : Id) (off len : Nat)
  | ad (id : Id) (i j : Nat)
  | bad

/-! ### Data in a world -/
mutual
def RD (w : World) (S : Nat → Prop) : Cell → Value → List Nat → Prop
  | .int k n, v, F => v = .int k n ∧ F = []
  | .bool b, v, F => v = .bool b ∧ F = []
  | .str s, v, F => v = .string s ∧ F = []
  | .nilp, v, F => v = .pointer none ∧ F = []
  | .nili, v, F => v = .nilIface ∧ F = []
  | .nilf, v, F => v = .nilFunc ∧ F = []
  | .und, v, F => v = undef ∧ F = []
  | .ifc t c, v, F => F = [] ∧ ∃ u, v = .iface t u ∧ RD w S c u []
  | .fn f caps, v, F => caps = [] ∧ v = .func (.func f) #[] #[] ∧ F = []
  | .z, v, F => (∃ a, v = .slice a 0 0) ∧ F = []
  | .ro es, v, F => F = [] ∧ ∃ a cap, v = .slice a es.length cap ∧ es.length ≤ cap ∧
      (es ≠ [] → ∃ b o sz, a = some ⟨b, o, none⟩ ∧ S b ∧ RRow w S b sz o es [])
  | .ow sz es, v, F => (es = [] ∧ F = [] ∧ ∃ a, v = .slice a 0 0) ∨
      ∃ b o cap cur E F', v = .slice (some ⟨b, o, none⟩) es.length cap ∧ w.heap[b]? = some (.cells cur E (0, 0)) ∧ o + cap * sz = cur.size ∧
        es.length ≤ cap ∧ cap ≤ maxLen ∧ F = b :: F' ∧ RRow w S b sz o es F'
  | .ar cs j, v, F => F = [] ∧ ∃ b o, v = .pointer (some ⟨b, o + j, none⟩) ∧ S b ∧ RCs w S b o cs []
  | .sn _ _, _, _ | .sa _ _ _, _, _ | .sl _ _ _, _, _ | .ad _ _ _, _, _ | .bad, _, _ => False
def RRow (w : World) (S : Nat → Prop) (b sz : Nat) : Nat → List (List Cell) → List Nat → Prop
  | _, [], F => F = []
  | o, e :: es, F => e.length = sz ∧ ∃ F1 F2, F = F1 ++ F2 ∧ RCs w S b o e F1 ∧ RRow w S b sz (o + sz) es F2
def RCs (w : World) (S : Nat → Prop) (b : Nat) : Nat → List Cell → List Nat → Prop
  | _, [], F => F = []
  | k, c :: cs, F => ∃ u F1 F2, F = F1 ++ F2 ∧ w.cell? ⟨b, k, none⟩ = some u ∧ RD w S c u F1 ∧ RCs w S b (k + 1) cs F2
end

mutual
/-- Read-only: what is owned is told as read only. -/
def frz : Cell → Cell
  | .ow _ es => .ro (frzRows es)
  | .ifc t c => .ifc t (frz c)
  | c => c
def frzRows : List (List Cell) → List (List Cell)
  | [] => []
  | e :: es => frzs e :: frzRows es
def frzs : List Cell → List Cell
  | [] => []
  | c :: cs => frz c :: frzs cs
end

theorem frzs_eq (cs : List Cell) : frzs cs = cs.map frz := by
  induction cs with
  | nil => rfl
  | cons c cs ih => simp [frzs, ih]
theorem frzRows_eq (es : List (List Cell)) : frzRows es = es.map fun e => e.map frz := by
  induction es with
  | nil => rfl
  | cons e es ih => simp [frzRows, ih, frzs_eq]

section
variable {w w' : World} {S S' : Nat → Prop}

/-- What the stable blocks tell. -/
def Agree (S : Nat → Prop) (w w' : World) : Prop := ∀ b, S b → w'.heap[b]? = w.heap[b]?

theorem cell?_of_heap {b : Nat} (h : w'.heap[b]? = w.heap[b]?) (o : Nat) : w'.cell? ⟨b, o, none⟩ = w.cell? ⟨b, o, none⟩ := by
  simp [World.cell?, h]

mutual
theorem RD_mono (hS : ∀ b, S b → S' b ∧ w'.heap[b]? = w.heap[b]?) : ∀ (c : Cell) (v : Value) (F : List Nat), RD w S c v F → (∀ b ∈ F, w'.heap[b]? = w.heap[b]?) → RD w' S' c v F
  | .int .., _, _, h, _ | .bool .., _, _, h, _ | .str .., _, _, h, _ | .nilp, _, _, h, _ | .nili, _, _, h, _ | .nilf, _, _, h, _ | .und, _, _, h, _ | .fn .., _, _, h, _ | .z, _, _, h, _ => by
    simpa only [RD] using h
  | .ifc t c, v, F, h, hF => by
    simp only [RD] at h ⊢
    obtain ⟨e0, u, e, hu⟩ := h
    exact ⟨e0, u, e, RD_mono hS c u [] hu (by simp)⟩
  | .ro es, v, F, h, hF => by
    simp only [RD] at h ⊢
    obtain ⟨e, a, cap, hv, hc, hr⟩ := h
    refine ⟨e, a, cap, hv, hc, fun hne => ?_⟩
    obtain ⟨b, o, sz, ha, hb, hrow⟩ := hr hne
    exact ⟨b, o, sz, ha, (hS b hb).1, RRow_mono hS b sz o (fun k _ => cell?_of_heap (hS b hb).2 k) es [] hrow (by simp)⟩
  | .ow sz es, v, F, h, hF => by
    simp only [RD] at h ⊢
    rcases h with h | ⟨b, o, cap, cur, E, F', hv, hh, hcap, hle, hm, rfl, hrow⟩
    · exact .inl h
    · have hb := hF b (by simp)
      exact .inr ⟨b, o, cap, cur, E, F', hv, by rw [hb]; exact hh, hcap, hle, hm, rfl, RRow_mono hS b sz o (fun k _ => cell?_of_heap hb k) es F' hrow (fun x hx => hF x (by simp [hx]))⟩
  | .ar cs j, v, F, h, hF => by
    simp only [RD] at h ⊢
    obtain ⟨e, b, o, hv, hb, hcs⟩ := h
    exact ⟨e, b, o, hv, (hS b hb).1, RCs_mono hS b o (fun k _ => cell?_of_heap (hS b hb).2 k) cs [] hcs (by simp)⟩
  | .sn .., _, _, h, _ | .sa .., _, _, h, _ | .sl .., _, _, h, _ | .ad .., _, _, h, _ | .bad, _, _, h, _ => by simp only [RD] at h
theorem RRow_mono (hS : ∀ b, S b → S' b ∧ w'.heap[b]? = w.heap[b]?) (b sz : Nat) : ∀ (k0 : Nat) (_ : ∀ k, k0 ≤ k → w'.cell? ⟨b, k, none⟩ = w.cell? ⟨b, k, none⟩) (es : List (List Cell)) (F : List Nat), RRow w S b sz k0 es F → (∀ b ∈ F, w'.heap[b]? = w.heap[b]?) → RRow w' S' b sz k0 es F
  | _, _, [], F, h, _ => by simpa only [RRow] using h
  | k0, hc, e :: es, F, h, hF => by
    simp only [RRow] at h ⊢
    obtain ⟨hl, F1, F2, rfl, h1, h2⟩ := h
    exact ⟨hl, F1, F2, rfl, RCs_mono hS b k0 hc e F1 h1 (fun x hx => hF x (by simp [hx])), RRow_mono hS b sz (k0 + sz) (fun k hk => hc k (by omega)) es F2 h2 (fun x hx => hF x (by simp [hx]))⟩
theorem RCs_mono (hS : ∀ b, S b → S' b ∧ w'.heap[b]? = w.heap[b]?) (b : Nat) : ∀ (k0 : Nat) (_ : ∀ k, k0 ≤ k → w'.cell? ⟨b, k, none⟩ = w.cell? ⟨b, k, none⟩) (cs : List Cell) (F : List Nat), RCs w S b k0 cs F → (∀ b ∈ F, w'.heap[b]? = w.heap[b]?) → RCs w' S' b k0 cs F
  | _, _, [], F, h, _ => by simpa only [RCs] using h
  | k0, hc, c :: cs, F, h, hF => by
    simp only [RCs] at h ⊢
    obtain ⟨u, F1, F2, rfl, hu, h1, h2⟩ := h
    exact ⟨u, F1, F2, rfl, by rw [hc k0 (by omega)]; exact hu, RD_mono hS c u F1 h1 (fun x hx => hF x (by simp [hx])), RCs_mono hS b (k0 + 1) (fun k hk => hc k (by omega)) cs F2 h2 (fun x hx => hF x (by simp [hx]))⟩
end

theorem RD_F {c : Cell} {v : Value} {F : List Nat} (hc : ∀ sz es, c ≠ .ow sz es) (h : RD w S c v F) : F = [] := by
  cases c <;> simp only [RD] at h
  case ow sz es => exact absurd rfl (hc sz es)
  all_goals simp_all
end

end Go.Fw
