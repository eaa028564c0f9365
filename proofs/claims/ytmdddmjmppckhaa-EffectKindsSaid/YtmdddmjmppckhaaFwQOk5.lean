/- Quiet operations: cutting slices, building structs, making function values. -/
import Derived.Test.YtmdddmjmppckhaaFwQOk4
namespace Go.Fw

section
variable {P : Program} {V : Env} {σ : St} {a : Act} {w : World} {G : Gh} {o : Oper} {x : SV}

/-! ### s[lo:hi] -/
theorem run_slice' {t e : TypeId} {i : TypeInfo} (hu : P.underlying t = some (.slice e)) (hi : P.info? e = some i) {b : Option Addr} {len cap : Nat} {lo hi' : Option Value} {l m : Int}
    (hlo : (lo = none ∧ l = 0) ∨ lo = some (.int .i64 l)) (hhi : (hi' = none ∧ m = len) ∨ hi' = some (.int .i64 m)) (h0 : 0 ≤ l) (h1 : l ≤ m) (h2 : m ≤ len) (hc : len ≤ cap) :
    (Instr.sliceAt t (.slice b len cap) lo hi' none).run P w = .ok (.slice (if cap = l.toNat then b else b.map (·.add (l.toNat * i.size))) (m.toNat - l.toNat) (cap - l.toNat)) w := by
  have em : (m.toNat : Int) = m := Int.toNat_of_nonneg (by omega)
  have hm0 : 0 ≤ m := by omega
  have hmc : m ≤ (cap : Int) := by omega
  have sb1 : ∀ c, (Instr.sliceBound (.int .i64 l) m.toNat c).run P w = .ok l.toNat w := fun c => run_sliceBound w _ _ _ _ h0 (by omega)
  have sb2 : ∀ c, (Instr.sliceBound (.int .i64 m) cap c).run P w = .ok m.toNat w := fun c => run_sliceBound w _ _ _ _ hm0 hmc
  rcases hlo with ⟨rfl, rfl⟩ | rfl <;> rcases hhi with ⟨rfl, rfl⟩ | rfl
  · simp [Instr.sliceAt, run_underlying hu, Instr.slice, Instr.sliceBounds, sizeOf, typeInfo, hi]
  · simp [Instr.sliceAt, run_underlying hu, Instr.slice, Instr.sliceBounds, sizeOf, typeInfo, hi, sb2]
  · have sb1' : ∀ c, (Instr.sliceBound (.int .i64 l) len c).run P w = .ok l.toNat w := fun c => run_sliceBound w _ _ _ _ h0 (by omega)
    simp [Instr.sliceAt, run_underlying hu, Instr.slice, Instr.sliceBounds, sizeOf, typeInfo, hi, sb1']
  · simp [Instr.sliceAt, run_underlying hu, Instr.slice, Instr.sliceBounds, sizeOf, typeInfo, hi, sb1, sb2]

theorem bnd_lo (h : Sim V σ a w G) {lo : Option Opd} {lo' : Option Operand} (hok : optOK V.N lo lo' = true) {l : Int} (hb : bnd σ 0 lo = some l) :
    (lo'.map a.eval = none ∧ l = 0) ∨ lo'.map a.eval = some (.int .i64 l) := by
  cases lo <;> cases lo' <;> simp [optOK] at hok
  · left; simp [bnd] at hb; exact ⟨rfl, hb.symm⟩
  · right; simp [asI_RS hb (h.get hok)]
theorem bnd_hi (h : Sim V σ a w G) {hi : Option Opd} {hi' : Option Operand} (hok : optOK V.N hi hi' = true) {m : Int} {n : Nat} (hb : bnd σ n hi = some m) :
    (hi'.map a.eval = none ∧ m = n) ∨ hi'.map a.eval = some (.int .i64 m) := by
  cases hi <;> cases hi' <;> simp [optOK] at hok
  · left; simp [bnd] at hb; exact ⟨rfl, hb.symm⟩
  · right; simp [asI_RS hb (h.get hok)]

theorem RRow_drop {S : Nat → Prop} {b sz : Nat} : ∀ (n : Nat) {es : List (List Cell)} {k : Nat}, RRow w S b sz k es [] → n ≤ es.length → RRow w S b sz (k + n * sz) (es.drop n) []
  | 0, es, k, h, _ => by simpa using h
  | n + 1, [], k, h, hn => by simp at hn
  | n + 1, e :: es, k, h, hn => by
    simp only [RRow] at h
    obtain ⟨hl, F1, F2, hF, h1, h2⟩ := h
    obtain ⟨rfl, rfl⟩ : F1 = [] ∧ F2 = [] := by simpa using hF.symm
    have := RRow_drop n h2 (by simpa using hn)
    rw [show k + (n + 1) * sz = k + sz + n * sz by rw [Nat.add_mul]; omega]
    simpa using this
theorem RRow_take {S : Nat → Prop} {b sz : Nat} : ∀ (n : Nat) {es : List (List Cell)} {k : Nat}, RRow w S b sz k es [] → RRow w S b sz k (es.take n) []
  | 0, es, k, h => by simp [RRow]
  | n + 1, [], k, h => by simp [RRow]
  | n + 1, e :: es, k, h => by
    simp only [RRow] at h
    obtain ⟨hl, F1, F2, hF, h1, h2⟩ := h
    obtain ⟨rfl, rfl⟩ : F1 = [] ∧ F2 = [] := by simpa using hF.symm
    simp only [List.take_succ_cons, RRow]
    exact ⟨hl, [], [], rfl, h1, RRow_take n h2⟩

theorem tells_slc (h : Sim V σ a w G) {sz : Nat} {q : Opd} {lo hi : Option Opd} (hok : QO.ok P V.N (.slc sz q lo hi) o.op = true) (hv : qval σ (.slc sz q lo hi) = some x) : Tells P σ a w G o x := by
  obtain ⟨dst, op, ty, pos, aft, gd⟩ := o
  cases op <;> try (simp [QO.ok] at hok; done)
  rename_i t y lo' hi' mx
  cases mx <;> try (simp [QO.ok] at hok; done)
  simp only [QO.ok, Bool.and_eq_true] at hok
  obtain ⟨⟨⟨hs, hq⟩, hlo⟩, hhi⟩ := hok
  obtain ⟨e, i, hu, hi', hsz⟩ := under_slice hs
  have hg := h.get hq
  simp only [qval] at hv
  split at hv
  · rename_i id off len he
    split at hv
    · rename_i l m row e1 e2 hrow
      split at hv
      · rename_i hc
        obtain ⟨h0, h1, h2, h3⟩ := hc
        injection hv with hv; subst hv
        rw [he] at hg
        obtain ⟨loc, hl, hx⟩ := RS_c hg
        obtain ⟨loc', hl', ho1, ho⟩ := h.obj hrow
        obtain rfl : loc' = loc := by rw [hl] at hl'; injection hl' with e; exact e.symm
        have em : (m - l).toNat = m.toNat - l.toNat := by omega
        rcases hx with ⟨hb, hlt, hle, ev⟩ | ⟨hoc, rfl, ad, ev⟩
        · have hlc : len ≤ loc'.cap - off := by omega
          · have hr := run_slice' (P := P) (w := w) hu hi' (b := some ⟨loc'.b, loc'.o + off * loc'.sz, none⟩) (bnd_lo h hlo e1) (bnd_hi h hhi e2) h0 h1 h2 hlc
            refine ⟨_, by simp only [execOp, ev]; simp [hr]; rfl, .c ⟨loc', hl, ?_⟩⟩
            by_cases hfull : loc'.cap - off = l.toNat
            · right
              rw [if_pos hfull]
              refine ⟨by omega, by omega, _, by rw [show m.toNat - l.toNat = 0 by omega, show loc'.cap - off - l.toNat = 0 by omega]⟩
            · left
              rw [if_neg hfull]
              refine ⟨hb, by omega, by omega, ?_⟩
              simp only [addr_add, hsz, ← h3, ho1, Nat.add_mul, em]
              rw [show loc'.cap - off - l.toNat = loc'.cap - (off + l.toNat) by omega, Nat.add_assoc]
        · have hm : m = 0 := by omega
          have hl0 : l = 0 := by omega
          subst hm; subst hl0
          have hr := run_slice' (P := P) (w := w) hu hi' (b := ad) (len := 0) (cap := 0) (bnd_lo h hlo e1) (bnd_hi h hhi e2) (Int.le_refl 0) (Int.le_refl 0) (Int.le_refl 0) (Nat.le_refl 0)
          refine ⟨_, by simp only [execOp, ev]; simp [hr]; rfl, .c ⟨loc', hl, .inr ⟨by simpa using hoc, by simp, ad, by simp⟩⟩⟩
      · cases hv
    · cases hv
  · rename_i es he
    split at hv
    · rename_i l m e1 e2
      split at hv
      · rename_i hc
        obtain ⟨h0, h1, h2, h3⟩ := hc
        injection hv with hv; subst hv
        rw [he] at hg
        have hx : RD w G.S (.ro es) _ [] := RS_c hg
        simp only [RD] at hx
        obtain ⟨_, ad, cap, ev, hcap, hrow⟩ := hx
        have hr := run_slice' (P := P) (w := w) hu hi' (b := ad) (bnd_lo h hlo e1) (bnd_hi h hhi e2) h0 h1 h2 hcap
        have hlen : ((es.drop l.toNat).take (m - l).toNat).length = m.toNat - l.toNat := by simp; omega
        refine ⟨_, by simp only [execOp, ev]; simp [hr]; rfl, .c ?_⟩
        show RD w G.S (.ro _) _ []
        simp only [RD]
        refine ⟨trivial, (if cap = l.toNat then ad else ad.map (·.add (l.toNat * i.size))), cap - l.toNat, by rw [hlen], by rw [hlen]; omega, fun hne => ?_⟩
        have hml : l.toNat < m.toNat := by
          rcases Nat.lt_or_ge l.toNat m.toNat with h | h
          · exact h
          · exact absurd (List.eq_nil_of_length_eq_zero (by rw [hlen]; omega)) hne
        rw [if_neg (by omega)]
        have hesne : es ≠ [] := by intro e0; rw [e0] at h2; simp at h2; omega
        obtain ⟨b, k, s, rfl, hb, hrr⟩ := hrow hesne
        refine ⟨b, k + l.toNat * i.size, s, by simp [addr_add], hb, ?_⟩
        have hs2 : i.size = s := by
          cases es with
          | nil => exact absurd rfl hesne
          | cons e0 es0 =>
            have q1 := (RRow_get hrr rfl 0 e0 rfl).1
            simp at h3
            omega
        rw [hs2]
        exact RRow_take _ (RRow_drop _ hrr (by omega))
      · cases hv
    · cases hv
  · rename_i he
    split at hv
    · rename_i l m e1 e2
      split at hv
      · rename_i hc
        obtain ⟨rfl, rfl⟩ := hc
        injection hv with hv; subst hv
        rw [he] at hg
        have hx : RD w G.S .z _ [] := RS_c hg
        simp only [RD] at hx
        obtain ⟨⟨ad, ev⟩, _⟩ := hx
        have hr := run_slice' (P := P) (w := w) hu hi' (b := ad) (len := 0) (cap := 0) (bnd_lo h hlo e1) (bnd_hi (n := 0) h hhi e2) (Int.le_refl 0) (Int.le_refl 0) (Int.le_refl 0) (Nat.le_refl 0)
        refine ⟨_, by simp only [execOp, ev]; simp [hr]; rfl, .c ?_⟩
        show RD w G.S .z _ []
        simp [RD]
      · cases hv
    · cases hv
  · cases hv

end
end Go.Fw
