/- Operations that may change places. -/
import Derived.Test.YtmdddmjmppckhaaFwRegion
namespace Go.Fw

def opdRd : Opd → List Nat
  | .t n => [n]
  | .k _ => []
def optRd : Option Opd → List Nat
  | some o => opdRd o
  | none => []

def QO.rd : QO → List Nat
  | .mv x | .nilck x | .not x | .conv _ x | .mkI _ x | .fld _ x | .load _ _ x | .ext x _ | .len x | .lenS x | .fldv _ _ _ x => opdRd x
  | .bin _ x y | .eqb _ x y | .eqi _ _ _ x y | .eqa _ _ x y | .idx _ x y | .idxA _ _ x y | .min x y | .idxv _ _ _ x y => opdRd x ++ opdRd y
  | .pick c a b => opdRd c ++ opdRd a ++ opdRd b
  | .mkF _ caps => caps.flatMap opdRd
  | .build _ parts => parts.flatMap fun p => opdRd p.2.2
  | .slc _ x lo hi => opdRd x ++ optRd lo ++ optRd hi

/-- Does an operation look at objects? At the epoch? -/
def QO.heap : QO → Bool
  | .idx .. | .load .. | .slc .. => true
  | _ => false
def QO.ep : QO → Bool
  | .mv _ | .pick .. | .bin .. | .eqb .. | .eqi .. | .eqa .. | .not _ | .conv .. | .mkI .. | .mkF .. | .ext .. | .min .. | .lenS _ | .fldv .. | .idxv .. => false
  | _ => true

section
variable {σ τ : St}

theorem get_same {o : Opd} (h : ∀ s ∈ opdRd o, τ.t s = σ.t s) : τ.get o = σ.get o := by
  cases o with
  | t n => exact h n (by simp [opdRd])
  | k x => rfl

theorem bnd_same {d : Int} {o : Option Opd} (h : ∀ s ∈ optRd o, τ.t s = σ.t s) : bnd τ d o = bnd σ d o := by
  cases o with
  | none => rfl
  | some o => simp only [bnd]; rw [get_same h]

theorem fillC_same (he : τ.ep = σ.ep) : ∀ {ps : List (Nat × Nat × Opd)} {cs : List Cell}, (∀ s ∈ ps.flatMap (fun p => opdRd p.2.2), τ.t s = σ.t s) → fillC τ ps cs = fillC σ ps cs
  | [], _, _ => rfl
  | (off, n, q) :: ps, cs, h => by
    have h1 : τ.get q = σ.get q := get_same fun s hs => h s (by simp [hs])
    simp only [fillC, he, h1]
    split
    · split
      · exact fillC_same he fun s hs => h s (by simp only [List.flatMap_cons, List.mem_append]; exact .inr hs)
      · rfl
    · rfl

theorem mapM_same {caps : List Opd} (h : ∀ s ∈ caps.flatMap opdRd, τ.t s = σ.t s) :
    caps.mapM (fun x => match τ.get x with | .c (.ad id i j) => some (Cell.ad id i j) | _ => none) = caps.mapM (fun x => match σ.get x with | .c (.ad id i j) => some (Cell.ad id i j) | _ => none) := by
  induction caps with
  | nil => rfl
  | cons c cs ih =>
    rw [List.mapM_cons, List.mapM_cons, get_same fun s hs => h s (by simp [hs]), ih fun s hs => h s (by simp only [List.flatMap_cons, List.mem_append]; exact .inr hs)]

/-- A quiet operation tells the same wherever what it looks at is the same. -/
theorem qval_loc {op : QO} {x : SV} (hrd : ∀ s ∈ op.rd, τ.t s = σ.t s) (hep : op.ep = true → τ.ep = σ.ep) (hh : op.heap = true → ∀ id r, σ.h id = some r → τ.h id = some r) (h : qval σ op = some x) : qval τ op = some x := by
  cases op with
  | mv q => simp only [qval, get_same hrd]; exact h
  | pick c a b =>
    have h1 : τ.get c = σ.get c := get_same fun s hs => hrd s (by simp [QO.rd, hs])
    have h2 : τ.get a = σ.get a := get_same fun s hs => hrd s (by simp [QO.rd, hs])
    have h3 : τ.get b = σ.get b := get_same fun s hs => hrd s (by simp [QO.rd, hs])
    simp only [qval, h1, h2, h3]; exact h
  | nilck q => simp only [qval, get_same hrd, hep rfl]; exact h
  | bin op q r =>
    have h1 : τ.get q = σ.get q := get_same fun s hs => hrd s (by simp [QO.rd, hs])
    have h2 : τ.get r = σ.get r := get_same fun s hs => hrd s (by simp [QO.rd, hs])
    simp only [qval, h1, h2]; exact h
  | eqb n q r =>
    have h1 : τ.get q = σ.get q := get_same fun s hs => hrd s (by simp [QO.rd, hs])
    have h2 : τ.get r = σ.get r := get_same fun s hs => hrd s (by simp [QO.rd, hs])
    simp only [qval, h1, h2]; exact h
  | eqi n l e q r =>
    have h1 : τ.get q = σ.get q := get_same fun s hs => hrd s (by simp [QO.rd, hs])
    have h2 : τ.get r = σ.get r := get_same fun s hs => hrd s (by simp [QO.rd, hs])
    simp only [qval, h1, h2]; exact h
  | eqa n m q r =>
    have h1 : τ.get q = σ.get q := get_same fun s hs => hrd s (by simp [QO.rd, hs])
    have h2 : τ.get r = σ.get r := get_same fun s hs => hrd s (by simp [QO.rd, hs])
    simp only [qval, h1, h2]; exact h
  | not q => simp only [qval, get_same hrd]; exact h
  | conv k q => simp only [qval, get_same hrd]; exact h
  | mkI t q => simp only [qval, get_same hrd]; exact h
  | mkF f caps =>
    have e := mapM_same (σ := σ) (τ := τ) (caps := caps) hrd
    simp only [qval] at h ⊢
    exact (congrArg (Option.map _) e).trans h
  | fld off q => simp only [qval, get_same hrd, hep rfl]; exact h
  | idx sz q r =>
    have h1 : τ.get q = σ.get q := get_same fun s hs => hrd s (by simp [QO.rd, hs])
    have h2 : τ.get r = σ.get r := get_same fun s hs => hrd s (by simp [QO.rd, hs])
    simp only [qval, h1, h2, hep rfl] at h ⊢
    split at h
    · split at h
      · rename_i row hr
        rw [hh rfl _ _ hr]
        exact h
      · cases h
    · exact h
    · exact h
    · cases h
  | idxA n sz q r =>
    have h1 : τ.get q = σ.get q := get_same fun s hs => hrd s (by simp [QO.rd, hs])
    have h2 : τ.get r = σ.get r := get_same fun s hs => hrd s (by simp [QO.rd, hs])
    simp only [qval, h1, h2, hep rfl]; exact h
  | load agg n q =>
    simp only [qval, get_same hrd, hep rfl] at h ⊢
    split at h
    · split at h
      · rename_i row hr
        rw [hh rfl _ _ hr]
        exact h
      · cases h
    · exact h
    · exact h
    · cases h
  | ext q i => simp only [qval, get_same hrd]; exact h
  | len q => simp only [qval, get_same hrd, hep rfl]; exact h
  | lenS q => simp only [qval, get_same hrd]; exact h
  | min q r =>
    have h1 : τ.get q = σ.get q := get_same fun s hs => hrd s (by simp [QO.rd, hs])
    have h2 : τ.get r = σ.get r := get_same fun s hs => hrd s (by simp [QO.rd, hs])
    simp only [qval, h1, h2]; exact h
  | build zero parts => simp only [qval, fillC_same (hep rfl) hrd]; exact h
  | slc sz q lo hi =>
    have h1 : τ.get q = σ.get q := get_same fun s hs => hrd s (by simp [QO.rd, hs])
    have h2 : ∀ d, bnd τ d lo = bnd σ d lo := fun d => bnd_same fun s hs => hrd s (by simp [QO.rd, hs])
    have h3 : ∀ d, bnd τ d hi = bnd σ d hi := fun d => bnd_same fun s hs => hrd s (by simp [QO.rd, hs])
    simp only [qval, h1, h2, h3] at h ⊢
    split at h
    · split at h
      · rename_i hb1 hb2 hr
        rw [hb1, hb2, hh rfl _ _ hr]
        exact h
      · cases h
    · exact h
    · exact h
    · cases h
  | fldv agg off n q => simp only [qval, get_same hrd]; exact h
  | idxv agg cnt sz q r =>
    have h1 : τ.get q = σ.get q := get_same fun s hs => hrd s (by simp [QO.rd, hs])
    have h2 : τ.get r = σ.get r := get_same fun s hs => hrd s (by simp [QO.rd, hs])
    simp only [qval, h1, h2]; exact h

/-! ### Operations that add objects -/
def St.add (σ : St) (ρ : Hp) : St := { σ with h := fun id => match ρ id with | some r => some r | none => σ.h id }
def noρ : Hp := fun _ => none
def oneρ (id : Id) (r : Row) : Hp := fun i => if i = id then some r else none
def overρ (ρ1 ρ2 : Hp) : Hp := fun id => match ρ2 id with | some r => some r | none => ρ1 id

theorem St.ext' {σ τ : St} (h1 : σ.t = τ.t) (h2 : σ.h = τ.h) (h3 : σ.ep = τ.ep) (h4 : σ.nx = τ.nx) : σ = τ := by
  cases σ; cases τ; simp only at h1 h2 h3 h4; subst h1 h2 h3 h4; rfl

theorem St.add_no (σ : St) : σ.add noρ = σ := rfl
theorem St.add_one (σ : St) (id : Id) (r : Row) : σ.add (oneρ id r) = σ.setH id (some r) := by
  refine St.ext' rfl ?_ rfl rfl
  funext i
  by_cases h : i = id <;> simp [St.add, oneρ, St.setH, h]
theorem St.add_over (σ : St) (ρ1 ρ2 : Hp) : (σ.add ρ1).add ρ2 = σ.add (overρ ρ1 ρ2) := by
  refine St.ext' rfl ?_ rfl rfl
  funext i
  cases h : ρ2 i <;> simp [St.add, overρ, h]

theorem openCs_add {d : Nat} : ∀ {cs : List Cell} {k n : Nat}, ∃ ρ : Hp, (∀ id, ρ id ≠ none → ∃ j, k ≤ j ∧ j < (openCs d k (stub 0 n noρ) cs).2.1 ∧ id = (nm d j, n)) ∧ ∀ σ : St, σ.nx = n → openCs d k σ cs = ((openCs d k (stub 0 n noρ) cs).1, (openCs d k (stub 0 n noρ) cs).2.1, σ.add ρ)
  | [], k, n => ⟨noρ, fun id h => absurd rfl h, fun σ _ => rfl⟩
  | c :: cs, k, n => by
    by_cases hw : ∃ sz es, c = .ow sz es
    · obtain ⟨sz, es, rfl⟩ := hw
      obtain ⟨ρ, h1, h2⟩ := openCs_add (d := d) (cs := cs) (k := k + 1) (n := n)
      have key : ∀ σ : St, σ.nx = n → openCs d k σ (.ow sz es :: cs) = (.sl (nm d k, n) 0 es.length :: (openCs d (k + 1) (stub 0 n noρ) cs).1, (openCs d (k + 1) (stub 0 n noρ) cs).2.1, σ.add (overρ (oneρ (nm d k, n) ⟨sz, es⟩) ρ)) := fun σ hn => by
        simp only [openCs]
        rw [h2 _ (by simpa [St.setH] using hn), hn, ← St.add_over, St.add_one]
      have k0 := key (stub 0 n noρ) rfl
      refine ⟨overρ (oneρ (nm d k, n) ⟨sz, es⟩) ρ, fun id hid => ?_, fun σ hn => ?_⟩
      · rw [k0]
        simp only [overρ] at hid
        split at hid
        · rename_i r hr
          obtain ⟨j, hj1, hj2, hj3⟩ := h1 id (by rw [hr]; simp)
          exact ⟨j, by omega, hj2, hj3⟩
        · simp only [oneρ] at hid
          split at hid
          · rename_i he
            have := openCs_le (d := d) (cs := cs) (k := k + 1) (σ := stub 0 n noρ)
            exact ⟨k, Nat.le_refl _, by show k < (openCs d (k + 1) (stub 0 n noρ) cs).2.1; omega, he⟩
          · exact absurd rfl hid
      · rw [key σ hn, k0]
    · have hne : ∀ sz es, c ≠ .ow sz es := fun sz es e => hw ⟨sz, es, e⟩
      obtain ⟨ρ, h1, h2⟩ := openCs_add (d := d) (cs := cs) (k := k) (n := n)
      refine ⟨ρ, fun id hid => ?_, fun σ hn => ?_⟩
      · rw [openCs_keep hne]; exact h1 id hid
      · rw [openCs_keep hne, openCs_keep hne, h2 σ hn]

theorem openRs_add {d : Nat} : ∀ {rs : List RV} {k n : Nat}, ∃ ρ : Hp, (∀ id, ρ id ≠ none → ∃ j, k ≤ j ∧ j < (openRs d k (stub 0 n noρ) rs).2.1 ∧ id = (nm d j, n)) ∧ ∀ σ : St, σ.nx = n → openRs d k σ rs = ((openRs d k (stub 0 n noρ) rs).1, (openRs d k (stub 0 n noρ) rs).2.1, σ.add ρ)
  | [], k, n => ⟨noρ, fun id h => absurd rfl h, fun σ _ => rfl⟩
  | r :: rs, k, n => by
    obtain ⟨ρ1, h1, h2⟩ := openCs_add (d := d) (cs := r.2) (k := k) (n := n)
    have e1 := h2 (stub 0 n noρ) rfl
    obtain ⟨ρ2, g1, g2⟩ := openRs_add (d := d) (rs := rs) (k := (openCs d k (stub 0 n noρ) r.2).2.1) (n := n)
    have key : ∀ σ : St, σ.nx = n → openRs d k σ (r :: rs) = (((if r.1 then SV.a (openCs d k (stub 0 n noρ) r.2).1 else SV.c ((openCs d k (stub 0 n noρ) r.2).1.headD .bad)) :: (openRs d (openCs d k (stub 0 n noρ) r.2).2.1 (stub 0 n noρ) rs).1),
        (openRs d (openCs d k (stub 0 n noρ) r.2).2.1 (stub 0 n noρ) rs).2.1, σ.add (overρ ρ1 ρ2)) := fun σ hn => by
      simp only [openRs]
      rw [h2 σ hn]
      simp only []
      rw [g2 (σ.add ρ1) hn, St.add_over]
    have k0 := key (stub 0 n noρ) rfl
    refine ⟨overρ ρ1 ρ2, fun id hid => ?_, fun σ hn => ?_⟩
    · rw [k0]
      have l1 := openCs_le (d := d) (cs := r.2) (k := k) (σ := stub 0 n noρ)
      have l2 := openRs_le (d := d) (rs := rs) (k := (openCs d k (stub 0 n noρ) r.2).2.1) (σ := stub 0 n noρ)
      simp only [overρ] at hid
      split at hid
      · rename_i r' hr
        obtain ⟨j, hj1, hj2, hj3⟩ := g1 id (by rw [hr]; simp)
        exact ⟨j, by omega, hj2, hj3⟩
      · obtain ⟨j, hj1, hj2, hj3⟩ := h1 id hid
        exact ⟨j, hj1, by show j < (openRs d (openCs d k (stub 0 n noρ) r.2).2.1 (stub 0 n noρ) rs).2.1; omega, hj3⟩
    · rw [key σ hn, k0]

theorem land_add {d : Nat} {rvs : List RV} {n : Nat} : (∀ σ : St, σ.nx = n → land σ d rvs = none) ∨ ∃ (ρ : Hp) (x : SV), (∀ id, ρ id ≠ none → ∃ j, j < 16 ∧ id = (nm d j, n)) ∧ ∀ σ : St, σ.nx = n → land σ d rvs = some ((σ.add ρ).set d x) := by
  obtain ⟨ρ, h1, h2⟩ := openRs_add (d := d) (rs := rvs) (k := 0) (n := n)
  by_cases hk : (openRs d 0 (stub 0 n noρ) rvs).2.1 ≤ 16
  · right
    refine ⟨ρ, combS (openRs d 0 (stub 0 n noρ) rvs).1, fun id hid => ?_, fun σ hn => ?_⟩
    · obtain ⟨j, _, h4, h5⟩ := h1 id hid
      exact ⟨j, by omega, h5⟩
    · simp only [land, h2 σ hn, if_pos hk]
  · left
    intro σ hn
    simp only [land, h2 σ hn, if_neg hk]
end
end Go.Fw
