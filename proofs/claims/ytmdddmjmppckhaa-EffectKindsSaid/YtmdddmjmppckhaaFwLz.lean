/- Functions of the library that the machine doesn't run itself: what they are told to do. -/
import Derived.Test.YtmdddmjmppckhaaFwLy
namespace Go.Fw

theorem Lent.ext {T : Tab} {X : Orc} {f : FuncId} {args : List SV} {ep nx : Nat} {h : Hp} {r : List RV × Nat × Nat × Hp} (hT : T f = none) (hx : X f args ep nx h = some r) : Lent T X f args ep nx h r := ⟨0, by simp only [orc, hT]; exact hx⟩
theorem Pure.ext {T : Tab} {X : Orc} {f : FuncId} {args : List SV} {rvs : List RV} {ep' nx' : Nat} {h' : Hp} (hT : T f = none) (hx : X f args 0 0 (fun _ => none) = some (rvs, ep', nx', h')) (hd : dataRs rvs = true) : Pure T X f args rvs :=
  ⟨0, by unfold pureOf; simp only [orc, hT, hx, hd, if_true]⟩

/-! ### slices.Clone -/
def cloneX (sz bytes : Nat) (args : List SV) (ep nx : Nat) (h : Hp) : Option (List RV × Nat × Nat × Hp) :=
  match args with
  | [.c (.ro es)] => if es.all (fun e => decide (e.length = sz) && e.all Cell.copy) && decide (es.length * bytes ≤ 140737488355328) && decide (es.length ≤ 9223372036854775807) then some ([(false, [.ow sz es])], ep, nx, h) else none
  | _ => none
def clone? {α : Type} (bytes : Nat) (xs : List α) : Option (List α) := app? bytes [] xs
theorem clone?_spec {α : Type} {b : Nat} {xs ys : List α} (h : clone? b xs = some ys) : xs.length * b ≤ 140737488355328 ∧ xs.length ≤ 9223372036854775807 ∧ ys = xs := by
  obtain ⟨h1, h2, h3⟩ := app?_spec h
  simp only [List.length_nil, Nat.zero_add] at h1 h2
  exact ⟨h1, h2, by simpa using h3⟩
theorem clone_w {T : Tab} {X : Orc} {f : FuncId} {sz bytes : Nat} (hT : T f = none) (hX : X f = cloneX sz bytes) {α : Type} {enc enc' : α → List Cell} (he : ∀ a, (enc a).length = sz ∧ (enc a).all Cell.copy = true) (hl : ∀ a, ((enc a).all fun c => !c.live) = true) (hee : ∀ a, enc a = enc' a)
    {xs ys : List α} (h : clone? bytes xs = some ys) : Pure T X f [.c (.ro (xs.map enc))] [(false, [.ow sz (ys.map enc')])] := by
  obtain ⟨h1, h2, rfl⟩ := clone?_spec h
  have e1 : (ys.map enc).all (fun e => decide (e.length = sz) && e.all Cell.copy) = true := by
    simp only [List.all_map, List.all_eq_true]; intro a _; simp [(he a).1, (he a).2]
  rw [show enc' = enc from funext fun a => (hee a).symm]
  refine Pure.ext hT (ep' := 0) (nx' := 0) (h' := fun _ => none) ?_ ?_
  · rw [hX]; simp only [cloneX, e1, Bool.true_and, List.length_map, h1, h2, decide_true, if_true, Bool.and_self]
  · simp only [dataRs, List.all_cons, List.all_nil, Bool.and_true]; rfl

/-! ### slices.Sort of ints -/
def insI (x : Int) : List Int → List Int
  | [] => [x]
  | y :: ys => if x ≤ y then x :: y :: ys else y :: insI x ys
def isort : List Int → List Int
  | [] => []
  | x :: xs => insI x (isort xs)
def toI : List (List Cell) → Option (List Int)
  | [] => some []
  | [.int .i64 a] :: es => (toI es).map (a :: ·)
  | _ => none
theorem toI_map (xs : List Int) : toI (xs.map eI) = some xs := by
  induction xs with
  | nil => rfl
  | cons x xs ih => simp [toI, eI, ih]
theorem toI_some : ∀ {es : List (List Cell)} {xs : List Int}, toI es = some xs → es = xs.map eI
  | [], xs, h => by simp only [toI, Option.some.injEq] at h; subst h; rfl
  | e :: es, xs, h => by
    unfold toI at h
    split at h
    · rename_i h0; cases h0
    · rename_i a es' h0
      injection h0 with h0 h1; subst h0; subst h1
      cases h2 : toI es with
      | none => rw [h2] at h; cases h
      | some ys => rw [h2] at h; simp only [Option.map_some, Option.some.injEq] at h; subst h; rw [toI_some h2]; rfl
    · cases h
theorem insI_length (x : Int) : ∀ ys, (insI x ys).length = ys.length + 1
  | [] => rfl
  | y :: ys => by simp only [insI]; split <;> simp [insI_length x ys]
theorem isort_length : ∀ xs, (isort xs).length = xs.length
  | [] => rfl
  | x :: xs => by simp [isort, insI_length, isort_length xs]

def sortX (args : List SV) (ep nx : Nat) (h : Hp) : Option (List RV × Nat × Nat × Hp) :=
  match args with
  | [.c (.sl id 0 n)] => match h id with
    | some row => match toI row.es with
      | some xs => if row.sz = 1 ∧ n = xs.length ∧ n < 4611686018427387904 then some ([], ep + 1, nx, fun i => if i = id then some ⟨1, (isort xs).map eI⟩ else h i) else none
      | none => none
    | none => none
  | _ => none
def sort? (xs : List Int) : Option (List Int) := if xs.length < 4611686018427387904 then some (isort xs) else none
theorem sort_w {T : Tab} {X : Orc} {f : FuncId} (hT : T f = none) (hX : X f = sortX) {id : Id} {xs ys : List Int} (h : sort? xs = some ys) : LentS T X f [.c (.sl id 0 xs.length)] [(id, ⟨1, xs.map eI⟩)] [] [(id, ⟨1, ys.map eI⟩)] := by
  unfold sort? at h
  split at h
  · rename_i hlt
    injection h with h; subst h
    intro ep nx hh hI
    have h1 := hI.1 _ (List.mem_singleton.2 rfl)
    refine ⟨ep + 1, nx, fun i => if i = id then some ⟨1, (isort xs).map eI⟩ else hh i, Lent.ext hT (by rw [hX]; simp only [sortX, h1, toI_map, hlt, and_self, if_true]), fun p hp => ?_⟩
    simp only [List.mem_singleton] at hp; subst hp; simp
  · cases h

/-! ### slices.Compact of ints -/
def dedup : List Int → List Int
  | [] => []
  | [x] => [x]
  | x :: y :: ys => if x = y then dedup (y :: ys) else x :: dedup (y :: ys)
def compactX (args : List SV) (ep nx : Nat) (h : Hp) : Option (List RV × Nat × Nat × Hp) :=
  match args with
  | [.c (.sl id 0 n)] => match h id with
    | some row => match toI row.es with
      | some xs => if row.sz = 1 ∧ n = xs.length ∧ n < 4611686018427387904 then some ([(false, [.ow 1 ((dedup xs).map eI)])], ep + 1, nx, fun i => if i = id then none else h i) else none
      | none => none
    | none => none
  | _ => none
def compact? (xs : List Int) : Option (List Int) := if xs.length < 4611686018427387904 then some (dedup xs) else none
theorem compact_w {T : Tab} {X : Orc} {f : FuncId} (hT : T f = none) (hX : X f = compactX) {id : Id} {xs ys : List Int} (h : compact? xs = some ys) : LentS T X f [.c (.sl id 0 xs.length)] [(id, ⟨1, xs.map eI⟩)] [(false, [.ow 1 (ys.map eI)])] [] := by
  unfold compact? at h
  split at h
  · rename_i hlt
    injection h with h; subst h
    intro ep nx hh hI
    have h1 := hI.1 _ (List.mem_singleton.2 rfl)
    exact ⟨ep + 1, nx, fun i => if i = id then none else hh i, Lent.ext hT (by rw [hX]; simp only [compactX, h1, toI_map, hlt, and_self, if_true]), fun p hp => by simp at hp⟩
  · cases h

/-! ### slices.SortFunc of lists of ints, by their first -/
def insF (x : List Int) : List (List Int) → List (List Int)
  | [] => [x]
  | y :: ys => if x.headD 0 ≤ y.headD 0 then x :: y :: ys else y :: insF x ys
def fsort : List (List Int) → List (List Int)
  | [] => []
  | x :: xs => insF x (fsort xs)
def toII : List (List Cell) → Option (List (List Int))
  | [] => some []
  | [.ow 1 rows] :: es => match toI rows, toII es with
    | some xs, some r => some (xs :: r)
    | _, _ => none
  | _ => none
theorem toII_map (xs : List (List Int)) : toII (xs.map (eO 1 eI)) = some xs := by
  induction xs with
  | nil => rfl
  | cons x xs ih => simp [toII, eO, toI_map, ih]
theorem toII_some : ∀ {es : List (List Cell)} {xs : List (List Int)}, toII es = some xs → es = xs.map (eO 1 eI)
  | [], xs, h => by simp only [toII, Option.some.injEq] at h; subst h; rfl
  | e :: es, xs, h => by
    unfold toII at h
    split at h
    · rename_i h0; cases h0
    · rename_i rows es' h0
      injection h0 with h0 h1; subst h0; subst h1
      split at h
      · rename_i a r h2 h3
        simp only [Option.some.injEq] at h; subst h
        rw [toI_some h2, toII_some h3]; rfl
      · cases h
    · cases h
/-- Lists that are none of them empty, with firsts that are all different. -/
def firsts (xs : List (List Int)) : Bool := xs.all (fun x => !x.isEmpty) && decide ((xs.map fun x => x.headD 0).Nodup) && xs.all (fun x => decide (-4611686018427387904 < x.headD 0 ∧ x.headD 0 < 4611686018427387904))
def sortFX (cmp : FuncId) (args : List SV) (ep nx : Nat) (h : Hp) : Option (List RV × Nat × Nat × Hp) :=
  match args with
  | [.c (.sl id 0 n), .c (.fn g [])] => match h id with
    | some row => match toII row.es with
      | some xs => if row.sz = 1 ∧ n = xs.length ∧ n < 4611686018427387904 ∧ g = cmp ∧ firsts xs = true then some ([], ep + 1, nx, fun i => if i = id then some ⟨1, (fsort xs).map (eO 1 eI)⟩ else h i) else none
      | none => none
    | none => none
  | _ => none
def sortF? (xs : List (List Int)) : Option (List (List Int)) := if xs.length < 4611686018427387904 ∧ firsts xs = true then some (fsort xs) else none
theorem sortF_w {T : Tab} {X : Orc} {f cmp : FuncId} (hT : T f = none) (hX : X f = sortFX cmp) {id : Id} {xs ys : List (List Int)} (h : sortF? xs = some ys) : LentS T X f [.c (.sl id 0 xs.length), .c (.fn cmp [])] [(id, ⟨1, xs.map (eO 1 eI)⟩)] [] [(id, ⟨1, ys.map (eO 1 eI)⟩)] := by
  unfold sortF? at h
  split at h
  · rename_i hlt
    injection h with h; subst h
    intro ep nx hh hI
    have h1 := hI.1 _ (List.mem_singleton.2 rfl)
    refine ⟨ep + 1, nx, fun i => if i = id then some ⟨1, (fsort xs).map (eO 1 eI)⟩ else hh i, Lent.ext hT (by rw [hX]; simp only [sortFX, h1, toII_map, hlt.1, hlt.2, and_self, if_true]), fun p hp => ?_⟩
    simp only [List.mem_singleton] at hp; subst hp; simp
  · cases h

/-! ### Names grow -/
def Up1 (o : List SV → Nat → Nat → Hp → Option (List RV × Nat × Nat × Hp)) : Prop := ∀ args ep nx h rvs ep' nx' h', o args ep nx h = some (rvs, ep', nx', h') → nx ≤ nx'
theorem none_up : Up1 fun _ _ _ _ => none := fun _ _ _ _ _ _ _ _ h => by cases h
theorem clone_up {sz b : Nat} : Up1 (cloneX sz b) := fun args ep nx h rvs ep' nx' h' hc => by
  unfold cloneX at hc
  repeat' split at hc
  all_goals first
    | (cases hc; done)
    | (simp only [Option.some.injEq, Prod.mk.injEq] at hc; omega)
theorem sort_up : Up1 sortX := fun args ep nx h rvs ep' nx' h' hc => by
  unfold sortX at hc
  repeat' split at hc
  all_goals first
    | (cases hc; done)
    | (simp only [Option.some.injEq, Prod.mk.injEq] at hc; omega)
theorem compact_up : Up1 compactX := fun args ep nx h rvs ep' nx' h' hc => by
  unfold compactX at hc
  repeat' split at hc
  all_goals first
    | (cases hc; done)
    | (simp only [Option.some.injEq, Prod.mk.injEq] at hc; omega)
theorem sortF_up {c : FuncId} : Up1 (sortFX c) := fun args ep nx h rvs ep' nx' h' hc => by
  unfold sortFX at hc
  repeat' split at hc
  all_goals first
    | (cases hc; done)
    | (simp only [Option.some.injEq, Prod.mk.injEq] at hc; omega)

theorem sort?_len {xs ys : List Int} (h : sort? xs = some ys) : ys.length = xs.length := by
  unfold sort? at h; split at h
  · injection h with h; rw [← h, isort_length]
  · cases h
theorem insF_length (x : List Int) : ∀ ys, (insF x ys).length = ys.length + 1
  | [] => rfl
  | y :: ys => by simp only [insF]; split <;> simp [insF_length x ys]
theorem fsort_length : ∀ xs, (fsort xs).length = xs.length
  | [] => rfl
  | x :: xs => by simp [fsort, insF_length, fsort_length xs]
theorem sortF?_len {xs ys : List (List Int)} (h : sortF? xs = some ys) : ys.length = xs.length := by
  unfold sortF? at h; split at h
  · injection h with h; rw [← h, fsort_length]
  · cases h
/-- What holds all along. -/
theorem loopO_inv {S B : Type} {f : S → Option (S ⊕ B)} (I : S → Prop) (Q : B → Prop) (hs : ∀ s r, I s → f s = some r → match r with | .inl s' => I s' | .inr b => Q b) {s : S} {b : B} (h : loopO f s = some b) (h0 : I s) : Q b := by
  obtain ⟨n, hn⟩ := loopO_iff.1 h
  induction n generalizing s with
  | zero => simp [iterF] at hn
  | succ n ih =>
    simp only [iterF] at hn
    cases hf : f s with
    | none => rw [hf] at hn; cases hn
    | some r =>
      rw [hf] at hn
      have h1 := hs s r h0 hf
      cases r with
      | inl s' => exact ih (loopO_iff.2 ⟨n, hn⟩) h1 hn
      | inr b' => simp only [Option.some.injEq] at hn; subst hn; exact h1
theorem setI_length {α : Type} (xs : List α) (i : Int) (y : α) : (setI xs i y).length = xs.length := by simp [setI]
end Go.Fw
