/- Operations that may change places: the operations. -/
import Derived.Test.YtmdddmjmppckhaaFwSwap
namespace Go.Fw

def Ins.rd : Ins → List Nat
  | .q op => op.rd
  | .qk _ op => op.rd
  | .m (.alloc _) => []
  | .m (.box _ x) => opdRd x
  | .m (.bsl _ _ _ parts _) => parts.flatMap fun p => opdRd p.2.2
  | .m (.mks _ _ n) => opdRd n
  | .st _ _ _ x v => opdRd x ++ opdRd v
  | .app _ _ _ s x => opdRd s ++ opdRd x
  | .appz _ _ s x => opdRd s ++ opdRd x
  | .bslz => []
  | .boxp x => opdRd x
  | .boxr x => opdRd x
  | .bslp _ _ _ parts => parts.flatMap fun p => opdRd p.2.2
  | .call _ args => args.flatMap opdRd
  | .calll _ args more => (args ++ more).flatMap opdRd
  | .callv _ x args more => opdRd x ++ (args ++ more).flatMap opdRd

def Ins.quiet : Ins → Bool
  | .q _ | .qk .. => true
  | _ => false
/-- Quiet, or it adds objects alone. -/
def Ins.adds : Ins → Bool
  | .q _ | .qk .. | .m (.alloc _) | .m (.mks ..) | .bslz | .boxp _ | .boxr _ | .bslp .. | .appz .. | .call .. | .callv false .. => true
  | _ => false
def Ins.heap : Ins → Bool
  | .q op => op.heap
  | .qk _ op => op.heap
  | .m (.alloc _) | .m (.mks ..) | .bslz | .boxp _ | .boxr _ | .bslp .. => false
  | _ => true
def Ins.ep : Ins → Bool
  | .q op => op.ep
  | .qk _ op => op.ep
  | _ => true

section
variable {σ τ σ' : St} {O : Orc}

theorem bor1_loc (hep : τ.ep = σ.ep) (hh : ∀ id r, σ.h id = some r → τ.h id = some r) {c : Cell} {r : Bool × Cell} (h : bor1 σ c = some r) : bor1 τ c = some r := by
  cases c with
  | sl id off len =>
    simp only [bor1] at h ⊢
    split at h
    · rename_i row hr; rw [hh _ _ hr]; exact h
    · cases h
  | ad id i j =>
    simp only [bor1] at h ⊢
    split at h
    · rename_i row hr; rw [hh _ _ hr]; exact h
    · cases h
  | fn f caps => cases caps <;> exact h
  | sn e es => simp only [bor1, hep]; exact h
  | sa e cs j => simp only [bor1, hep]; exact h
  | ow sz es => cases es <;> exact h
  | _ => exact h

theorem borCs_loc (hep : τ.ep = σ.ep) (hh : ∀ id r, σ.h id = some r → τ.h id = some r) : ∀ {cs : List Cell} {r : Bool × List Cell}, borCs σ cs = some r → borCs τ cs = some r
  | [], _, h => h
  | c :: cs, r, h => by
    simp only [borCs] at h ⊢
    split at h
    · rename_i b c' b' cs' h1 h2
      rw [bor1_loc hep hh h1, borCs_loc hep hh h2]; exact h
    · cases h

theorem borL_loc (hep : τ.ep = σ.ep) (hh : ∀ id r, σ.h id = some r → τ.h id = some r) : ∀ {xs : List SV} {r : Bool × List SV}, borL σ xs = some r → borL τ xs = some r
  | [], _, h => h
  | .c c :: xs, r, h => by
    simp only [borL] at h ⊢
    split at h
    · rename_i b c' b' cs' h1 h2
      rw [bor1_loc hep hh h1, borL_loc hep hh h2]; exact h
    · cases h
  | .a cs :: xs, r, h => by
    simp only [borL] at h ⊢
    split at h
    · rename_i b c' b' cs' h1 h2
      rw [borCs_loc hep hh h1, borL_loc hep hh h2]; exact h
    · cases h
  | .t _ :: _, _, h => by simp [borL] at h

theorem asrc_loc (hep : τ.ep = σ.ep) (hh : ∀ id r, σ.h id = some r → τ.h id = some r) {sz : Nat} {x : SV} {es : List (List Cell)} {σ1 : St} (h : asrc σ sz false x = some (es, σ1)) : asrc τ sz false x = some (es, τ) := by
  unfold asrc at h ⊢
  split at h
  · simp only [Option.some.injEq, Prod.mk.injEq] at h; rw [h.1]
  · split at h
    · rename_i hc
      simp only [Option.some.injEq, Prod.mk.injEq] at h; rw [← h.1, if_pos hc]
    · cases h
  · rw [hep]
    split at h
    · rename_i he
      rw [if_pos he]
      split at h
      · rename_i hc
        simp only [Option.some.injEq, Prod.mk.injEq] at h; rw [← h.1, if_pos hc]
      · cases h
    · cases h
  · split at h
    · rename_i row hr
      rw [hh _ _ hr]
      simp only [Bool.false_eq_true, if_false] at h ⊢
      split at h
      · rename_i hc
        rw [if_pos hc]
        split at h
        · rename_i hc2
          simp only [Option.some.injEq, Prod.mk.injEq] at h; rw [← h.1, if_pos hc2]
        · cases h
      · cases h
    · cases h
  · cases h

theorem closeL_keep : ∀ {cs : List Cell} {ks : List Nat}, cs.all Cell.keep = true → closeL σ ks cs = some (cs, σ)
  | [], _, _ => rfl
  | c :: cs, ks, h => by
    simp only [List.all_cons, Bool.and_eq_true] at h
    have h1 : close1 (ks.headD 0) σ c = some (c, σ) := by
      cases c <;> simp [Cell.keep] at h <;> rfl
    simp only [closeL, h1, closeL_keep h.2]

theorem args_same {args : List Opd} (h : ∀ s ∈ args.flatMap opdRd, τ.t s = σ.t s) : args.map τ.get = args.map σ.get :=
  List.map_congr_left fun o ho => get_same fun s hs => h s (List.mem_flatMap.2 ⟨o, ho, hs⟩)

/-- What a step that adds objects comes to, wherever it is taken. -/
structure IsLoc (O : Orc) (σ σ' : St) (d : Option Nat) (ins : Ins) (ρ : Hp) (x : SV) : Prop where
  names : ∀ id, ρ id ≠ none → ∃ dd j, d = some dd ∧ j < 16 ∧ id = (nm dd j, σ.nx)
  is : σ' = (σ.add ρ).put d x
  quiet : ins.quiet = true → ρ = noρ
  at_ : ∀ τ : St, (∀ s ∈ ins.rd, τ.t s = σ.t s) → (ins.ep = true → τ.ep = σ.ep) → (ins.quiet = false → τ.nx = σ.nx) → (ins.heap = true → ∀ id r, σ.h id = some r → τ.h id = some r) → istep O τ d ins = some ((τ.add ρ).put d x)

theorem one_loc {d n : Nat} {r : Row} {id : Id} (h : oneρ (nm d 0, n) r id ≠ none) : ∃ dd j, some d = some dd ∧ j < 16 ∧ id = (nm dd j, n) := by
  unfold oneρ at h
  split at h
  · rename_i e; exact ⟨d, 0, rfl, by omega, e⟩
  · exact absurd rfl h

theorem pureCall_loc {d : Nat} {f : FuncId} {args : List SV} (h : pureCall O σ d f args = some σ') : ∃ (ρ : Hp) (x : SV), (∀ id, ρ id ≠ none → ∃ j, j < 16 ∧ id = (nm d j, σ.nx)) ∧ σ' = (σ.add ρ).set d x ∧
    ∀ τ : St, τ.ep = σ.ep → τ.nx = σ.nx → (∀ id r, σ.h id = some r → τ.h id = some r) → pureCall O τ d f args = some ((τ.add ρ).set d x) := by
  unfold pureCall at h
  split at h
  · rename_i b xs hb
    split at h
    · rename_i rvs hp
      split at h
      · rename_i rvs' hr
        rcases land_add (d := d) (rvs := rvs') (n := σ.nx) with hl | ⟨ρ, x, h1, h2⟩
        · rw [hl σ rfl] at h; cases h
        · rw [h2 σ rfl] at h
          injection h with h; subst h
          refine ⟨ρ, x, h1, rfl, fun τ he hn hh => ?_⟩
          unfold pureCall
          rw [borL_loc he hh hb]
          simp only [hp, he, hr]
          exact h2 τ hn
      · cases h
    · cases h
  · cases h

theorem farOK_loc {z : Nat} {op : QO} (hrd : ∀ s ∈ op.rd, τ.t s = σ.t s) (hh : op.heap = true → ∀ id r, σ.h id = some r → τ.h id = some r) (h : farOK σ z op = true) : farOK τ z op = true := by
  unfold farOK at h
  split at h
  · rename_i k
    have e : τ.t k = σ.t k := hrd k (by simp [QO.rd, opdRd])
    simp only [farOK, e]; exact h
  · rename_i k
    have e : τ.t k = σ.t k := hrd k (by simp [QO.rd, opdRd])
    simp only [farOK, e]; exact h
  · rename_i ag n k
    have e : τ.t k = σ.t k := hrd k (by simp [QO.rd, opdRd])
    simp only [farOK, e]
    split at h
    · rename_i id i j hk
      split at h
      · rename_i row hr
        simp only [hk, hh rfl _ _ hr]; exact h
      · cases h
    · rename_i hk; simp only [hk]
    · cases h
  · cases h

theorem istep_loc {ins : Ins} {d : Option Nat} (hk : ins.adds = true) (h : istep O σ d ins = some σ') : ∃ ρ x, IsLoc O σ σ' d ins ρ x := by
  cases ins with
  | q op =>
    simp only [istep] at h
    split at h
    · rename_i x hx
      injection h with h; subst h
      refine ⟨noρ, x, fun id hid => absurd rfl hid, by rw [St.add_no], fun _ => rfl, fun τ h1 h2 _ h4 => ?_⟩
      simp only [istep, qval_loc h1 h2 h4 hx, St.add_no]
    · cases h
  | qk z op =>
    simp only [istep] at h
    split at h
    case isFalse => cases h
    rename_i hf
    split at h
    · rename_i x hx
      injection h with h; subst h
      refine ⟨noρ, x, fun id hid => absurd rfl hid, by rw [St.add_no], fun _ => rfl, fun τ h1 h2 _ h4 => ?_⟩
      simp only [istep, farOK_loc h1 h4 hf, if_true, qval_loc h1 h2 h4 hx, St.add_no]
    · cases h
  | m op =>
    cases op with
    | alloc zs =>
      simp only [istep] at h
      split at h
      · simp only [mval, Option.some.injEq] at h
        subst h
        rename_i d
        refine ⟨oneρ (nm d 0, σ.nx) ⟨zs.length, [zs]⟩, .c (.ad (nm d 0, σ.nx) 0 0), fun id hid => one_loc hid, by rw [St.add_one]; rfl, by simp [Ins.quiet], fun τ _ _ h3 _ => ?_⟩
        simp only [istep, mval, St.newO, St.add_one, h3 rfl, St.put]
      · cases h
    | mks bytes zero n =>
      simp only [istep] at h
      split at h
      · rename_i d
        simp only [mval] at h
        split at h
        · rename_i m hm
          split at h
          · rename_i hc
            injection h with h; subst h
            refine ⟨oneρ (nm d 0, σ.nx) ⟨zero.length, List.replicate m.toNat zero⟩, .c (.sl (nm d 0, σ.nx) 0 m.toNat), fun id hid => one_loc hid, by rw [St.add_one]; rfl, by simp [Ins.quiet], fun τ h1 _ h3 _ => ?_⟩
            have hg : τ.get n = σ.get n := get_same h1
            simp only [istep, mval, hg, hm, if_pos hc, St.newO, St.add_one, h3 rfl, St.put]
          · cases h
        · cases h
      · cases h
    | box => simp [Ins.adds] at hk
    | bsl => simp [Ins.adds] at hk
  | bslz =>
    simp only [istep] at h
    split at h
    · rename_i d
      injection h with h; subst h
      exact ⟨noρ, .c .z, fun id hid => absurd rfl hid, rfl, fun _ => rfl, fun τ _ _ _ _ => rfl⟩
    · cases h
  | boxp q =>
    simp only [istep] at h
    split at h
    · rename_i d
      split at h
      · rename_i xs hxs
        split at h
        · rename_i hkp
          simp only [mval, hxs, closeL_keep hkp, Option.some.injEq] at h
          subst h
          refine ⟨oneρ (nm d 0, σ.nx) ⟨xs.length, [xs]⟩, .c (.ad (nm d 0, σ.nx) 0 0), fun id hid => one_loc hid, by rw [St.add_one]; rfl, by simp [Ins.quiet], fun τ h1 h2 h3 _ => ?_⟩
          have hg : τ.get q = σ.get q := get_same h1
          simp only [istep, mval, hg, h2 rfl, hxs, if_pos hkp, closeL_keep hkp, St.newO, St.add_one, h3 rfl, St.put]
        · cases h
      · cases h
    · cases h
  | boxr q =>
    simp only [istep] at h
    split at h
    · rename_i d
      split at h
      · rename_i xs hxs
        split at h
        · rename_i hkp
          injection h with h
          subst h
          refine ⟨noρ, .c (.ar (frzs xs) 0), fun id hid => absurd rfl hid, rfl, fun _ => rfl, fun τ h1 h2 h3 _ => ?_⟩
          have hg : τ.get q = σ.get q := get_same h1
          simp only [istep, hg, h2 rfl, hxs, if_pos hkp, St.add_no, St.put]
        · cases h
      · cases h
    · cases h
  | bslp sz n zero parts =>
    simp only [istep] at h
    split at h
    · rename_i d
      split at h
      · rename_i xs hxs
        split at h
        · rename_i hkp
          simp only [mval, hxs, closeL_keep hkp, Option.some.injEq] at h
          subst h
          refine ⟨oneρ (nm d 0, σ.nx) ⟨sz, chunk sz n xs⟩, .c (.sl (nm d 0, σ.nx) 0 n), fun id hid => one_loc hid, by rw [St.add_one]; rfl, by simp [Ins.quiet], fun τ h1 h2 h3 _ => ?_⟩
          have hg := fillC_same (h2 rfl) (cs := (List.replicate n zero).flatten) h1
          simp only [istep, mval, hg, hxs, if_pos hkp, closeL_keep hkp, St.newO, St.add_one, h3 rfl, St.put]
        · cases h
      · cases h
    · cases h
  | appz sz bytes s q =>
    simp only [istep] at h
    split at h
    · rename_i d
      simp only [azval] at h
      split at h
      · rename_i hs
        split at h
        · rename_i es σ1 he
          split at h
          · rename_i hc
            injection h with h; subst h
            refine ⟨oneρ (nm d 0, σ.nx) ⟨sz, es⟩, .c (.sl (nm d 0, σ.nx) 0 es.length), fun id hid => one_loc hid, by rw [St.add_one]; rfl, by simp [Ins.quiet], fun τ h1 h2 h3 h4 => ?_⟩
            have hg1 : τ.get s = σ.get s := get_same fun x hx => h1 x (by simp [Ins.rd, hx])
            have hg2 : τ.get q = σ.get q := get_same fun x hx => h1 x (by simp [Ins.rd, hx])
            simp only [istep, azval, hg1, hg2, hs, asrc_loc (h2 rfl) (h4 rfl) he, if_pos hc, St.newO, St.add_one, h3 rfl, St.put]
          · cases h
        · cases h
      · cases h
    · cases h
  | call f args =>
    simp only [istep] at h
    split at h
    · rename_i d
      obtain ⟨ρ, x, h1, h2, h3⟩ := pureCall_loc h
      refine ⟨ρ, x, fun id hid => ?_, h2, by simp [Ins.quiet], fun τ k1 k2 k3 k4 => ?_⟩
      · obtain ⟨j, h4, h5⟩ := h1 id hid; exact ⟨d, j, rfl, h4, h5⟩
      · simp only [istep, args_same k1]
        exact h3 τ (k2 rfl) (k3 rfl) (k4 rfl)
    · cases h
  | callv lent q args more =>
    cases lent with
    | true => simp [Ins.adds] at hk
    | false =>
      simp only [istep] at h
      split at h
      · rename_i d
        split at h
        · rename_i f caps hq
          simp only [Bool.false_eq_true, if_false] at h
          obtain ⟨ρ, x, h1, h2, h3⟩ := pureCall_loc h
          refine ⟨ρ, x, fun id hid => ?_, h2, by simp [Ins.quiet], fun τ k1 k2 k3 k4 => ?_⟩
          · obtain ⟨j, h4, h5⟩ := h1 id hid; exact ⟨d, j, rfl, h4, h5⟩
          · have hg : τ.get q = σ.get q := get_same fun s hs => k1 s (by simp [Ins.rd, hs])
            have ha : args.map τ.get = args.map σ.get := args_same fun s hs => k1 s (by simp only [Ins.rd, List.flatMap_append, List.mem_append]; exact .inr (.inl hs))
            simp only [istep, hg, hq, ha, Bool.false_eq_true, if_false]
            exact h3 τ (k2 rfl) (k3 rfl) (k4 rfl)
        · cases h
      · cases h
  | st => simp [Ins.adds] at hk
  | app => simp [Ins.adds] at hk
  | calll => simp [Ins.adds] at hk
end
end Go.Fw
