/- Objects in printed proofs. -/
import Derived.Test.YtmdddmjmppckhaaFwLw
namespace Go.Fw

/-! ### Plain words -/
def mk? {α : Type} (bytes : Nat) (m : Int) (z : α) : Option (List α) := if 0 ≤ m ∧ m * bytes ≤ 140737488355328 ∧ m ≤ 9223372036854775807 then some (List.replicate m.toNat z) else none
def app? {α : Type} (bytes : Nat) (xs ys : List α) : Option (List α) := if (xs.length + ys.length) * bytes ≤ 140737488355328 ∧ xs.length + ys.length ≤ 9223372036854775807 then some (xs ++ ys) else none
def setI {α : Type} (xs : List α) (i : Int) (y : α) : List α := xs.set i.toNat y

theorem mk?_spec {α : Type} {b : Nat} {m : Int} {z : α} {xs : List α} (h : mk? b m z = some xs) : 0 ≤ m ∧ m * b ≤ 140737488355328 ∧ m ≤ 9223372036854775807 ∧ xs = List.replicate m.toNat z := by
  unfold mk? at h
  split at h
  · rename_i hc; injection h with h; exact ⟨hc.1, hc.2.1, hc.2.2, h.symm⟩
  · cases h
theorem app?_spec {α : Type} {b : Nat} {xs ys zs : List α} (h : app? b xs ys = some zs) : (xs.length + ys.length) * b ≤ 140737488355328 ∧ xs.length + ys.length ≤ 9223372036854775807 ∧ zs = xs ++ ys := by
  unfold app? at h
  split at h
  · rename_i hc; injection h with h; exact ⟨hc.1, hc.2, h.symm⟩
  · cases h

/-! ### What a cell is closed to -/
inductive Clz : List (Id × Row) → List Nat → List Cell → List Cell → List (Id × Row) → Prop
  | nil {I : List (Id × Row)} {ks : List Nat} : Clz I ks [] [] I
  | keep {I I' : List (Id × Row)} {ks : List Nat} {c c' : Cell} {cs cs' : List Cell} (h : ∀ σ, close1 (ks.headD 0) σ c = some (c', σ)) (t : Clz I ks.tail cs cs' I') : Clz I ks (c :: cs) (c' :: cs') I'
  | sl {I I' : List (Id × Row)} {ks : List Nat} {cs cs' : List Cell} {id : Id} {n : Nat} {row : Row} (k : Nat) (hk : I[k]? = some (id, row)) (hd : dataRow row.es = true) (hn : n = row.es.length) (t : Clz (I.eraseIdx k) ks.tail cs cs' I') :
      Clz I ks (.sl id 0 n :: cs) (.ow row.sz row.es :: cs') I'
  | slp {I I' : List (Id × Row)} {ks : List Nat} {cs cs' : List Cell} {id : Id} {off n : Nat} {row : Row} {es : List (List Cell)} (k : Nat) (hk : I[k]? = some (id, row)) (hd : dataRow row.es = true) (hn : off + n ≤ row.es.length) (he : cutRow row.es off n = es) (t : Clz (I.eraseIdx k) ks.tail cs cs' I') :
      Clz I ks (.sl id off n :: cs) (.ow row.sz es :: cs') I'

theorem close1_slp {σ : St} {k : Nat} {id : Id} {off n : Nat} {row : Row} (h6 : σ.h id = some row) (hd : dataRow row.es = true) (hn : off + n ≤ row.es.length) : close1 k σ (.sl id off n) = some (.ow row.sz (cutRow row.es off n), σ.kill id) := by
  simp only [close1, h6, hd, if_true]
  unfold cutRow
  by_cases h : off = 0 ∧ n = row.es.length
  · simp only [if_pos h]
  · simp only [if_neg h, hn, if_true]

section
variable {T : Tab} {X : Orc} {σ σ' : St} {N : Nat} {K K' : St → Prop} {Q Q' : Ex → St → Prop} {L : List (Nat × SV)} {I I' : List (Id × Row)} {D : List Nat} {ep : Nat}

theorem Clz.run {ks : List Nat} {cs cs' : List Cell} (h : Clz I ks cs cs' I') : ∀ {σ : St}, Hv L I D ep σ → ∃ σ1, closeL σ ks cs = some (cs', σ1) ∧ Hv L I' D ep σ1 ∧ σ1.t = σ.t ∧ σ1.nx = σ.nx ∧ σ1.ep = σ.ep := by
  induction h with
  | nil => intro σ hs; exact ⟨σ, rfl, hs, rfl, rfl, rfl⟩
  | keep h _ ih =>
    intro σ hs
    obtain ⟨σ1, h1, h2, h3, h4, h5⟩ := ih hs
    exact ⟨σ1, by simp only [closeL, h σ, h1], h2, h3, h4, h5⟩
  | sl k hk hd hn _ ih =>
    rename_i I I' ks cs cs' id n row
    intro σ hs
    obtain ⟨σ1, h1, h2, h3, h4, h5⟩ := ih (hs.kill k hk)
    refine ⟨σ1, ?_, h2, h3, h4, h5⟩
    have h6 := hs.h k _ hk
    simp only [closeL, close1, h6, hd, hn, if_true, true_and, h1]
  | slp k hk hd hn he _ ih =>
    intro σ hs
    obtain ⟨σ1, h1, h2, h3, h4, h5⟩ := ih (hs.kill k hk)
    refine ⟨σ1, ?_, h2, h3, h4, h5⟩
    have h6 := hs.h k _ hk
    subst he
    simp only [closeL, close1_slp h6 hd hn, h1]

theorem Hv.len (hs : Hv L I D ep σ) {d n : Nat} {y : SV} (h : ∀ j, look L j d = y) {z : SV} (e : y = z) : Hv ((d, z) :: L) I D ep σ := hs.as d h e

/-! ### Making -/
theorem Hv.mks (hs : Hv L I D ep σ) {d bytes : Nat} {zero : List Cell} {n : Opd} {m : Int} {α : Type} {enc : α → List Cell} {z : α} {xs : List α} (hm : mk? bytes m z = some xs) (hd : d ∉ D) (hn : ∀ j h nx, St.get ⟨look L j, h, ep, nx⟩ n = .c (.int .i64 m)) (hz : enc z = zero)
    (hk : ∀ id σ', Hv ((d, .c (.sl id 0 xs.length)) :: L) ((id, ⟨zero.length, xs.map enc⟩) :: I) (d :: D) ep σ' → K σ') : IWp T X (some d) (.m (.mks bytes zero n)) σ K := by
  obtain ⟨h1, h2, h3, rfl⟩ := mk?_spec hm
  have h4 := hs.get hn
  refine IWp.m ?_ (hk _ _ (hs.add hd _ _))
  simp only [mval, h4, asI, h1, h2, h3, and_self, if_true, List.length_replicate, List.map_replicate, hz]

theorem Hv.bsl (hs : Hv L I D ep σ) {d sz n : Nat} {zero : List Cell} {parts : List (Nat × Nat × Opd)} {ks : List Nat} {fl cs : List Cell} {es : List (List Cell)} (hd : d ∉ D) (hf : ∀ j h nx, fillC ⟨look L j, h, ep, nx⟩ parts ((List.replicate n zero).flatten) = some fl)
    (hc : Clz I ks fl cs I') (he : chunk sz n cs = es)
    (hk : ∀ id σ', Hv ((d, .c (.sl id 0 n)) :: L) ((id, ⟨sz, es⟩) :: I') (d :: D) ep σ' → K σ') : IWp T X (some d) (.m (.bsl sz n zero parts ks)) σ K := by
  obtain ⟨j, hh, nx, e1⟩ := hs.eta
  have h1 : fillC σ parts ((List.replicate n zero).flatten) = some fl := by rw [e1]; exact hf j hh nx
  obtain ⟨σ1, h2, h3, h4, h5, h6⟩ := hc.run hs
  refine IWp.m ?_ (hk _ _ (h3.add hd _ _))
  simp only [mval, h1, h2, he, h5]

theorem Hv.box (hs : Hv L I D ep σ) {d : Nat} {ks : List Nat} {x : Opd} {fl cs : List Cell} (hd : d ∉ D) (hf : ∀ j h nx, flat ep (St.get ⟨look L j, h, ep, nx⟩ x) = some fl) (hc : Clz I ks fl cs I')
    (hk : ∀ id σ', Hv ((d, .c (.ad id 0 0)) :: L) ((id, ⟨cs.length, [cs]⟩) :: I') (d :: D) ep σ' → K σ') : IWp T X (some d) (.m (.box ks x)) σ K := by
  obtain ⟨j, hh, nx, e1⟩ := hs.eta
  have h1 : flat σ.ep (σ.get x) = some fl := by rw [hs.ep, e1]; exact hf j hh nx
  obtain ⟨σ1, h2, h3, h4, h5, h6⟩ := hc.run hs
  refine IWp.m ?_ (hk _ _ (h3.add hd _ _))
  simp only [mval, h1, h2, h5]

/-- An append whose elements are moved. -/
theorem Hv.app (hs : Hv L I D ep σ) {d sz bytes : Nat} {s x : Opd} {α : Type} {enc : α → List Cell} {xs ys zs : List α} {id1 id2 : Id} {n m : Nat} (k1 k2 : Nat) (ha : app? bytes xs ys = some zs) (hd : d ∉ D)
    (h1 : I[k1]? = some (id1, ⟨sz, xs.map enc⟩)) (h2 : (I.eraseIdx k1)[k2]? = some (id2, ⟨sz, ys.map enc⟩)) (hsv : ∀ j h nx, St.get ⟨look L j, h, ep, nx⟩ s = .c (.sl id1 0 n)) (hxv : ∀ j h nx, St.get ⟨look L j, h, ep, nx⟩ x = .c (.sl id2 0 m))
    (hn : n = xs.length) (hm : m = ys.length) (hok : (ys.map enc).all (fun e => e.all okStore) = true)
    (hk : ∀ id σ', Hv ((d, .c (.sl id 0 zs.length)) :: L) ((id, ⟨sz, zs.map enc⟩) :: (I.eraseIdx k1).eraseIdx k2) (d :: D) (ep + 1) σ' → K σ') : IWp T X (some d) (.app sz bytes true s x) σ K := by
  obtain ⟨hb1, hb2, rfl⟩ := app?_spec ha
  have g1 := hs.get hsv
  have g2 := hs.get hxv
  have r1 := hs.h k1 _ h1
  have s1 := hs.kill k1 h1
  have r2 := s1.h k2 _ h2
  have s2 := s1.kill k2 h2
  have c1 : cutRow (xs.map enc) 0 n = xs.map enc := by rw [hn]; simp [cutRow]
  have c2 : cutRow (ys.map enc) 0 m = ys.map enc := by rw [hm]; simp [cutRow]
  have l1 : 0 + n ≤ (xs.map enc).length := by simp [hn]
  have l2 : 0 + m ≤ (ys.map enc).length := by simp [hm]
  have s3 := (s2.add hd ⟨sz, xs.map enc ++ ys.map enc⟩ (.c (.sl (nm d 0, ((σ.kill id1).kill id2).nx) 0 ((xs.map enc).length + (ys.map enc).length))))
  refine IWp.app (σ1 := ({ ((σ.kill id1).kill id2).newO d ⟨sz, xs.map enc ++ ys.map enc⟩ with ep := σ.ep + 1 } : St).set d (.c (.sl (nm d 0, σ.nx) 0 ((xs.map enc).length + (ys.map enc).length)))) ?_ (hk (nm d 0, σ.nx) _ ?_)
  · simp only [aval, g1, abase, r1, l1, c1, and_self, if_true, asrc, g2, r2, l2, c2, hok]
    simp only [List.length_map, hb1, hb2, and_self, if_true]
  · simp only [List.length_map, List.length_append, List.map_append] at s3 ⊢
    exact ⟨s3.t, s3.h, s3.nd, s3.bd, by rw [← hs.ep]; rfl⟩

/-- An append to nothing, of copies. -/
theorem Hv.appz (hs : Hv L I D ep σ) {d sz bytes : Nat} {s x : Opd} {α : Type} {enc : α → List Cell} {xs zs : List α} (ha : app? bytes ([] : List α) xs = some zs) (hd : d ∉ D) (hsv : ∀ j h nx, St.get ⟨look L j, h, ep, nx⟩ s = .c .z)
    (hxv : ∀ j h nx, St.get ⟨look L j, h, ep, nx⟩ x = .c (.ro (xs.map enc))) (hok : ∀ a, (enc a).length = sz ∧ (enc a).all Cell.copy = true)
    (hk : ∀ id σ', Hv ((d, .c (.sl id 0 zs.length)) :: L) ((id, ⟨sz, zs.map enc⟩) :: I) (d :: D) ep σ' → K σ') : IWp T X (some d) (.appz sz bytes s x) σ K := by
  obtain ⟨hb1, hb2, hz⟩ := app?_spec ha
  rw [List.nil_append] at hz
  subst hz
  have g1 := hs.get hsv
  have g2 := hs.get hxv
  simp only [List.length_nil, Nat.zero_add] at hb1 hb2
  refine IWp.appz (σ1 := (σ.newO d ⟨sz, zs.map enc⟩).set d (.c (.sl (nm d 0, σ.nx) 0 (zs.map enc).length))) ?_ (hk _ _ (by simpa using hs.add hd ⟨sz, zs.map enc⟩ (.c (.sl (nm d 0, σ.nx) 0 (zs.map enc).length))))
  have e1 : (zs.map enc).all (fun e => decide (e.length = sz)) = true := by simp [fun a => (hok a).1]
  have e2 : (zs.map enc).all (fun e => e.all Cell.copy) = true := by simp only [List.all_map, List.all_eq_true]; intro a _; exact (hok a).2
  simp only [azval, g1, asrc, g2, e1, e2, Bool.and_self, if_true]
  simp only [List.length_map, hb1, hb2, and_self, if_true]

/-- An append of copies of what is read only. -/
theorem Hv.appr (hs : Hv L I D ep σ) {d sz bytes : Nat} {mv : Bool} {s x : Opd} {α : Type} {enc : α → List Cell} {xs ys zs : List α} {id1 : Id} {n : Nat} (k1 : Nat) (ha : app? bytes xs ys = some zs) (hd : d ∉ D)
    (h1 : I[k1]? = some (id1, ⟨sz, xs.map enc⟩)) (hsv : ∀ j h nx, St.get ⟨look L j, h, ep, nx⟩ s = .c (.sl id1 0 n)) (hxv : ∀ j h nx, St.get ⟨look L j, h, ep, nx⟩ x = .c (.ro (ys.map enc)))
    (hn : n = xs.length) (hok : ∀ a, (enc a).length = sz ∧ (enc a).all Cell.copy = true)
    (hk : ∀ id σ', Hv ((d, .c (.sl id 0 zs.length)) :: L) ((id, ⟨sz, zs.map enc⟩) :: I.eraseIdx k1) (d :: D) (ep + 1) σ' → K σ') : IWp T X (some d) (.app sz bytes mv s x) σ K := by
  obtain ⟨hb1, hb2, rfl⟩ := app?_spec ha
  have g1 := hs.get hsv
  have g2 := hs.get hxv
  have r1 := hs.h k1 _ h1
  have s1 := hs.kill k1 h1
  have c1 : cutRow (xs.map enc) 0 n = xs.map enc := by rw [hn]; simp [cutRow]
  have l1 : 0 + n ≤ (xs.map enc).length := by simp [hn]
  have e1 : (ys.map enc).all (fun e => decide (e.length = sz)) = true := by simp [fun a => (hok a).1]
  have e2 : (ys.map enc).all (fun e => e.all Cell.copy) = true := by simp only [List.all_map, List.all_eq_true]; intro a _; exact (hok a).2
  have s3 := (s1.add hd ⟨sz, xs.map enc ++ ys.map enc⟩ (.c (.sl (nm d 0, (σ.kill id1).nx) 0 ((xs.map enc).length + (ys.map enc).length))))
  refine IWp.app (σ1 := ({ (σ.kill id1).newO d ⟨sz, xs.map enc ++ ys.map enc⟩ with ep := σ.ep + 1 } : St).set d (.c (.sl (nm d 0, σ.nx) 0 ((xs.map enc).length + (ys.map enc).length)))) ?_ (hk (nm d 0, σ.nx) _ ?_)
  · simp only [aval, g1, abase, r1, l1, c1, and_self, if_true, asrc, g2, e1, e2, Bool.and_self]
    simp only [List.length_map, hb1, hb2, and_self, if_true]
  · simp only [List.length_map, List.length_append, List.map_append] at s3 ⊢
    exact ⟨s3.t, s3.h, s3.nd, s3.bd, by rw [← hs.ep]; rfl⟩

/-! ### Reading and writing -/
theorem Hv.idxo (hs : Hv L I D ep σ) {d sz : Nat} {x i : Opd} {es : List (List Cell)} {n : Nat} {m : Int} {id : Id} (k : Nat) (hk : I[k]? = some (id, ⟨sz, es⟩)) (hx : ∀ j h nx, St.get ⟨look L j, h, ep, nx⟩ x = .c (.sl id 0 n)) (hi : ∀ j h nx, St.get ⟨look L j, h, ep, nx⟩ i = .c (.int .i64 m))
    (hn : n = es.length) (hm : 0 ≤ m ∧ m < n) (h : ∀ σ', Hv ((d, .c (.ad id m.toNat 0)) :: L) I D ep σ' → K σ') : IWp T X (some d) (.q (.idx sz x i)) σ K := by
  have g1 := hs.get hx
  have g2 := hs.get hi
  have r1 := hs.h k _ hk
  have l1 : 0 + n ≤ es.length := by omega
  refine IWp.q (x := .c (.ad id m.toNat 0)) ?_ (h _ (hs.put d _))
  have c1 : 0 ≤ m ∧ m < (n : Int) ∧ sz = sz ∧ 0 + n ≤ es.length := ⟨hm.1, hm.2, rfl, l1⟩
  simp only [qval, g1, g2, asI, r1, Nat.zero_add]
  rw [if_pos ⟨c1.1, c1.2.1, trivial, by omega⟩]

theorem at?_lt {α : Type} {xs : List α} {i : Int} {x : α} (h : at? xs i = some x) : 0 ≤ i ∧ i < (xs.length : Int) := by
  obtain ⟨n, rfl, hn⟩ := at?_spec h
  have := (List.getElem?_eq_some_iff.1 hn).1
  omega
theorem at?_map {α : Type} {xs : List α} {i : Int} {x : α} (e : α → List Cell) (h : at? xs i = some x) : (xs.map e)[i.toNat]? = some (e x) := by
  obtain ⟨n, rfl, hn⟩ := at?_spec h
  simp [hn]

theorem Hv.ldo (hs : Hv L I D ep σ) {d n r j : Nat} {agg : Bool} {x : Opd} {id : Id} {row : Row} {e cs : List Cell} {v : SV} (k : Nat) (hk : I[k]? = some (id, row)) (hx : ∀ j' h nx, St.get ⟨look L j', h, ep, nx⟩ x = .c (.ad id r j)) (he : row.es[r]? = some e) (hc : cut e j n = some cs)
    (hv : mkSV agg (cs.map (peek ep)) = some v) (h : ∀ σ', Hv ((d, v) :: L) I D ep σ' → K σ') : IWp T X (some d) (.q (.load agg n x)) σ K := by
  have g1 := hs.get hx
  have r1 := hs.h k _ hk
  refine IWp.q (x := v) ?_ (h _ (hs.put d _))
  simp only [qval, g1, r1, he, hc, hs.ep, hv]

/-- A store; what is stored is closed. -/
theorem Hv.sto (hs : Hv L I D ep σ) {n r j : Nat} {ks : List Nat} {x v : Opd} {id : Id} {row : Row} {e fl cs : List Cell} {es : List (List Cell)} (k k' : Nat) (hx : ∀ j' h nx, St.get ⟨look L j', h, ep, nx⟩ x = .c (.ad id r j)) (hv : ∀ j' h nx, flat ep (St.get ⟨look L j', h, ep, nx⟩ v) = some fl)
    (hc : Clz I ks fl cs I') (hn : fl.length = n) (hk : I'[k']? = some (id, row)) (he : row.es[r]? = some e) (hj : j + n ≤ e.length) (hes : row.es.set r (splice row.sz e j cs) = es)
    (h : ∀ σ', Hv L (I'.set k' (id, ⟨row.sz, es⟩)) D (ep + 1) σ' → K σ') : IWp T X none (.st false n ks x v) σ K := by
  have g1 := hs.get hx
  obtain ⟨jj, hh, nx, e1⟩ := hs.eta
  have g2 : flat σ.ep (σ.get v) = some fl := by rw [hs.ep, e1]; exact hv jj hh nx
  obtain ⟨σ1, h2, h3, h4, h5, h6⟩ := hc.run hs
  have r1 := h3.h k' _ hk
  have u := h3.upd k' hk ⟨row.sz, es⟩ (ep + 1)
  refine IWp.st (σ1 := { σ1.setH id (some ⟨row.sz, es⟩) with ep := σ.ep + 1 }) ?_ (h _ (by rw [hs.ep]; exact u))
  simp only [sval, g1, g2, hn, if_true, Bool.false_eq_true, if_false, h2, r1, he, hj, hes]

/-! ### The end of a function -/
theorem Hv.rtc (hs : Hv L I D ep σ) {t : Nat} {ks : List Nat} {b : Bool} {fl cs : List Cell} {e : Ex} (he : e = .normal ∨ e = .ret) (hf : ∀ j h nx, (match (⟨look L j, h, ep, nx⟩ : St).t t with | .c x => b = false ∧ [x] = fl | .a xs => b = true ∧ xs = fl | .t _ => False)) (hc : Clz I ks fl cs I') :
    Rt [(.tmp t, ks)] [(b, cs)] e σ := by
  obtain ⟨σ1, h2, _⟩ := hc.run hs
  obtain ⟨j, hh, nx, e1⟩ := hs.eta
  have h1 := hf j hh nx
  rw [← e1] at h1
  refine ⟨he, σ1, ?_⟩
  cases h4 : σ.t t with
  | c x => rw [h4] at h1; obtain ⟨rfl, rfl⟩ := h1; simp only [takeRs, takeR, h4, h2]
  | a xs => rw [h4] at h1; obtain ⟨rfl, rfl⟩ := h1; simp only [takeRs, takeR, h4, h2]
  | t xs => rw [h4] at h1; exact h1.elim

/-- What is handed back, one by one. -/
inductive Tk (L : List (Nat × SV)) : List (Id × Row) → List (RO × List Nat) → List RV → List (Id × Row) → Prop
  | nil {I : List (Id × Row)} : Tk L I [] [] I
  | c {I I1 I' : List (Id × Row)} {t : Nat} {ks : List Nat} {x : Cell} {cs : List Cell} {res : List (RO × List Nat)} {rvs : List RV} (h : ∀ j, look L j t = .c x) (hc : Clz I ks [x] cs I1) (n : Tk L I1 res rvs I') : Tk L I ((.tmp t, ks) :: res) ((false, cs) :: rvs) I'
  | a {I I1 I' : List (Id × Row)} {t : Nat} {ks : List Nat} {xs cs : List Cell} {res : List (RO × List Nat)} {rvs : List RV} (h : ∀ j, look L j t = .a xs) (hc : Clz I ks xs cs I1) (n : Tk L I1 res rvs I') : Tk L I ((.tmp t, ks) :: res) ((true, cs) :: rvs) I'
  | m {I I' : List (Id × Row)} {t i j n : Nat} {ks : List Nat} {agg : Bool} {id : Id} {row : Row} {e cs : List Cell} {res : List (RO × List Nat)} {rvs : List RV} (k : Nat) (h : ∀ j', look L j' t = .c (.ad id i j)) (hk : I[k]? = some (id, row)) (he : row.es[i]? = some e) (hcut : cut e j n = some cs)
      (hl : (cs.all (fun c => !c.live) && (agg || decide (n = 1))) = true) (nx : Tk L (I.eraseIdx k) res rvs I') : Tk L I ((.cell t agg n, ks) :: res) ((agg, cs) :: rvs) I'

theorem Tk.run {res : List (RO × List Nat)} {rvs : List RV} (h : Tk L I res rvs I') : ∀ {σ : St}, Hv L I D ep σ → ∃ σ', takeRs σ res = some (rvs, σ') ∧ Hv L I' D ep σ' ∧ σ'.nx = σ.nx := by
  induction h with
  | nil => intro σ hs; exact ⟨σ, rfl, hs, rfl⟩
  | c h hc _ ih =>
    intro σ hs
    obtain ⟨σ1, h2, h3, h4, h5, h6⟩ := hc.run hs
    obtain ⟨σ2, h7, h8, h9⟩ := ih h3
    obtain ⟨j, hj⟩ := hs.t
    exact ⟨σ2, by simp only [takeRs, takeR, hj, h j, h2, h7], h8, h9.trans h5⟩
  | a h hc _ ih =>
    intro σ hs
    obtain ⟨σ1, h2, h3, h4, h5, h6⟩ := hc.run hs
    obtain ⟨σ2, h7, h8, h9⟩ := ih h3
    obtain ⟨j, hj⟩ := hs.t
    exact ⟨σ2, by simp only [takeRs, takeR, hj, h j, h2, h7], h8, h9.trans h5⟩
  | m k h hk he hcut hl _ ih =>
    intro σ hs
    obtain ⟨j, hj⟩ := hs.t
    have r1 := hs.h k _ hk
    obtain ⟨σ2, h7, h8, h9⟩ := ih (hs.kill k hk)
    exact ⟨σ2, by simp only [takeRs, takeR, hj, h j, r1, he, hcut, hl, if_true, h7], h8, h9⟩

theorem Hv.rts (hs : Hv L I D ep σ) {res : List (RO × List Nat)} {rvs : List RV} {e : Ex} (he : e = .normal ∨ e = .ret) (h : Tk L I res rvs I') : Rt res rvs e σ := by
  obtain ⟨σ', h1, _⟩ := h.run hs
  exact ⟨he, σ', h1⟩

theorem set_map {α : Type} {enc : α → List Cell} {xs : List α} {r : Nat} {X : List Cell} {v' : α} (h : X = enc v') : (xs.map enc).set r X = (xs.set r v').map enc := by rw [h, List.map_set]

theorem Hv.bslp (hs : Hv L I D ep σ) {d sz n : Nat} {zero : List Cell} {parts : List (Nat × Nat × Opd)} {fl : List Cell} {es : List (List Cell)} (hd : d ∉ D) (hf : ∀ j h nx, fillC ⟨look L j, h, ep, nx⟩ parts ((List.replicate n zero).flatten) = some fl)
    (hkp : fl.all Cell.keep = true) (hc : ∀ σ, closeL σ [] fl = some (fl, σ)) (he : chunk sz n fl = es)
    (hk : ∀ id σ', Hv ((d, .c (.sl id 0 n)) :: L) ((id, ⟨sz, es⟩) :: I) (d :: D) ep σ' → K σ') : IWp T X (some d) (.bslp sz n zero parts) σ K := by
  obtain ⟨j, hh, nx, e1⟩ := hs.eta
  have h1 : fillC σ parts ((List.replicate n zero).flatten) = some fl := by rw [e1]; exact hf j hh nx
  refine IWp.of (σ1 := (σ.newO d ⟨sz, es⟩).set d (.c (.sl (nm d 0, σ.nx) 0 n))) (fun m => ?_) (hk _ _ (hs.add hd _ _))
  simp only [istep, h1, hkp, if_true, mval, hc, he]

/-! ### Nested slices are opened and closed -/
theorem Hv.opn (hs : Hv L I D ep σ) {d r j sz : Nat} {x : Opd} {id : Id} {row : Row} {e : List Cell} {es : List (List Cell)} {gs : List GO} (k : Nat) (hN : N ≤ d) (hd : d ∉ D) (hk : I[k]? = some (id, row)) (hx : ∀ j' h nx, St.get ⟨look L j', h, ep, nx⟩ x = .c (.ad id r j))
    (he : row.es[r]? = some e) (hj : e[j]? = some (.ow sz es))
    (h : ∀ id2 σ', Hv ((d, .c (.sl id2 0 es.length)) :: L) ((id2, ⟨sz, es⟩) :: I.set k (id, ⟨row.sz, row.es.set r (e.set j (.sl id2 0 es.length))⟩)) (d :: D) (ep + 2) σ' → GWp N gs σ' K) : GWp N (.opn d x :: gs) σ K := by
  have g1 := hs.get hx
  have r1 := hs.h k _ hk
  have u := hs.upd k hk ⟨row.sz, row.es.set r (e.set j (.sl (nm d 0, σ.nx) 0 es.length))⟩ (ep + 2)
  have a := u.add hd ⟨sz, es⟩ (.c (.sl (nm d 0, σ.nx) 0 es.length))
  refine GWp.cons (σ1 := (({ σ.setH id (some ⟨row.sz, row.es.set r (e.set j (.sl (nm d 0, σ.nx) 0 es.length))⟩) with ep := σ.ep + 2 } : St).newO d ⟨sz, es⟩).set d (.c (.sl (nm d 0, σ.nx) 0 es.length))) ?_ (h (nm d 0, σ.nx) _ ?_)
  · simp only [gval, g1, r1, he, hj, hN, if_true]
  · rw [← hs.ep] at a ⊢
    exact a

theorem Hv.frn (hs : Hv L I D ep σ) {d r j sz : Nat} {x : Opd} {id : Id} {row : Row} {e : List Cell} {es es' : List (List Cell)} {rows : List (List Cell)} {gs : List GO} (k : Nat) (hk : I[k]? = some (id, row)) (hx : ∀ j' h nx, St.get ⟨look L j', h, ep, nx⟩ x = .c (.ad id r j))
    (he : row.es[r]? = some e) (hj : e[j]? = some (.ow sz es)) (hf : frzRows es = es') (hrows : row.es.set r (e.set j (.ro es')) = rows)
    (h : ∀ σ', Hv L (I.set k (id, ⟨row.sz, rows⟩)) D (ep + 2) σ' → GWp N gs σ' K) : GWp N (.frn d x :: gs) σ K := by
  have g1 := hs.get hx
  have r1 := hs.h k _ hk
  have u := hs.upd k hk ⟨row.sz, rows⟩ (ep + 2)
  refine GWp.cons (σ1 := { σ.setH id (some ⟨row.sz, rows⟩) with ep := σ.ep + 2 }) ?_ (h _ ?_)
  · simp only [gval, g1, r1, he, hj, hf, hrows]
  · rw [← hs.ep] at u ⊢
    exact u

theorem Hv.cls (hs : Hv L I D ep σ) {r j n : Nat} {x : Opd} {id id2 : Id} {row row2 : Row} {e : List Cell} {es : List (List Cell)} {gs : List GO} (k k2 k' : Nat) (hk : I[k]? = some (id, row)) (hk2 : I[k2]? = some (id2, row2)) (hne : k ≠ k2) (hk' : (I.eraseIdx k2)[k']? = some (id, row))
    (hx : ∀ j' h nx, St.get ⟨look L j', h, ep, nx⟩ x = .c (.ad id r j)) (he : row.es[r]? = some e) (hj : e[j]? = some (.sl id2 0 n)) (hn : n = row2.es.length) (hd : dataRow row2.es = true) (hes : row.es.set r (e.set j (.ow row2.sz row2.es)) = es)
    (h : ∀ σ', Hv L ((I.eraseIdx k2).set k' (id, ⟨row.sz, es⟩)) D (ep + 1) σ' → GWp N gs σ' K) : GWp N (.cls x :: gs) σ K := by
  have g1 := hs.get hx
  have r1 := hs.h k _ hk
  have r2 := hs.h k2 _ hk2
  have hid : id2 ≠ id := fun e => hne (by
    have h4 : (I.map (·.1))[k]? = some id := by rw [List.getElem?_map, hk]; rfl
    have h5 : (I.map (·.1))[k2]? = some id := by rw [List.getElem?_map, hk2]; simp [e]
    have hlt := (List.getElem?_eq_some_iff.1 h4).1
    exact (List.getElem?_inj hlt hs.nd).1 (h4.trans h5.symm))
  have u := (hs.kill k2 hk2).upd k' hk' ⟨row.sz, es⟩ (ep + 1)
  refine GWp.cons (σ1 := { (σ.kill id2).setH id (some ⟨row.sz, es⟩) with ep := σ.ep + 1 }) ?_ (h _ ?_)
  · simp only [gval, g1, r1, he, hj, r2]
    rw [if_pos ⟨hid, hn, hd⟩, hes]
  · rw [← hs.ep] at u ⊢
    exact u

theorem Hv.gfld (hs : Hv L I D ep σ) {d off r j : Nat} {x : Opd} {id : Id} {gs : List GO} (hN : N ≤ d) (hx : ∀ j' h nx, St.get ⟨look L j', h, ep, nx⟩ x = .c (.ad id r j)) (h : ∀ σ', Hv ((d, .c (.ad id r (j + off))) :: L) I D ep σ' → GWp N gs σ' K) : GWp N (.fld d off x :: gs) σ K := by
  have g1 := hs.get hx
  exact GWp.cons (σ1 := σ.set d (.c (.ad id r (j + off)))) (by simp only [gval, hN, if_true, g1]) (h _ (hs.put d _))
theorem Hv.gidx (hs : Hv L I D ep σ) {d n : Nat} {m : Int} {x i : Opd} {id : Id} {gs : List GO} (hN : N ≤ d) (hx : ∀ j' h nx, St.get ⟨look L j', h, ep, nx⟩ x = .c (.sl id 0 n)) (hi : ∀ j' h nx, St.get ⟨look L j', h, ep, nx⟩ i = .c (.int .i64 m)) (hm : 0 ≤ m)
    (h : ∀ σ', Hv ((d, .c (.ad id m.toNat 0)) :: L) I D ep σ' → GWp N gs σ' K) : GWp N (.idx d x i :: gs) σ K := by
  have g1 := hs.get hx
  have g2 := hs.get hi
  exact GWp.cons (σ1 := σ.set d (.c (.ad id (0 + m.toNat) 0))) (by simp only [gval, hN, if_true, g1, g2, asI, hm]) (h _ (by rw [Nat.zero_add]; exact hs.put d _))

/-! ### What is borrowed by a call -/
def bor1L (σ : St) : SV → Option (Bool × SV)
  | .c c => match bor1 σ c with
    | some (b, c') => some (b, .c c')
    | none => none
  | .a cs => match borCs σ cs with
    | some (b, cs') => some (b, .a cs')
    | none => none
  | .t _ => none

inductive BorC (I : List (Id × Row)) (ep : Nat) : List Cell → Bool → List Cell → Prop
  | nil : BorC I ep [] false []
  | d {x x' : Cell} {b : Bool} {xs xs' : List Cell} (h : ∀ σ, bor1 σ x = some (false, x')) (t : BorC I ep xs b xs') : BorC I ep (x :: xs) b (x' :: xs')
  | sl {id : Id} {n : Nat} {row : Row} {es : List (List Cell)} {b : Bool} {xs xs' : List Cell} (k : Nat) (hk : I[k]? = some (id, row)) (hn : n = row.es.length) (hd : dataRow row.es = true) (he : frzRows row.es = es) (t : BorC I ep xs b xs') :
      BorC I ep (.sl id 0 n :: xs) true (.ro es :: xs')
inductive Bor (I : List (Id × Row)) (ep : Nat) : List SV → Bool → List SV → Prop
  | nil : Bor I ep [] false []
  | d {x x' : SV} {b : Bool} {xs xs' : List SV} (h : ∀ σ, bor1L σ x = some (false, x')) (t : Bor I ep xs b xs') : Bor I ep (x :: xs) b (x' :: xs')
  | sn {es es' : List (List Cell)} {b : Bool} {xs xs' : List SV} (he : es = es') (t : Bor I ep xs b xs') : Bor I ep (.c (.sn ep es) :: xs) true (.c (.ro es') :: xs')
  | sl {id : Id} {n : Nat} {row : Row} {es : List (List Cell)} {b : Bool} {xs xs' : List SV} (k : Nat) (hk : I[k]? = some (id, row)) (hn : n = row.es.length) (hd : dataRow row.es = true) (he : frzRows row.es = es) (t : Bor I ep xs b xs') :
      Bor I ep (.c (.sl id 0 n) :: xs) true (.c (.ro es) :: xs')
  | ag {cs cs' : List Cell} {b1 b : Bool} {xs xs' : List SV} (h : BorC I ep cs b1 cs') (t : Bor I ep xs b xs') : Bor I ep (.a cs :: xs) (b1 || b) (.a cs' :: xs')
  | slp {id : Id} {off n : Nat} {row : Row} {es : List (List Cell)} {b : Bool} {xs xs' : List SV} (k : Nat) (hk : I[k]? = some (id, row)) (hn : off + n ≤ row.es.length) (hd : dataRow row.es = true) (he : frzRows (cutRow row.es off n) = es) (t : Bor I ep xs b xs') :
      Bor I ep (.c (.sl id off n) :: xs) true (.c (.ro es) :: xs')

theorem BorC.run {xs xs' : List Cell} {b : Bool} (h : BorC I ep xs b xs') (hs : Hv L I D ep σ) : borCs σ xs = some (b, xs') := by
  induction h with
  | nil => rfl
  | d h _ ih => simp only [borCs, h σ, ih, Bool.false_or]
  | sl k hk hn hd he _ ih =>
    have r1 := hs.h k _ hk
    subst hn
    simp only [borCs, bor1, r1, Nat.zero_add, Nat.le_refl, hd, and_self, if_true, cutRow_all, he, ih, Bool.true_or]
theorem Bor.run {xs xs' : List SV} {b : Bool} (h : Bor I ep xs b xs') (hs : Hv L I D ep σ) : borL σ xs = some (b, xs') := by
  induction h with
  | nil => rfl
  | d h _ ih =>
    have h1 := h σ
    revert h1
    rename_i y _ _ _ _ _
    cases y with
    | c c =>
      intro h1
      cases h2 : bor1 σ c with
      | none => simp [bor1L, h2] at h1
      | some p =>
        obtain ⟨b1, c1⟩ := p
        simp only [bor1L, h2, Option.some.injEq, Prod.mk.injEq] at h1
        obtain ⟨rfl, rfl⟩ := h1
        simp only [borL, h2, ih, Bool.false_or]
    | a cs =>
      intro h1
      cases h2 : borCs σ cs with
      | none => simp [bor1L, h2] at h1
      | some p =>
        obtain ⟨b1, c1⟩ := p
        simp only [bor1L, h2, Option.some.injEq, Prod.mk.injEq] at h1
        obtain ⟨rfl, rfl⟩ := h1
        simp only [borL, h2, ih, Bool.false_or]
    | t => intro h1; simp [bor1L] at h1
  | sn he _ ih => subst he; simp only [borL, bor1, hs.ep, if_true, ih, Bool.true_or]
  | ag h _ ih => simp only [borL, h.run hs, ih]
  | sl k hk hn hd he _ ih =>
    have r1 := hs.h k _ hk
    subst hn
    simp only [borL, bor1, r1, Nat.zero_add, Nat.le_refl, hd, and_self, if_true, cutRow_all, he, ih, Bool.true_or]
  | slp k hk hn hd he _ ih =>
    have r1 := hs.h k _ hk
    simp only [borL, bor1, r1, hn, hd, and_self, if_true, he, ih, Bool.true_or]

theorem noRo_map {α : Type} {e : α → List Cell} {xs : List α} (h : ∀ x, noRos (e x) = true) : noRoRows (xs.map e) = true := by
  induction xs with
  | nil => rfl
  | cons x xs ih => simp only [List.map_cons, noRoRows, h x, ih, Bool.and_self]
theorem noRo_eO {α : Type} {n : Nat} {e : α → List Cell} (h : ∀ x, noRos (e x) = true) : ∀ xs, noRos (eO n e xs) = true := by
  intro xs; simp [eO, noRos, Cell.noRo, noRo_map h]

theorem Hv.callb (hs : Hv L I D ep σ) {d : Nat} {f : FuncId} {args : List Opd} {ys xs : List SV} {b : Bool} {rvs : List RV} {x : SV} (hp : Pure T X f xs rvs) (hy : ∀ j h nx, args.map (St.get ⟨look L j, h, ep, nx⟩) = ys) (hb : Bor I ep ys b xs)
    (hr : ∀ ep, snoRs ep rvs = some rvs) (hl : ∀ σ : St, land σ d rvs = some (σ.set d x)) (hk : ∀ σ', Hv ((d, x) :: L) I D ep σ' → K σ') : IWp T X (some d) (.call f args) σ K := by
  obtain ⟨j, hh, nx, e⟩ := hs.eta
  refine IWp.call (b := b) (xs := xs) (rvs' := rvs) ?_ hp ?_ (hl σ) (hk _ (hs.put d x))
  · have h1 := hy j hh nx
    rw [← e] at h1
    rw [h1]; exact hb.run hs
  · cases b
    · rfl
    · exact hr _
theorem Hv.callbo (hs : Hv L I D ep σ) {d : Nat} {f : FuncId} {args : List Opd} {ys xs : List SV} {b : Bool} {sz : Nat} {es : List (List Cell)} (hp : Pure T X f xs [(false, [.ow sz es])]) (hd : d ∉ D) (hy : ∀ j h nx, args.map (St.get ⟨look L j, h, ep, nx⟩) = ys) (hb : Bor I ep ys b xs)
    (hr : noRoRows es = true) (hk : ∀ id σ', Hv ((d, .c (.sl id 0 es.length)) :: L) ((id, ⟨sz, es⟩) :: I) (d :: D) ep σ' → K σ') : IWp T X (some d) (.call f args) σ K := by
  obtain ⟨j, hh, nx, e⟩ := hs.eta
  refine IWp.call (b := b) (xs := xs) (rvs' := [(false, [.ow sz es])]) ?_ hp ?_ rfl (hk _ _ (hs.add hd ⟨sz, es⟩ (.c (.sl (nm d 0, σ.nx) 0 es.length))))
  · have h1 := hy j hh nx
    rw [← e] at h1
    rw [h1]; exact hb.run hs
  · cases b
    · rfl
    · simp only [if_true, snoRs, snos, sno, Cell.noRo, hr]
theorem Hv.bslz (hs : Hv L I D ep σ) {d : Nat} (hk : ∀ σ', Hv ((d, .c .z) :: L) I D ep σ' → K σ') : IWp T X (some d) .bslz σ K := IWp.bslz (hk _ (hs.put d _))
theorem Hv.lenm (hs : Hv L I D ep σ) (d : Nat) {α : Type} {xs : List α} {enc : α → List Cell} {id : Id} (h : ∀ j, look L j d = .c (.sl id 0 (xs.map enc).length)) : Hv ((d, .c (.sl id 0 xs.length)) :: L) I D ep σ := hs.as d h (by simp)
theorem hole_at {α : Type} {xs : List α} {i : Int} {x : α} {e : α → List Cell} (h : at? xs i = some x) (Y : List Cell) : ((xs.map e).set i.toNat Y)[i.toNat]? = some Y := by
  have := at?_lt h
  rw [List.getElem?_set_self (by simp; omega)]

theorem Hv.leave (hs : Hv L I D ep σ) {L' : List (Nat × SV)} {D' : List Nat} (h : ∀ j, L'.map (fun p => (p.1, look L j p.1)) = L') (ks : List Nat) (hi : ks.map (fun k => I[k]?) = I'.map some) (hk : ks.Nodup) (hD : ∀ d, d ∈ D → d ∈ D') : ∃ ep', Hv L' I' D' ep' σ :=
  ⟨ep, { (hs.sub h).pick ks hi hk with bd := fun p hp => by rcases ((hs.sub h).pick ks hi hk).bd p hp with h | ⟨h1, h2⟩; exact .inl h; exact .inr ⟨h1, hD _ h2⟩ }⟩
theorem RWp.segD {s : List (Nat × RStep)} (_hs : Hv L I D ep σ) (n : Nat) (L' : List (Nat × SV)) (E : List Nat) (h1 : RWp T X (s.take n) σ fun σ' => ∃ ep', Hv L' I (E ++ D) ep' σ') (h2 : ∀ ep' σ', Hv L' I (E ++ D) ep' σ' → RWp T X (s.drop n) σ' K) : RWp T X s σ K :=
  RWp.split n h1 fun σ' ⟨ep', h⟩ => h2 ep' σ' h

/-! ### Snapshots -/
theorem Hv.lensn (hs : Hv L I D ep σ) {d n : Nat} {x : Opd} {es : List (List Cell)} (hx : ∀ j h nx, St.get ⟨look L j, h, ep, nx⟩ x = .c (.sn ep es)) (hn : es.length = n) (hk : ∀ σ', Hv ((d, .c (.int .i64 (n : Int))) :: L) I D ep σ' → K σ') : IWp T X (some d) (.q (.len x)) σ K :=
  hs.q (fun j h nx => by simp [qval, hx j h nx, hn]) hk
theorem Hv.idxsn (hs : Hv L I D ep σ) {d sz : Nat} {x i : Opd} {α : Type} {xs : List α} {enc : α → List Cell} {n : Int} {a : α} (hx : ∀ j h nx, St.get ⟨look L j, h, ep, nx⟩ x = .c (.sn ep (xs.map enc))) (hi : ∀ j h nx, St.get ⟨look L j, h, ep, nx⟩ i = .c (.int .i64 n))
    (ha : at? xs n = some a) (hl : (enc a).length = sz) (hk : ∀ σ', Hv ((d, .c (.sa ep (enc a) 0)) :: L) I D ep σ' → K σ') : IWp T X (some d) (.q (.idx sz x i)) σ K := by
  obtain ⟨m, rfl, hm⟩ := at?_spec ha
  exact hs.q (fun j h nx => by simp [qval, hx j h nx, hi j h nx, asI, hm, hl]) hk
theorem Hv.fldsa (hs : Hv L I D ep σ) {d off k : Nat} {x : Opd} {cs : List Cell} (hx : ∀ j h nx, St.get ⟨look L j, h, ep, nx⟩ x = .c (.sa ep cs k)) (hk : ∀ σ', Hv ((d, .c (.sa ep cs (k + off))) :: L) I D ep σ' → K σ') : IWp T X (some d) (.q (.fld off x)) σ K :=
  hs.q (fun j h nx => by simp [qval, hx j h nx]) hk
theorem Hv.ldsa (hs : Hv L I D ep σ) {d n k : Nat} {agg : Bool} {x : Opd} {cs ds : List Cell} {v : SV} (hx : ∀ j h nx, St.get ⟨look L j, h, ep, nx⟩ x = .c (.sa ep cs k)) (hc : cut cs k n = some ds) (hv : mkSV agg (ds.map (unsn ep)) = some v) (hk : ∀ σ', Hv ((d, v) :: L) I D ep σ' → K σ') : IWp T X (some d) (.q (.load agg n x)) σ K :=
  hs.q (fun j h nx => by simp only [qval, hx j h nx, if_true, hc, hv]) hk

/-! ### Numbers that may fail -/
def shl? (k : IntKind) (x y : Int) : Option Int := if 0 ≤ y then some (k.wrap (x * 2 ^ (min y.toNat k.bits))) else none
def shr? (k : IntKind) (x y : Int) : Option Int := if 0 ≤ y then some (x.fdiv (2 ^ (min y.toNat k.bits))) else none
def quo? (k : IntKind) (x y : Int) : Option Int := if y ≠ 0 then some (k.wrap (x.tdiv y)) else none
def rem? (_k : IntKind) (x y : Int) : Option Int := if y ≠ 0 then some (x.tmod y) else none
theorem Hv.bin? (hs : Hv L I D ep σ) {d : Nat} {op : BinOp} {x y : Opd} {k k' : IntKind} {a b r : Int} (hx : ∀ j h nx, St.get ⟨look L j, h, ep, nx⟩ x = .c (.int k a)) (hy : ∀ j h nx, St.get ⟨look L j, h, ep, nx⟩ y = .c (.int k' b)) (hr : opInt op k a k' b = some (.int k r))
    (hk : ∀ σ', Hv ((d, .c (.int k r)) :: L) I D ep σ' → K σ') : IWp T X (some d) (.q (.bin op x y)) σ K :=
  hs.q (fun j h nx => by simp only [qval, hx j h nx, hy j h nx, hr, Option.map_some]) hk
theorem shl_ok {k k' : IntKind} {a b r : Int} (h : shl? k a b = some r) : opInt .shl k a k' b = some (.int k r) := by
  unfold shl? at h; split at h
  · rename_i hc; injection h with h; subst h; simp only [opInt, hc, if_true]
  · cases h
theorem shr_ok {k k' : IntKind} {a b r : Int} (h : shr? k a b = some r) : opInt .shr k a k' b = some (.int k r) := by
  unfold shr? at h; split at h
  · rename_i hc; injection h with h; subst h; simp only [opInt, hc, if_true]
  · cases h
theorem quo_ok {k : IntKind} {a b r : Int} (h : quo? k a b = some r) : opInt .quo k a k b = some (.int k r) := by
  unfold quo? at h; split at h
  · rename_i hc; injection h with h; subst h; simp only [opInt, hc, ne_eq, not_false_eq_true, and_self, if_true]
  · cases h
theorem rem_ok {k : IntKind} {a b r : Int} (h : rem? k a b = some r) : opInt .rem k a k b = some (.int k r) := by
  unfold rem? at h; split at h
  · rename_i hc; injection h with h; subst h; simp only [opInt, hc, ne_eq, not_false_eq_true, and_self, if_true]
  · cases h
/-! ### Parts of slices -/
def slc? {α : Type} (xs : List α) (l h : Int) : Option (List α) := if 0 ≤ l ∧ l ≤ h ∧ h ≤ (xs.length : Int) then some ((xs.drop l.toNat).take (h - l).toNat) else none
theorem slc?_spec {α : Type} {xs ys : List α} {l h : Int} (hs : slc? xs l h = some ys) : 0 ≤ l ∧ l ≤ h ∧ h ≤ (xs.length : Int) ∧ ys = (xs.drop l.toNat).take (h - l).toNat := by
  unfold slc? at hs; split at hs
  · rename_i hc; injection hs with hs; exact ⟨hc.1, hc.2.1, hc.2.2, hs.symm⟩
  · cases hs
theorem slc?_len {α : Type} {xs ys : List α} {l h : Int} (hs : slc? xs l h = some ys) : ys.length = (h - l).toNat := by
  obtain ⟨h1, h2, h3, rfl⟩ := slc?_spec hs
  simp; omega
theorem slc?_cut {α : Type} {xs ys : List α} {l h : Int} (enc : α → List Cell) (hs : slc? xs l h = some ys) : cutRow (xs.map enc) l.toNat (h - l).toNat = ys.map enc ∧ l.toNat + (h - l).toNat ≤ (xs.map enc).length := by
  obtain ⟨h1, h2, h3, rfl⟩ := slc?_spec hs
  refine ⟨?_, by simp; omega⟩
  rw [cutRow_eq, List.map_take, List.map_drop]
theorem Hv.slcr (hs : Hv L I D ep σ) {d sz : Nat} {x : Opd} {lo hi : Option Opd} {α : Type} {xs ys : List α} {enc : α → List Cell} {l h : Int} (hy : slc? xs l h = some ys) (hx : ∀ j h nx, St.get ⟨look L j, h, ep, nx⟩ x = .c (.ro (xs.map enc)))
    (hlo : ∀ j h' nx, bnd ⟨look L j, h', ep, nx⟩ 0 lo = some l) (hhi : ∀ j h' nx, bnd ⟨look L j, h', ep, nx⟩ (xs.length : Int) hi = some h) (hl : ∀ a, (enc a).length = sz)
    (hk : ∀ σ', Hv ((d, .c (.ro (ys.map enc))) :: L) I D ep σ' → K σ') : IWp T X (some d) (.q (.slc sz x lo hi)) σ K := by
  obtain ⟨h1, h2, h3, rfl⟩ := slc?_spec hy
  refine hs.q (fun j h' nx => ?_) hk
  have e1 : ((xs.map enc).all fun e => decide (e.length = sz)) = true := by simp [hl]
  simp only [qval, hx j h' nx, List.length_map, hlo, hhi, h1, h2, h3, e1, and_self, if_true, List.map_take, List.map_drop]
theorem Hv.slco (hs : Hv L I D ep σ) {d sz n : Nat} {x : Opd} {lo hi : Option Opd} {α : Type} {xs ys : List α} {enc : α → List Cell} {id : Id} {l h : Int} (k : Nat) (hy : slc? xs l h = some ys) (hk : I[k]? = some (id, ⟨sz, xs.map enc⟩)) (hn : n = xs.length) (hx : ∀ j h nx, St.get ⟨look L j, h, ep, nx⟩ x = .c (.sl id 0 n))
    (hlo : ∀ j h' nx, bnd ⟨look L j, h', ep, nx⟩ 0 lo = some l) (hhi : ∀ j h' nx, bnd ⟨look L j, h', ep, nx⟩ (n : Int) hi = some h)
    (hk2 : ∀ σ', Hv ((d, .c (.sl id l.toNat (h - l).toNat)) :: L) I D ep σ' → K σ') : IWp T X (some d) (.q (.slc sz x lo hi)) σ K := by
  obtain ⟨h1, h2, h3, _⟩ := slc?_spec hy
  subst hn
  obtain ⟨j, hh, nx, e⟩ := hs.eta
  have g1 := hs.get hx
  have r1 := hs.h k _ hk
  have b1 : bnd σ 0 lo = some l := by rw [e]; exact hlo j hh nx
  have b2 : bnd σ (xs.length : Int) hi = some h := by rw [e]; exact hhi j hh nx
  refine IWp.q (x := .c (.sl id l.toNat (h - l).toNat)) ?_ (hk2 _ (hs.put d _))
  simp only [qval, g1, b1, b2, r1, h1, h2, h3, and_self, if_true, Nat.zero_add]
theorem Hv.ren (hs : Hv L I D ep σ) {d sz : Nat} {α : Type} {xs ys : List α} {enc : α → List Cell} {id : Id} {l h : Int} {gs : List GO} (k : Nat) (hy : slc? xs l h = some ys) (hd : d ∉ D) (hk : I[k]? = some (id, ⟨sz, xs.map enc⟩)) (hx : ∀ j', look L j' d = .c (.sl id l.toNat (h - l).toNat))
    (hk2 : ∀ i2 σ', Hv ((d, .c (.sl i2 0 ys.length)) :: L) ((i2, ⟨sz, ys.map enc⟩) :: I.eraseIdx k) (d :: D) ep σ' → GWp N gs σ' K) : GWp N (.ren d :: gs) σ K := by
  obtain ⟨jj, hj⟩ := hs.t
  have h1 : σ.t d = .c (.sl id l.toNat (h - l).toNat) := by rw [hj]; exact hx jj
  have r1 := hs.h k _ hk
  obtain ⟨c1, c2⟩ := slc?_cut enc hy
  have hkl := hs.kill k hk
  have hf : ∀ p ∈ I.eraseIdx k, p.1 ≠ (nm d 1, σ.nx) := hkl.fresh (k := 1) hd (by omega)
  refine GWp.cons (σ1 := (((σ.kill id).setH (nm d 1, σ.nx) (some ⟨sz, ys.map enc⟩)).set d (.c (.sl (nm d 1, σ.nx) 0 (h - l).toNat)))) ?_ (hk2 (nm d 1, σ.nx) _ ?_)
  · simp only [gval, h1, r1, c2, if_true, c1]
  · rw [slc?_len hy]
    refine
      { t := (hkl.put d _).t
        h := fun m p hm => ?_
        nd := ?_
        bd := fun p hp => ?_
        ep := hs.ep }
    · simp only [St.set, St.setH]
      cases m with
      | zero => simp at hm; subst hm; simp
      | succ m =>
        have hm : (I.eraseIdx k)[m]? = some p := by simpa using hm
        rw [if_neg (hf p (List.mem_of_getElem? hm))]
        exact hkl.h m p hm
    · simp only [List.map_cons, List.nodup_cons]
      refine ⟨fun hm => ?_, hkl.nd⟩
      obtain ⟨p, hp, e⟩ := List.mem_map.1 hm
      exact hf p hp e
    · simp only [List.mem_cons] at hp
      rcases hp with rfl | hp
      · right
        refine ⟨rfl, ?_⟩
        have : nm d 1 / 16 = d := by unfold nm; omega
        simp [this]
      · rcases hkl.bd p hp with h | ⟨h1, h2⟩
        · exact .inl h
        · exact .inr ⟨h1, by simp [h2]⟩

theorem Hv.farn (hs : Hv L I D ep σ) {z k : Nat} {id : Id} {i j : Nat} (hsl : ∀ j' h nx, St.get ⟨look L j', h, ep, nx⟩ (.t k) = .c (.ad id i j)) : farOK σ z (.nilck (.t k)) = true := by
  have g : σ.t k = .c (.ad id i j) := hs.get hsl
  simp only [farOK, g]
theorem Hv.farf (hs : Hv L I D ep σ) {z k o : Nat} {id : Id} {i j : Nat} (hsl : ∀ j' h nx, St.get ⟨look L j', h, ep, nx⟩ (.t k) = .c (.ad id i j)) : farOK σ z (.fld o (.t k)) = true := by
  have g : σ.t k = .c (.ad id i j) := hs.get hsl
  simp only [farOK, g]
theorem Hv.farl (hs : Hv L I D ep σ) {z k n : Nat} {ag : Bool} {id : Id} {i j : Nat} {row : Row} {e cs : List Cell} (m : Nat) (hsl : ∀ j' h nx, St.get ⟨look L j', h, ep, nx⟩ (.t k) = .c (.ad id i j)) (h1 : I[m]? = some (id, row)) (hz : row.sz ≠ z) (he : row.es[i]? = some e)
    (hc : cut e j n = some cs) (hst : cs.all Cell.still = true) : farOK σ z (.load ag n (.t k)) = true := by
  have g : σ.t k = .c (.ad id i j) := hs.get hsl
  have r1 := hs.h m _ h1
  simp only [farOK, g, r1, he, hc, hst, Bool.and_true, decide_eq_true_eq]
  exact hz

theorem Hv.eqa (hs : Hv L I D ep σ) {d : Nat} {neg : Bool} {x y : Opd} {cs ds : List Cell} {b : Bool} {ks : List Bool} (hx : ∀ j h nx, St.get ⟨look L j, h, ep, nx⟩ x = .a cs) (hy : ∀ j h nx, St.get ⟨look L j, h, ep, nx⟩ y = .a ds) (hn : cs.map Cell.isInt = ks) (he : eqCells cs ds = some b)
    (hk : ∀ σ', Hv ((d, .c (.bool (if neg then !b else b))) :: L) I D ep σ' → K σ') : IWp T X (some d) (.q (.eqa neg ks x y)) σ K :=
  hs.q (fun j h nx => by simp only [qval, hx j h nx, hy j h nx, hn, if_true, he]) hk
end
end Go.Fw
