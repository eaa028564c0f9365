/- append: the step. -/
import Derived.Test.YtmdddmjmppckhaaFwApp
namespace Go.Fw

section
variable {P : Program} {V : Env} {σ σ' : St} {a : Act} {w w' : World} {G G' : Gh} {ep ep' : Nat}

theorem OwnF.append {F1 F2 : List Nat} (h1 : OwnF V σ w G F1) (h2 : OwnF V σ w G F2) (hd : ∀ b ∈ F1, b ∉ F2) : OwnF V σ w G (F1 ++ F2) :=
  ⟨List.nodup_append.2 ⟨h1.nodup, h2.nodup, fun x hx y hy e => by subst e; exact hd x hx hy⟩,
   fun b hb => (List.mem_append.1 hb).elim (h1.own b) (h2.own b),
   fun b hb id row hr => (List.mem_append.1 hb).elim (fun hb => h1.apart b hb id row hr) (fun hb => h2.apart b hb id row hr)⟩

theorem OwnF.less {F : List Nat} (h : OwnF V σ w G F) (l : Less σ σ') : OwnF V σ' w G F := ⟨h.nodup, h.own, fun b hb id row hr => h.apart b hb id row (l.h id row hr)⟩

theorem Sim.bump (h : Sim V σ a w G) : Sim V { σ with ep := σ.ep + 1 } a w G := by
  have s : Sees G G σ.ep (σ.ep + 1) w w := ⟨Ext.refl G, fun _ _ => rfl, Nat.le_succ _, fun h => by omega⟩
  exact { h with
    slots := fun x hx => RS_sees s (h.slots x hx)
    objs := fun i r hr => let ⟨l, hl, ho⟩ := h.objs i r hr; ⟨l, hl, ObjR_sees s ho fun _ _ => rfl⟩ }

theorem app_ok_spec {N sz bytes : Nat} {s x : Opd} {op : Op} (h : appOK P N sz bytes s x op = true) :
    ∃ y z t e i zv, op = .call ⟨.builtin .append, #[y, z], #[t, t]⟩ ∧ P.underlying t = some (.slice e) ∧ P.info? e = some i ∧ i.size = sz ∧ i.bytes = bytes ∧ i.zero = some zv ∧ zv.cells.size = sz ∧ 0 < sz ∧ opdOK N s y = true ∧ opdOK N x z = true := by
  cases op <;> try (simp [appOK] at h; done)
  rename_i c
  obtain ⟨callee, args, ats⟩ := c
  cases callee <;> try (simp [appOK] at h; done)
  rename_i bi
  cases bi <;> try (simp [appOK] at h; done)
  simp only [appOK] at h
  split at h
  · rename_i y z t t' hargs hats
    simp only [Bool.and_eq_true, decide_eq_true_eq] at h
    obtain ⟨⟨⟨⟨rfl, hu⟩, hpos⟩, hs⟩, hx⟩ := h
    have hargs' : args = #[y, z] := by rw [← Array.toList_inj]; exact hargs
    have hats' : ats = #[t, t] := by rw [← Array.toList_inj]; exact hats
    subst hargs'; subst hats'
    split at hu
    · rename_i e hu'
      split at hu
      · rename_i i hi
        simp only [Bool.and_eq_true, decide_eq_true_eq] at hu
        obtain ⟨⟨h1, h2⟩, h3⟩ := hu
        split at h3
        · rename_i zv hz
          exact ⟨y, z, t, e, i, zv, rfl, hu', hi, h1, h2, hz, by simpa using h3, hpos, hs, hx⟩
        · cases h3
      · cases hu
    · cases hu
  · cases h

/-- A new block for both. -/
theorem app_grow (h : Sim V σ a w G) {d sz n m cap : Nat} {e : TypeId} {zv : Value} (hnew : G.μ (nm d 0, σ.nx) = none) {es1 es2 : List (List Cell)} {v1 v2 : List Value} {F1 F2 : List Nat}
    (hn : es1.length = n) (hm : es2.length = m) (hz : zv.cells.size = sz) (hcap : n + m ≤ cap) (hmax : cap ≤ maxLen)
    (he1 : ∀ x ∈ es1, x.length = sz) (he2 : ∀ x ∈ es2, x.length = sz) (r1 : RFL G σ.ep w es1.flatten v1 F1) (r2 : RFL G σ.ep w es2.flatten v2 F2)
    (ho : OwnF V σ w G (F1 ++ F2)) :
    ∃ G', (∀ i, i ≠ (nm d 0, σ.nx) → G'.μ i = G.μ i) ∧ G'.μ (nm d 0, σ.nx) = some ⟨w.heap.size, 0, cap, sz, true⟩ ∧
      Sim V (σ.newO d ⟨sz, es1 ++ es2⟩) a (w.drew.alloc (.cells (v1.toArray ++ v2.toArray ++ Builtin.zeroCells zv.cells (cap - (n + m))) e)) G' := by
  have hw := h.more (More.drew w)
  have hl1 : v1.length = n * sz := by
    have h0 := RFL_length r1
    have : ∀ es : List (List Cell), (∀ e ∈ es, e.length = sz) → es.flatten.length = es.length * sz := by
      intro es
      induction es with
      | nil => simp
      | cons e es ih => intro h; simp only [List.flatten_cons, List.length_append, List.length_cons, Nat.add_mul]; rw [ih (fun x hx => h x (by simp [hx])), h e (by simp)]; omega
    rw [h0, this es1 he1, hn]
  have hl2 : v2.length = m * sz := by
    have h0 := RFL_length r2
    have : ∀ es : List (List Cell), (∀ e ∈ es, e.length = sz) → es.flatten.length = es.length * sz := by
      intro es
      induction es with
      | nil => simp
      | cons e es ih => intro h; simp only [List.flatten_cons, List.length_append, List.length_cons, Nat.add_mul]; rw [ih (fun x hx => h x (by simp [hx])), h e (by simp)]; omega
    rw [h0, this es2 he2, hm]
  have e' := Gh.add_ext hnew ⟨w.heap.size, 0, cap, sz, true⟩ (w.heap.size :: (F1 ++ F2))
  have ho' : OwnF V σ w.drew G (F1 ++ F2) := ⟨ho.nodup, ho.own, ho.apart⟩
  refine ⟨_, fun i hi => by simp [Gh.add, hi], by simp [Gh.add], hw.newObj (row := ⟨sz, es1 ++ es2⟩) (cap := cap) (Nat.le_refl _) hnew ho' ?_ (by simp [hn, hm]; exact hcap) hmax ?_⟩
  · simp [size_zeroCells, hz, hl1, hl2, ← Nat.add_mul]
    congr 1; omega
  · have m' : More w (w.drew.alloc (.cells (v1.toArray ++ v2.toArray ++ Builtin.zeroCells zv.cells (cap - (n + m))) e)) := (More.drew w).trans (More.alloc _ _)
    refine RFL_RFRow (vs := v1 ++ v2) ?_ (fun x hx => ?_) fun i v hv => ?_
    · rw [List.flatten_append]
      have := RFL_append r1 r2
      exact RFL_sees (m'.sees e' h.stable) this fun b hb => m'.heap b (ho.own b hb).1
    · rcases List.mem_append.1 hx with hx | hx
      · exact he1 x hx
      · exact he2 x hx
    · rw [Nat.zero_add]
      refine cell_alloc w.drew _ e i v ?_
      have hlt := (List.getElem?_eq_some_iff.1 hv).1
      simp only [Array.toList_append]
      rw [List.getElem?_append_left (by simpa using hlt)]
      exact hv

theorem step_app (h : Sim V σ a w G) {sz bytes : Nat} {move : Bool} {s x : Opd} {o : Oper} {d : Nat} (hd : o.dst = some d) (hN : d < V.N) (hnew : ∀ k, k < 16 → G.μ (nm d k, σ.nx) = none)
    (hok : appOK P V.N sz bytes s x o.op = true) (hm : aval σ d sz bytes move s x = some σ') : Step P V σ σ' a w G o d := by
  obtain ⟨dst, op, ty, pos, aft, gd⟩ := o
  simp only at hd
  subst hd
  obtain ⟨y, z, t, e, i, zv, rfl, hu, hi, hsz, hby, hz, hzv, hpos, hs, hx⟩ := app_ok_spec hok
  have hgs := h.get hs
  have hgx := h.get hx
  simp only [aval] at hm
  split at hm
  · rename_i es1 σ1 hb
    split at hm
    · rename_i es2 σ2 hsrc
      split at hm
      · rename_i hbound
        injection hm with hm; subst hm
        obtain ⟨hb1, hb2⟩ := hbound
        -- the run is one of append's
        have hrun : ∀ {v1 v2 : Value} {r : Result Value}, a.eval y = v1 → a.eval z = v2 → (Builtin.append_ #[t, t] ty #[v1, v2]).run P w = r → ∀ v' w', r = .ok v' w' →
            (execOp a.eval ⟨some d, .call ⟨.builtin .append, #[y, z], #[t, t]⟩, ty, pos, aft, gd⟩).run P w = .ok (.value v') w' := by
          rintro v1 v2 r e1 e2 hr v' w' rfl
          simp [execOp, resolve, invoke, builtin, e1, e2, hr]
        -- nothing is there ahead of it
        have none_case : ∀ (base : Option Addr), a.eval y = .slice base 0 0 → es1 = [] → Less σ σ1 → Step P V σ (({ σ2.newO d ⟨sz, es1 ++ es2⟩ with ep := σ.ep + 1 } : St).set d (.c (.sl (nm d 0, σ.nx) 0 (es1.length + es2.length)))) a w G ⟨some d, .call ⟨.builtin .append, #[y, z], #[t, t]⟩, ty, pos, aft, gd⟩ d := by
          rintro base ev rfl hl1
          have h1 := h.less hl1
          obtain ⟨xa, xc, vs, F, src⟩ := asrc_ok (P := P) h1 (by rw [hl1.ep]; exact hgx) hsrc
          have hl2 := hl1.trans src.less
          have h2 := h.less hl2
          by_cases hm0 : es2 = []
          · subst hm0
            obtain ⟨G', e', hμ, hμ', hs'⟩ := h2.newNone (id := (nm d 0, σ.nx)) (by rw [hl2.nx]; exact Nat.le_refl _) (hnew 0 (by omega)) sz
            refine ⟨.slice base 0 0, w, G', .inl (hrun ev src.val (run_app_none hu hi base xa xc) _ _ rfl), ?_, fun i hi => hμ i (hi 0 (by omega))⟩
            have hb := hs'.bump
            rw [show (σ2.setH (nm d 0, σ.nx) (some ⟨sz, []⟩)).ep + 1 = σ.ep + 1 by rw [← hl2.ep]; rfl] at hb
            refine (Sim.set ?_ hN (.c ⟨_, hμ', .inr ⟨rfl, rfl, base, rfl⟩⟩))
            simpa [St.newO, hl2.nx] using hb
          · have hpos2 : 0 < es2.length := List.length_pos_iff.2 hm0
            have hgrow := run_app_grow (w := w) (ty := ty) hu hi hz base xa 0 0 es2.length xc #[] vs.toArray (src_none _ base 0 _) (by rw [hsz]; exact src.cells _ (More.drew w)) (by omega) (by simpa using hb2) (by rw [hby]; simpa using hb1)
            rw [Nat.zero_add] at hgrow
            have hge := grownCap_ge w es2.length 0 e
            have hmx := grownCap_le_maxLen w es2.length 0 e (by simp only [maxLen]; simpa using hb2)
            obtain ⟨G', hμ, hμ', hs'⟩ := app_grow h2 (d := d) (sz := sz) (n := 0) (m := es2.length) (cap := grownCap w es2.length 0 e) (e := e) (zv := zv) (by rw [hl2.nx]; exact hnew 0 (by omega)) (es1 := []) (es2 := es2) (v1 := []) (v2 := vs) (F1 := []) (F2 := F) rfl rfl hzv (by omega) hmx (by simp) src.each rfl (by rw [hl2.ep, ← hl1.ep]; exact src.rep) (by simpa using src.own)
            rw [hl2.nx] at hμ hμ'
            rw [Nat.zero_add] at hs'
            have hb := hs'.bump
            refine ⟨_, _, G', .inl (hrun ev src.val hgrow _ _ rfl), ?_, fun i hi => hμ i (hi 0 (by omega))⟩
            have hep : (σ2.newO d ⟨sz, [] ++ es2⟩).ep = σ.ep := hl2.ep
            rw [hep] at hb
            refine (Sim.set hb hN (.c ⟨_, hμ', .inl ⟨rfl, Nat.lt_of_lt_of_le hpos2 hge, by simpa using hge, ?_⟩⟩))
            simp
        unfold abase at hb
        split at hb
        · rename_i hsv
          injection hb with e; obtain ⟨rfl, rfl⟩ := Prod.mk.inj e
          rw [hsv] at hgs
          have hd : RD w G.S .z _ [] := RS_c hgs
          simp only [RD] at hd
          obtain ⟨⟨ad, ev⟩, _⟩ := hd
          exact none_case ad ev rfl (Less.refl _)
        · rename_i id off len hsv
          split at hb
          · rename_i row hrow
            split at hb
            · rename_i hc
              obtain ⟨hrsz, hle⟩ := hc
              injection hb with e0; obtain ⟨rfl, rfl⟩ := Prod.mk.inj e0
              rw [hsv] at hgs
              obtain ⟨l, hl, hv⟩ := RS_c hgs
              rcases hv with ⟨hblk, hlt, hle2, ev⟩ | ⟨hoc, rfl, ad, ev⟩
              · have hlen : (cutRow row.es off len).length = len := by rw [cutRow_eq]; simp; omega
                have h1 := h.less (Less.kill σ id)
                obtain ⟨xa, xc, vs, F, src⟩ := asrc_ok (P := P) h1 hgx hsrc
                have hl2 := (Less.kill σ id).trans src.less
                have h2 := h.less hl2
                obtain ⟨l', hl', ho1, ho⟩ := h.objs id row hrow
                obtain rfl : l' = l := by rw [hl] at hl'; injection hl' with e; exact e.symm
                have hobj := ho
                rw [if_pos hblk] at ho
                obtain ⟨cur, E, F0, hheap, hcap, hlen2, hmaxl, hFp, hr⟩ := ho
                obtain ⟨Fc, hcut, hsub⟩ := RFRow_cut off len hr hle
                rw [← cutRow_eq] at hcut
                obtain ⟨v1, hv1l, hv1c, hv1r⟩ := RFRow_vals hcut
                rw [hlen, ho1, hrsz] at hv1l
                rw [hlen] at hb1 hb2
                -- blocks of the source are none of this object's
                have hFid : ∀ b ∈ F, b ∉ G.Fp id := fun b hb => by
                  obtain ⟨id2, row2, hr2, hb2⟩ := src.from_ b hb
                  simp only [St.kill, St.setH] at hr2
                  split at hr2
                  · cases hr2
                  · rename_i hne
                    exact h.apart id2 id row2 row hr2 hrow hne b hb2
                by_cases hroom : len + es2.length ≤ l'.cap - off
                · -- room: the block takes it
                  let σm : St := σ2.setH id (some row)
                  have hσ2id : σ2.h id = none := by
                    cases hq : σ2.h id with
                    | none => rfl
                    | some r =>
                      have := src.less.h id r hq
                      simp [St.kill, St.setH] at this
                  have hlm : Less σ σm := ⟨hl2.t, hl2.ep, hl2.nx, fun i r hr => by
                    simp only [σm, St.setH] at hr
                    split at hr
                    · rename_i hi; subst hi; injection hr with hr; subst hr; exact hrow
                    · exact hl2.h i r hr⟩
                  have hm := h.less hlm
                  have hmrow : σm.h id = some row := by simp [σm, St.setH]
                  have hFm : OwnF V σm w G F := ⟨src.own.nodup, src.own.own, fun b hb i r hr => by
                    simp only [σm, St.setH] at hr
                    split at hr
                    · rename_i hi; subst hi; exact hFid b hb
                    · exact src.own.apart b hb i r hr⟩
                  -- what stays ahead, and the whole row
                  obtain ⟨Fp0, hpre, hpsub⟩ := RFRow_cut 0 (off + len) hr (by omega)
                  simp only [List.drop_zero, Nat.zero_mul, Nat.add_zero] at hpre
                  have hprelen : (row.es.take (off + len)).length = off + len := by simp; omega
                  have hK : l'.o + off * l'.sz + len * i.size = l'.o + (off + len) * l'.sz := by rw [hsz, ← hrsz, ← ho1, Nat.add_mul]; omega
                  have hfitc : l'.o + (off + len) * l'.sz + vs.length ≤ cur.size := by
                    rw [src.len, ← hcap, ho1, hrsz, Nat.add_assoc, ← Nat.add_mul]
                    exact Nat.add_le_add_left (Nat.mul_le_mul_right _ (by omega)) _
                  have hroomrun := run_app_room (w := w) (ty := ty) hu hi l'.b (l'.o + off * l'.sz) len (l'.cap - off) es2.length xc xa vs cur E hheap (by rw [hsz]; exact src.cells w (More.refl w)) src.one hroom (by rw [hK]; exact hfitc)
                  rw [hK] at hroomrun
                  have hbnot : l'.b ∉ F := fun hb => hFid _ hb (by rw [hFp]; simp)
                  have hcell := cell_splice (w := w) hheap (K := l'.o + (off + len) * l'.sz) (n := vs.length) (vs := vs) rfl hfitc
                  have other : ∀ b, b ≠ l'.b → (w.setRow l'.b (cur.toList.take (l'.o + (off + len) * l'.sz) ++ vs ++ cur.toList.drop (l'.o + (off + len) * l'.sz + vs.length)).toArray).heap[b]? = w.heap[b]? := fun b hb => setRow_other w l'.b b _ hb
                  have hnd := h.nodup id row hrow
                  rw [hFp] at hnd
                  have hF0b : l'.b ∉ F0 := (List.nodup_cons.1 hnd).1
                  have hbS : ∀ b, G.S b → b ≠ l'.b := fun b hb e => (h.own id row hrow l'.b (by rw [hFp]; simp)).2.1 (by rw [← e]; exact hb)
                  have s0 : Sees G (G.fp id (l'.b :: (Fp0 ++ F))) σ.ep (σ.ep + 1) w (w.setRow l'.b (cur.toList.take (l'.o + (off + len) * l'.sz) ++ vs ++ cur.toList.drop (l'.o + (off + len) * l'.sz + vs.length)).toArray) := write_sees hbS id _
                  have hw := hm.write hmrow hl hblk hheap (cur' := (cur.toList.take (l'.o + (off + len) * l'.sz) ++ vs ++ cur.toList.drop (l'.o + (off + len) * l'.sz + vs.length)).toArray) (by simp; omega) hcap hmaxl
                    (row' := ⟨row.sz, row.es.take (off + len) ++ es2⟩) (F := Fp0 ++ F) rfl (by simp; omega) ?_ ?_ ?_ ?_
                  · obtain ⟨G', e', hμ, hμ', hs'⟩ := hw.rename (id := id) (id' := (nm d 0, σ.nx)) (row := ⟨row.sz, row.es.take (off + len) ++ es2⟩) (l := l') (off := off) (len := len + es2.length) (by simp [St.setH]) hl
                      (by show σ.nx ≤ σm.nx; rw [hlm.nx]; exact Nat.le_refl _) (by show G.μ _ = none; exact hnew 0 (by omega)) (by simp; omega)
                    have hes : ((row.es.take (off + len) ++ es2).drop off).take (len + es2.length) = cutRow row.es off len ++ es2 := by
                      rw [cutRow_eq, List.drop_append_of_le_length (by simp; omega), List.drop_take, show off + len - off = len by omega]
                      rw [List.take_of_length_le (by simp; omega)]
                    simp only [hes] at hs'
                    refine ⟨_, _, G', .inl (hrun ev src.val hroomrun _ _ rfl), ?_, fun i hi => hμ i (hi 0 (by omega))⟩
                    refine (Sim.set (Sim.less hs' ?_) hN (.c ⟨_, hμ', .inl ⟨hblk, ?_, ?_, ?_⟩⟩))
                    · refine ⟨?_, ?_, ?_, fun i r hr => ?_⟩
                      · rfl
                      · show σ.ep + 1 = σm.ep + 1; rw [hlm.ep]
                      · rfl
                      · have hr' : (σ2.newO d ⟨sz, cutRow row.es off len ++ es2⟩).h i = some r := hr
                        simp only [St.newO, St.setH, hl2.nx] at hr'
                        simp only [St.kill, St.setH, σm]
                        split at hr'
                        · rename_i hi; rw [if_pos hi, hrsz]; exact hr'
                        · rename_i hi
                          rw [if_neg hi]
                          by_cases hii : i = id
                          · subst hii; rw [hσ2id] at hr'; cases hr'
                          · rw [if_neg hii, if_neg hii, if_neg hii]; exact hr'
                    · show 0 < l'.cap - off; omega
                    · show 0 + ((cutRow row.es off len).length + es2.length) ≤ l'.cap - off; rw [hlen]; omega
                    · simp [hlen]
                  · -- no block twice
                    refine List.nodup_cons.2 ⟨fun hb => ?_, List.nodup_append.2 ⟨((List.nodup_cons.1 hnd).2).sublist hpsub, hFm.nodup, fun x hx y hy e => ?_⟩⟩
                    · rcases List.mem_append.1 hb with hb | hb
                      · exact hF0b (hpsub.subset hb)
                      · exact hbnot hb
                    · subst e; exact hFid x hy (by rw [hFp]; exact List.mem_cons_of_mem _ (hpsub.subset hx))
                  · intro b hb
                    rcases List.mem_append.1 hb with hb | hb
                    · exact h.own id row hrow b (by rw [hFp]; exact List.mem_cons_of_mem _ (hpsub.subset hb))
                    · exact hFm.own b hb
                  · intro b hb i2 r2 hr2 hne
                    rcases List.mem_append.1 hb with hb | hb
                    · exact hm.apart id i2 row r2 hmrow hr2 (Ne.symm hne) b (by rw [hFp]; exact List.mem_cons_of_mem _ (hpsub.subset hb))
                    · exact hFm.apart b hb i2 r2 hr2
                  · have hep : σm.ep = σ.ep := hlm.ep
                    rw [hep]
                    refine RFRow_append ?_ ?_
                    · exact RFRow_sees s0 l'.b l'.sz _ _ _ (fun x hx hx2 => by rw [hcell x, if_neg (by rw [hprelen] at hx2; omega)]) hpre (fun b hb => other b fun e => hF0b (by rw [← e]; exact hpsub.subset hb))
                    · rw [hprelen]
                      refine RFL_RFRow (RFL_sees s0 src.rep fun b hb => other b fun e => hbnot (by rw [← e]; exact hb)) (by rw [ho1, hrsz]; exact src.each) fun k u hu => ?_
                      have := (List.getElem?_eq_some_iff.1 hu).1
                      rw [hcell, if_pos (by omega), ← hu]; congr 1; omega
                · -- a new block
                  have hFcO : OwnF V σ2 w G Fc := ⟨((h.nodup id row hrow).sublist (by rw [hFp]; exact hsub.trans (List.sublist_cons_self _ _))), fun b hb => h.own id row hrow b (by rw [hFp]; exact List.mem_cons_of_mem _ (hsub.subset hb)), fun b hb id2 row2 hr2 => by
                    have hr3 := src.less.h id2 row2 hr2
                    simp only [St.kill, St.setH] at hr3
                    split at hr3
                    · cases hr3
                    · rename_i hne
                      exact h.apart id id2 row row2 hrow hr3 (Ne.symm hne) b (by rw [hFp]; exact List.mem_cons_of_mem _ (hsub.subset hb))⟩
                  have hgrow := run_app_grow (w := w) (ty := ty) hu hi hz (some ⟨l'.b, l'.o + off * l'.sz, none⟩) xa len (l'.cap - off) es2.length xc v1.toArray vs.toArray
                    (by rw [hsz]; exact src_some hv1l hv1c _ (More.drew w)) (by rw [hsz]; exact src.cells _ (More.drew w)) (by omega) hb2 (by rw [hby]; exact hb1)
                  have hge := grownCap_ge w (len + es2.length) (l'.cap - off) e
                  have hmx := grownCap_le_maxLen w (len + es2.length) (l'.cap - off) e (by simp only [maxLen]; exact hb2)
                  obtain ⟨G', hμ, hμ', hs'⟩ := app_grow h2 (d := d) (sz := sz) (n := len) (m := es2.length) (cap := grownCap w (len + es2.length) (l'.cap - off) e) (e := e) (zv := zv) (by rw [hl2.nx]; exact hnew 0 (by omega))
                    (es1 := cutRow row.es off len) (es2 := es2) (v1 := v1) (v2 := vs) (F1 := Fc) (F2 := F) hlen rfl hzv hge hmx (by rw [← hrsz, ← ho1]; exact RFRow_each hcut) src.each (by rw [hl2.ep]; exact hv1r) (by rw [hl2.ep]; exact src.rep)
                    (hFcO.append src.own fun b hb hb2 => hFid b hb2 (by rw [hFp]; exact List.mem_cons_of_mem _ (hsub.subset hb)))
                  rw [hl2.nx] at hμ hμ'
                  have hb := hs'.bump
                  refine ⟨_, _, G', .inl (hrun ev src.val hgrow _ _ rfl), ?_, fun i hi => hμ i (hi 0 (by omega))⟩
                  have hep : (σ2.newO d ⟨sz, cutRow row.es off len ++ es2⟩).ep = σ.ep := hl2.ep
                  rw [hep] at hb
                  refine (Sim.set hb hN (.c ⟨_, hμ', .inl ⟨rfl, Nat.lt_of_lt_of_le (show 0 < len + es2.length by omega) hge, by simpa [hlen] using hge, ?_⟩⟩))
                  simp [hlen]
              · refine none_case ad ev ?_ (Less.kill σ id)
                exact List.eq_nil_of_length_eq_zero (by rw [cutRow_eq]; simp)
            · cases hb
          · cases hb
        · cases hb
      · cases hm
    · cases hm
  · cases hm

end
end Go.Fw
