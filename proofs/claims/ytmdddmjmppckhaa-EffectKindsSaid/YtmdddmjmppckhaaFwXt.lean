/- The library's functions that the machine does not run itself: by the kit's contracts. -/
import Derived.Test.YtmdddmjmppckhaaFwLz
import Derived.Test.YtmdddmjmppckhaaFwProg
import Derived.Shelf.SortM.Plain
import Derived.Shelf.SortM.SortNone
import Derived.Shelf.SlicesE.Clone
import Derived.Shelf.SlicesG.CompactI
import Derived.Lib.RowBridge
import Derived.Shelf.SlSortCmp.NoneTotal
namespace Go.Fw
open Go.Shelf Go.Sort Go.Proofs

section
variable {P : Program} {ρ : Ren} {w w' : World} {G G' : Gh} {ep : Nat}

theorem cell_cells {b : Nat} {cs : Array Value} {E : TypeId} {fr : Nat × Nat} (h : w.heap[b]? = some (.cells cs E fr)) (k : Nat) : w.cell? ⟨b, k, none⟩ = cs[k]? := by
  simp [World.cell?, h]
theorem frozen_cells {b : Nat} {cs : Array Value} {E : TypeId} (h : w.heap[b]? = some (.cells cs E (0, 0))) (k : Nat) : w.frozen? ⟨b, k, none⟩ = false := by
  simp [World.frozen?, h]

theorem RF_int {c : Int} {v : Value} {F : List Nat} (h : RF G ep w (.int .i64 c) v F) : v = .int .i64 c ∧ F = [] := by
  rcases h with h | ⟨h, rfl⟩
  · simpa [RD] using h
  · exact ⟨by simpa [RX, RD] using h, rfl⟩

theorem ints_of_row {b : Nat} : ∀ {xs : List Int} {o : Nat} {F : List Nat}, RFRow G ep w b 1 o (xs.map eI) F → F = [] ∧ ∀ j (hj : j < xs.length), w.cell? ⟨b, o + j, none⟩ = some (.int .i64 xs[j])
  | [], o, F, h => ⟨by simpa [RFRow] using h, fun j hj => by simp at hj⟩
  | x :: xs, o, F, h => by
    simp only [List.map_cons, RFRow, eI] at h
    obtain ⟨_, F1, F2, rfl, ⟨u, Fa, Fb, rfl, hu, h1, h2⟩, h3⟩ := h
    obtain ⟨rfl, rfl⟩ := RF_int h1
    obtain rfl : Fb = [] := by simpa [RFs] using h2
    obtain ⟨rfl, h4⟩ := ints_of_row h3
    refine ⟨rfl, fun j hj => ?_⟩
    cases j with
    | zero => simpa using hu
    | succ j =>
      have := h4 j (by simpa using hj)
      rw [show o + (j + 1) = o + 1 + j by omega]
      simpa using this

theorem row_of_ints {b : Nat} : ∀ {xs : List Int} {o : Nat}, (∀ j (hj : j < xs.length), w.cell? ⟨b, o + j, none⟩ = some (.int .i64 xs[j])) → RFRow G ep w b 1 o (xs.map eI) []
  | [], o, _ => by simp [RFRow]
  | x :: xs, o, h => by
    simp only [List.map_cons, RFRow, eI]
    refine ⟨rfl, [], [], rfl, ⟨_, [], [], rfl, by simpa using h 0 (by simp), .inl (by simp [RD]), by simp [RFs]⟩, row_of_ints fun j hj => ?_⟩
    have := h (j + 1) (by simpa using hj)
    rw [show o + 1 + j = o + (j + 1) by omega]
    simpa using this

/-! ### The list sorted -/
theorem insI_perm (x : Int) : ∀ ys, (insI x ys).Perm (x :: ys)
  | [] => .refl _
  | y :: ys => by
    simp only [insI]
    split
    · exact .refl _
    · exact ((insI_perm x ys).cons y).trans (.swap x y ys)
theorem isort_perm : ∀ xs, (isort xs).Perm xs
  | [] => .refl _
  | x :: xs => (insI_perm x _).trans ((isort_perm xs).cons x)
theorem insI_sorted (x : Int) : ∀ {ys : List Int}, ys.Pairwise (· ≤ ·) → (insI x ys).Pairwise (· ≤ ·)
  | [], _ => by simp [insI]
  | y :: ys, h => by
    simp only [insI]
    have h' := List.pairwise_cons.1 h
    split
    · rename_i hxy
      exact List.pairwise_cons.2 ⟨fun z hz => by rcases List.mem_cons.1 hz with rfl | hz; exact hxy; exact Int.le_trans hxy (h'.1 z hz), h⟩
    · rename_i hxy
      refine List.pairwise_cons.2 ⟨fun z hz => ?_, insI_sorted x h'.2⟩
      rcases List.mem_cons.1 ((insI_perm x ys).mem_iff.1 hz) with rfl | hz
      · omega
      · exact h'.1 z hz
theorem isort_sorted : ∀ xs, (isort xs).Pairwise (· ≤ ·)
  | [] => .nil
  | x :: xs => insI_sorted x (isort_sorted xs)
theorem isort_merge (xs : List Int) : (xs.mergeSort fun x y => decide (x ≤ y)) = isort xs := by
  refine List.Perm.eq_of_pairwise (le := fun a b : Int => decide (a ≤ b) = true) ?_ ?_ ?_ ((List.mergeSort_perm xs _).trans (isort_perm xs).symm)
  · intro a b _ _ h1 h2; simp at h1 h2; omega
  · exact List.pairwise_mergeSort (fun a b c h1 h2 => by simp at h1 h2 ⊢; omega) (fun a b => by simp; omega) xs
  · exact (isort_sorted xs).imp fun h => by simpa using h

theorem putRow_setRow {α : Type} [Inhabited α] {enc : α → Value} {b off n : Nat} {d : Array α} {cur : Array Value} {E : TypeId} {fr : Nat × Nat} (hh : w.heap[b]? = some (.cells cur E fr)) :
    (putRow enc (Sort.ahead w n) b off d).heap = (w.setRow b (putCells enc off d cur)).heap := by
  apply Array.ext_getElem?
  intro k
  simp only [putRow, mapBlock, Sort.ahead, World.setRow, Array.getElem?_modify]
  by_cases hk : b = k
  · subst hk
    simp only [if_true, hh, Option.map_some, onCells]
  · simp [hk]

theorem sort_ok (Ly : SlLaysM.n5 P ρ) {args : List SV} {ep nx : Nat} {h : Hp} {rvs : List RV} {ep' nx' : Nat} {h' : Hp} (hx : sortX args ep nx h = some (rvs, ep', nx', h')) {w : World} {G : Gh} {E0 : Nat → Prop} {vs : List Value}
    (hs : Sim ⟨w, G.S, E0, 0⟩ (stub ep nx h) act0 w G) (hv : Vals G ep w args vs) : Calls P (ρ.f 5) vs.toArray w (callPost w G E0 ep nx ep' nx' h' rvs) := by
  unfold sortX at hx
  split at hx
  case h_2 => cases hx
  rename_i id n
  split at hx
  case h_2 => cases hx
  rename_i row hrow
  split at hx
  case h_2 => cases hx
  rename_i xs hxs
  split at hx
  case isFalse => cases hx
  rename_i hc
  obtain ⟨hsz, rfl, hlt⟩ := hc
  simp only [Option.some.injEq, Prod.mk.injEq] at hx
  obtain ⟨rfl, rfl, rfl, rfl⟩ := hx
  have hes := toI_some hxs
  obtain ⟨v, rfl, hr⟩ : ∃ v, vs = [v] ∧ RX G ep w (.sl id 0 xs.length) v := by
    cases hv with
    | cons h1 h2 => cases h2; exact ⟨_, rfl, RS_c h1⟩
  obtain ⟨l, hl, ho1, ho⟩ := hs.objs id row hrow
  obtain ⟨sz, es⟩ := row
  simp only at hsz hes
  subst hsz; subst hes
  by_cases h0 : xs = []
  · subst h0
    obtain ⟨p, c, rfl⟩ := RX_sl_len hr
    refine (AnyM.slices_Sort_int_none Ly p c w).mono fun e w1 he => ?_
    obtain ⟨rfl, rfl⟩ := he
    refine ⟨G, [], [], rfl, rfl, ?_, OwnF.nil, fun _ _ => rfl, Nat.le_refl _⟩
    have e : (fun i => if i = id then some ⟨1, (isort []).map eI⟩ else h i) = h := by
      funext i
      by_cases hi : i = id
      · subst hi; simp only [if_true]; exact hrow.symm
      · simp [hi]
    rw [e]
    exact hs.bump
  · obtain ⟨l', hl', hr⟩ := hr
    obtain rfl : l' = l := by rw [hl] at hl'; injection hl' with e; exact e.symm
    have hpos : 0 < xs.length := List.length_pos_iff.2 h0
    rcases hr with ⟨hb, hoff, hcap, rfl⟩ | ⟨_, hz, _⟩
    case inr => omega
    rw [if_pos hb] at ho
    obtain ⟨cur, E, F', hh, hcs, hle, hm, hF, hrow'⟩ := ho
    simp only [ho1] at hcs hrow' ⊢
    obtain ⟨rfl, hcell⟩ := ints_of_row hrow'
    have hblk : l'.b < w.heap.size := (Array.getElem?_eq_some_iff.1 hh).1
    have hH : Holds (Value.int .i64) w l'.b l'.o xs.toArray := fun j hj => by
      have hj' : j < xs.length := by simpa using hj
      refine ⟨?_, frozen_cells hh _⟩
      rw [hcell j hj']
      simp [hj']
    refine (show Calls P (ρ.f 5) #[.slice (some ⟨l'.b, l'.o + 0 * 1, none⟩) xs.length (l'.cap - 0)] w _ from ?_)
    refine (AnyM.slices_Sort_int Ly l'.b l'.o (l'.cap - 0) xs w hH hblk hlt).mono fun e w1 he => ?_
    obtain ⟨rfl, n, os, rfl⟩ := he
    rw [isort_merge]
    have hle' : xs.length ≤ l'.cap := by simpa using hle
    have hcur : ∀ j (hj : j < (isort xs).length), (putCells (Value.int .i64) l'.o (isort xs).toArray cur)[l'.o + j]? = some (.int .i64 (isort xs)[j]) := fun j hj => by
      have hj1 : j < xs.length := by simpa [isort_length] using hj
      have hlt2 : l'.o + j < cur.size := by omega
      simp only [putCells, Array.getElem?_mapIdx, Array.getElem?_eq_getElem hlt2, Option.map_some]
      rw [if_pos ⟨by omega, by simp; omega⟩]
      simp [hj]
    have hsim := hs.write (row' := ⟨1, (isort xs).map eI⟩) (cur' := putCells (Value.int .i64) l'.o (isort xs).toArray cur) (F := []) hrow hl hb hh (by simp [putCells]) (by rw [ho1]; exact hcs) hm rfl (by simpa [isort_length] using hle')
      (by simp) (by simp) (by simp) (by
        rw [ho1]
        refine row_of_ints fun j hj => ?_
        rw [cell_cells (setRow_heap w l'.b cur _ E (0, 0) hh)]
        exact hcur j hj)
    have m : More (w.setRow l'.b (putCells (Value.int .i64) l'.o (isort xs).toArray cur)) (grow (putRow (Value.int .i64) (Sort.ahead w n) l'.b l'.o (isort xs).toArray) os) := by
      have e := putRow_setRow (enc := Value.int .i64) (n := n) (off := l'.o) (d := (isort xs).toArray) hh
      refine ⟨?_, fun b hb => ?_, rfl, rfl, rfl⟩
      · rw [size_grow, e]; omega
      · rw [heap_grow_old _ os (by rw [e]; exact hb), e]
    refine ⟨_, [], [], rfl, rfl, hsim.more m, OwnF.nil, fun _ _ => rfl, Nat.le_refl _⟩

/-! ### slices.Clone -/
open Go.RowKit Go.Lib in
set_option maxHeartbeats 2000000 in
set_option maxRecDepth 100000 in
theorem clone_any (L : SlLaysE0.n41 P ρ) (i0 : TypeInfo) (z : Value) (size bytes : Nat) (hi : P.info? (ρ.t 23) = some i0) (hz0 : i0.zero = some z) (hz1 : i0.size = size) (hz2 : i0.bytes = bytes) (hzs : z.cells.size = size) (hsz : 0 < size)
    (z23 : ∀ w, (Go.sizeOf (ρ.t 23)).run P w = .ok size w) (ad : Addr) (n c : Nat) (news : List Value) (w : World) (hl : news.length = n * size) (hn : n ≤ maxLen) (hbig : n * bytes ≤ 140737488355328)
    (hc : ∀ j u, news[j]? = some u → w.cell? (ad.add j) = some u) (h1 : ∀ u ∈ news, u.oneCell' = true) :
    Calls P (ρ.f 41) #[.slice (some ad) n c] w fun e w' => ∃ v', e = .returned v' ∧ w'.ownsRow w.heap.size (ρ.t 23) size v' n news ∧ Below w.heap.size w w' := by
  have mixed := L.mixed; have t4 := L.t4; have a4 := L.a4; have z4 := L.z4; have v4 := L.v4; have t22 := L.t22; have a22 := L.a22; have z22 := L.z22; have v22 := L.v22
  have q22 : ∀ (w : World) (a : Option Addr) (n c n' c' : Nat), (binOp .eql (ρ.t 22) (.slice a n c) (.slice none n' c')).run P w = .ok (.bool a.isNone) w := fun w a n c n' c' => Lib.run_eql_slice_nil w _ _ a n c n' c' L.t22
  have u22 : ∀ w, Sem.run P (underlying (ρ.t 22)) w = .ok (TypeDesc.slice (ρ.t 23)) w := run_underlying t22
  have A : Aside (∀ j u, news[j]? = some u → w.cell? (ad.add j) = some u) := hc
  clear hc
  obtain ⟨_, _, FG⟩ := L.f41
  go_enter FG, SlBodyN.n41_ntmps ρ
  go_wp2_with (at_builtin; refine wpList_append_own _ rfl _ _ (ρ.t 22) rfl w.heap.size (ρ.t 23) i0 z size bytes t22 hi hz0 hz1 hz2 hzs hsz _ _ _ rfl (World.ownsRow_made w #[] 0 (Nat.le_refl _) (Nat.zero_le _) (by simp)) ad n c news rfl ?qc1 ?qc2 ?qc3 ?qc4 ?qc5 ?qc6 ?_)
  case qc1 => exact hl
  case qc2 =>
    intro j u hj
    exact Lib.cell?_alloc_some _ (A.out j u hj)
  case qc3 => exact h1
  case qc4 => rw [Nat.zero_add]; exact hn
  case qc5 => rw [Nat.zero_add]; exact hbig
  case qc6 => simp
  intro v' w1 hown hgrow hnil
  go_wp2
  go_ret
  refine ⟨v', rfl, by simpa using hown, ?_⟩
  · exact ((Below.refl _ w).alloc (Nat.le_refl _) _).grown hgrow (by simp) (by intro k hk; simp [Value.ownBlock] at hk; omega)

theorem RCs_copy {S : Nat → Prop} {b : Nat} : ∀ {cs : List Cell} {k : Nat}, RCs w S b k cs [] → cs.all Cell.copy = true → ∃ vs : List Value, vs.length = cs.length ∧ (∀ (i : Nat) (v : Value), vs[i]? = some v → w.cell? ⟨b, k + i, none⟩ = some v) ∧ (∀ u ∈ vs, u.oneCell' = true) ∧
    ∀ (w' : World) (b' k' : Nat), (∀ x, S x → w'.heap[x]? = w.heap[x]?) → (∀ (i : Nat) (v : Value), vs[i]? = some v → w'.cell? ⟨b', k' + i, none⟩ = some v) → RCs w' S b' k' cs []
  | [], k, _, _ => ⟨[], rfl, by simp, by simp, fun _ _ _ _ _ => by simp [RCs]⟩
  | c :: cs, k, h, hc => by
    simp only [RCs] at h
    obtain ⟨u, F1, F2, hF, hu, h1, h2⟩ := h
    obtain ⟨rfl, rfl⟩ : F1 = [] ∧ F2 = [] := by simpa using hF.symm
    simp only [List.all_cons, Bool.and_eq_true] at hc
    obtain ⟨vs, hl, hv, ho, hr⟩ := RCs_copy h2 hc.2
    refine ⟨u :: vs, by simp [hl], fun i v hi => ?_, fun x hx => ?_, fun w' b' k' hS hv' => ?_⟩
    · cases i with
      | zero => simp at hi; subst hi; exact hu
      | succ i => rw [show k + (i + 1) = k + 1 + i by omega]; exact hv i v (by simpa using hi)
    · rcases List.mem_cons.1 hx with rfl | hx
      · exact RD_oneCell (by rintro rfl; simp [Cell.copy] at hc) h1
      · exact ho x hx
    · simp only [RCs]
      refine ⟨u, [], [], rfl, by simpa using hv' 0 u rfl, RD_mono (fun x hx => ⟨hx, hS x hx⟩) _ _ _ h1 (by simp), hr w' b' (k' + 1) hS fun i v hi => ?_⟩
      rw [show k' + 1 + i = k' + (i + 1) by omega]
      exact hv' (i + 1) v (by simpa using hi)

theorem RRow_copy {S : Nat → Prop} {b sz : Nat} : ∀ {es : List (List Cell)} {o : Nat}, RRow w S b sz o es [] → es.all (fun e => e.all Cell.copy) = true → ∃ vs : List Value, vs.length = es.length * sz ∧ (∀ (i : Nat) (v : Value), vs[i]? = some v → w.cell? ⟨b, o + i, none⟩ = some v) ∧
    (∀ u ∈ vs, u.oneCell' = true) ∧ ∀ (w' : World) (b' o' : Nat), (∀ x, S x → w'.heap[x]? = w.heap[x]?) → (∀ (i : Nat) (v : Value), vs[i]? = some v → w'.cell? ⟨b', o' + i, none⟩ = some v) → RRow w' S b' sz o' es []
  | [], o, _, _ => ⟨[], by simp, by simp, by simp, fun _ _ _ _ _ => by simp [RRow]⟩
  | e :: es, o, h, hc => by
    simp only [RRow] at h
    obtain ⟨hl, F1, F2, hF, h1, h2⟩ := h
    obtain ⟨rfl, rfl⟩ : F1 = [] ∧ F2 = [] := by simpa using hF.symm
    simp only [List.all_cons, Bool.and_eq_true] at hc
    obtain ⟨v1, l1, c1, o1, r1⟩ := RCs_copy h1 hc.1
    obtain ⟨v2, l2, c2, o2, r2⟩ := RRow_copy h2 hc.2
    refine ⟨v1 ++ v2, by simp [l1, l2, hl, Nat.add_mul]; omega, fun i v hv => ?_, fun x hx => ?_, fun w' b' o' hS hv' => ?_⟩
    · by_cases h3 : i < v1.length
      · rw [List.getElem?_append_left h3] at hv; exact c1 i v hv
      · rw [List.getElem?_append_right (by omega)] at hv
        rw [← c2 _ v hv]; congr 2; omega
    · rcases List.mem_append.1 hx with hx | hx
      · exact o1 x hx
      · exact o2 x hx
    · simp only [RRow]
      refine ⟨hl, [], [], rfl, r1 w' b' o' hS fun i v hi => hv' i v (by rw [List.getElem?_append_left (List.getElem?_eq_some_iff.1 hi).1]; exact hi), r2 w' b' (o' + sz) hS fun i v hi => ?_⟩
      rw [show o' + sz + i = o' + (v1.length + i) by omega]
      exact hv' (v1.length + i) v (by rw [List.getElem?_append_right (by omega)]; simpa using hi)

theorem clone_ok (L : SlLaysE0.n41 P ρ) (i0 : TypeInfo) (z : Value) (size bytes : Nat) (hi : P.info? (ρ.t 23) = some i0) (hz0 : i0.zero = some z) (hz1 : i0.size = size) (hz2 : i0.bytes = bytes) (hzs : z.cells.size = size) (hsz : 0 < size)
    (z23 : ∀ w, (Go.sizeOf (ρ.t 23)).run P w = .ok size w)
    {args : List SV} {ep nx : Nat} {h : Hp} {rvs : List RV} {ep' nx' : Nat} {h' : Hp} (hx : cloneX size bytes args ep nx h = some (rvs, ep', nx', h')) {w : World} {G : Gh} {E0 : Nat → Prop} {vs : List Value}
    (hs : Sim ⟨w, G.S, E0, 0⟩ (stub ep nx h) act0 w G) (hv : Vals G ep w args vs) : Calls P (ρ.f 41) vs.toArray w (callPost w G E0 ep nx ep' nx' h' rvs) := by
  unfold cloneX at hx
  split at hx
  case h_2 => cases hx
  rename_i es
  split at hx
  case isFalse => cases hx
  rename_i hc
  simp only [Bool.and_eq_true, decide_eq_true_eq, List.all_eq_true] at hc
  obtain ⟨⟨hes, hb1⟩, hb2⟩ := hc
  have hcopy : es.all (fun e => e.all Cell.copy) = true := by
    simp only [List.all_eq_true]; exact fun e he => (hes e he).2
  simp only [Option.some.injEq, Prod.mk.injEq] at hx
  obtain ⟨rfl, rfl, rfl, rfl⟩ := hx
  obtain ⟨v, rfl, hr⟩ : ∃ v, vs = [v] ∧ RX G ep w (.ro es) v := by
    cases hv with
    | cons h1 h2 => cases h2; exact ⟨_, rfl, RS_c h1⟩
  have hr' : RD w G.S (.ro es) v [] := hr
  simp only [RD] at hr'
  obtain ⟨_, a, cap, rfl, hcap, hrow⟩ := hr'
  have finish : ∀ (u : Value) (w1 : World) (news : List Value), news.length = es.length * size → w1.ownsRow w.heap.size (ρ.t 23) size u es.length news → Go.RowKit.Below w.heap.size w w1 →
      (∀ (w' : World) (b' o' : Nat), (∀ x, G.S x → w'.heap[x]? = w.heap[x]?) → (∀ (i : Nat) (v : Value), news[i]? = some v → w'.cell? ⟨b', o' + i, none⟩ = some v) → RRow w' G.S b' size o' es []) →
      callPost w G E0 ep nx ep nx h [(false, [.ow size es])] (.returned u) w1 := by
    intro u w1 news hnl hown hbel hrr
    have m : More w w1 := ⟨hbel.size, hbel.block, hbel.os, hbel.tape, hbel.output⟩
    rcases hown.2 with ⟨rfl, h0⟩ | ⟨g, cap', cur, rfl, hge, hg, hle, hmx, hcs, htk⟩
    · have he : es = [] := List.length_eq_zero_iff.1 h0
      subst he
      exact ⟨G, [_], [], rfl, ⟨[], [], rfl, ⟨[_], ⟨[], [], rfl, .inl (by simp only [RD]; exact .inl ⟨trivial, trivial, none, rfl⟩), rfl⟩, .inr ⟨rfl, _, rfl, rfl⟩⟩, rfl⟩, hs.more m, OwnF.nil, fun _ _ => rfl, Nat.le_refl _⟩
    · have hglt : g < w1.heap.size := (Array.getElem?_eq_some_iff.1 hg).1
      have hrow1 : RRow w1 G.S g size 0 es [] := hrr w1 g 0 (fun x hx => m.heap x (hs.stable x hx)) fun i v hi => by
        rw [cell_cells hg, Nat.zero_add, ← Array.getElem?_toList]
        have hlt := (List.getElem?_eq_some_iff.1 hi).1
        rw [← htk, List.getElem?_take] at hi
        split at hi
        · exact hi
        · cases hi
      refine ⟨G, [_], [g], rfl, ⟨[g], [], rfl, ⟨[_], ⟨[g], [], rfl, .inl ?_, rfl⟩, .inr ⟨rfl, _, rfl, rfl⟩⟩, rfl⟩, hs.more m, ⟨by simp, fun b hb => ?_, fun b hb id row hid hm => ?_⟩, fun _ _ => rfl, Nat.le_refl _⟩
      · simp only [RD]
        exact .inr ⟨g, 0, cap', cur, _, [], rfl, hg, by rw [Nat.zero_add]; exact hcs.symm, hle, hmx, rfl, hrow1⟩
      · obtain rfl : b = g := by simpa using hb
        refine ⟨hglt, fun hS => ?_, .inr hge⟩
        have := hs.stable b hS
        omega
      · obtain rfl : b = g := by simpa using hb
        have := (hs.own id row hid b hm).1
        omega
  have z0 : ∀ (x : Option Addr), x = a → es = [] → es.length = 0 := fun _ _ h => by simp [h]
  cases a with
  | none =>
    have he : es = [] := by
      by_cases h0 : es = []
      · exact h0
      · obtain ⟨b, o, sz, ha, _⟩ := hrow h0; cases ha
    subst he
    refine (AnyE.slices_Clone_nil L 0 cap w).mono fun e w1 hp => ?_
    obtain ⟨rfl, rfl⟩ := hp
    exact finish _ _ [] (by simp) ⟨by simp, .inl ⟨rfl, rfl⟩⟩ (Go.RowKit.Below.refl _ _) fun _ _ _ _ _ => by simp [RRow]
  | some ad =>
    by_cases h0 : es = []
    · subst h0
      refine (clone_any L i0 z size bytes hi hz0 hz1 hz2 hzs hsz z23 ad 0 cap [] w (by simp) (by simp) (by simp) (by simp) (by simp)).mono fun e w1 hp => ?_
      obtain ⟨u, rfl, hown, hbel⟩ := hp
      exact finish u w1 [] (by simp) hown hbel fun _ _ _ _ _ => by simp [RRow]
    · obtain ⟨b, o, sz, ha, hS, hrow'⟩ := hrow h0
      injection ha with ha; subst ha
      have hsz' : sz = size := by
        cases es with
        | nil => exact absurd rfl h0
        | cons e es =>
          simp only [RRow] at hrow'
          exact hrow'.1.symm.trans (hes e (by simp)).1
      subst hsz'
      obtain ⟨news, hl, hcell, hone, hrr⟩ := RRow_copy hrow' hcopy
      refine (clone_any L i0 z sz bytes hi hz0 hz1 hz2 hzs hsz z23 ⟨b, o, none⟩ es.length cap news w hl (by simpa [maxLen] using hb2) hb1 (fun j u hj => by rw [Addr.add_lit]; exact hcell j u hj) hone).mono fun e w1 hp => ?_
      obtain ⟨u, rfl, hown, hbel⟩ := hp
      exact finish u w1 news hl hown hbel hrr

/-! ### slices.Compact -/
def chain (p : Int) : List Int → List Int
  | [] => []
  | y :: ys => if y = p then chain y ys else y :: chain y ys
theorem dedup_chain : ∀ (x : Int) (xs : List Int), dedup (x :: xs) = x :: chain x xs
  | x, [] => rfl
  | x, y :: ys => by
    simp only [dedup, chain]
    by_cases h : x = y
    · subst h; rw [if_pos rfl, if_pos rfl, dedup_chain]
    · rw [if_neg h, if_neg (fun e => h e.symm), dedup_chain]
theorem compact_chain : ∀ (rest pre : List Int) (p : Int), ((List.range' (pre.length + 1) rest.length).filter (Lib.keeps (pre ++ p :: rest).toArray)).map ((pre ++ p :: rest).toArray[·]!) = chain p rest
  | [], pre, p => rfl
  | y :: ys, pre, p => by
    have ih := compact_chain ys (pre ++ [p]) y
    have e : pre ++ [p] ++ y :: ys = pre ++ p :: y :: ys := by simp
    rw [e] at ih
    have g1 : (pre ++ p :: y :: ys).toArray[pre.length + 1]! = y := by simp [getElem!_pos]
    have g0 : (pre ++ p :: y :: ys).toArray[pre.length]! = p := by simp [getElem!_pos]
    have hk : Lib.keeps (pre ++ p :: y :: ys).toArray (pre.length + 1) = decide (y ≠ p) := by
      simp only [Lib.keeps, Nat.add_sub_cancel, g1, g0]
      simp
    rw [List.length_cons, List.range'_succ, List.filter_cons, hk]
    simp only [chain]
    have ih' : ((List.range' (pre.length + 1 + 1) ys.length).filter (Lib.keeps (pre ++ p :: y :: ys).toArray)).map ((pre ++ p :: y :: ys).toArray[·]!) = chain y ys := by
      simpa using ih
    by_cases h : y = p
    · simp only [h, ne_eq, not_true_eq_false, decide_false, Bool.false_eq_true, if_false, if_true]
      rw [h] at ih'; exact ih'
    · simp only [h, ne_eq, not_false_eq_true, decide_true, if_true, if_false, List.map_cons, g1]
      rw [ih']
theorem compact_dedup : ∀ zs : List Int, Lib.compact zs = dedup zs
  | [] => rfl
  | x :: xs => by
    rw [dedup_chain]
    unfold Lib.compact Lib.compactUpTo
    have h := compact_chain xs [] x
    rw [List.length_cons, List.range_eq_range', List.range'_succ, List.filter_cons]
    have hk : Lib.keeps (x :: xs).toArray 0 = true := by simp [Lib.keeps]
    rw [hk]
    simp only [if_true, List.map_cons]
    rw [show (0 : Nat) + 1 = ([] : List Int).length + 1 from rfl]
    rw [List.nil_append] at h
    rw [h]
    simp
theorem dedup_length_le (zs : List Int) : (dedup zs).length ≤ zs.length := by rw [← compact_dedup]; exact Lib.compact_length_le zs

theorem dataRow_ints (ys : List Int) : dataRow (ys.map eI) = true := by
  simp only [dataRow, List.all_map, List.all_eq_true]
  intro y _; rfl

/-- An object of whole numbers handed back: what the caller gets. -/
theorem hand_back {w w1 : World} {G G1 : Gh} {E0 : Nat → Prop} {ep nx : Nat} {h : Hp} {id : Id} {ys : List Int} {v : Value} (hμ : ∀ i : Id, i.2 ≤ nx → G1.μ i = G.μ i)
    (hs : Sim ⟨w, G.S, E0, 0⟩ (stub (ep + 1) nx fun i => if i = id then some ⟨1, ys.map eI⟩ else h i) act0 w1 G1) (hv : RX G1 (ep + 1) w1 (.sl id 0 ys.length) v) :
    callPost w G E0 ep nx (ep + 1) nx (fun i => if i = id then none else h i) [(false, [.ow 1 (ys.map eI)])] (.returned v) w1 := by
  have hc : close1 1 (stub (ep + 1) nx fun i => if i = id then some ⟨1, ys.map eI⟩ else h i) (.sl id 0 ys.length) = some (.ow 1 (ys.map eI), (stub (ep + 1) nx fun i => if i = id then some ⟨1, ys.map eI⟩ else h i).kill id) := by
    simp only [close1, stub, if_true, dataRow_ints, List.length_map, and_self]
  obtain ⟨hl, F, hf, ho, _⟩ := close1_ok hs hv hc
  have hs2 := hs.less hl
  have e : ((stub (ep + 1) nx fun i => if i = id then some ⟨1, ys.map eI⟩ else h i).kill id) = stub (ep + 1) nx fun i => if i = id then none else h i := by
    simp only [stub, St.kill, St.setH]
    congr 1
    funext i
    by_cases hi : i = id <;> simp [hi]
  rw [e] at hs2 ho
  exact ⟨G1, [v], F, rfl, ⟨F, [], by simp, ⟨[v], ⟨F, [], by simp, hf, rfl⟩, .inr ⟨rfl, v, rfl, rfl⟩⟩, rfl⟩, hs2, ho, hμ, Nat.le_refl _⟩

theorem compact_ok (Ly : SlLaysN.n43 P ρ) {args : List SV} {ep nx : Nat} {h : Hp} {rvs : List RV} {ep' nx' : Nat} {h' : Hp} (hx : compactX args ep nx h = some (rvs, ep', nx', h')) {w : World} {G : Gh} {E0 : Nat → Prop} {vs : List Value}
    (hs : Sim ⟨w, G.S, E0, 0⟩ (stub ep nx h) act0 w G) (hv : Vals G ep w args vs) : Calls P (ρ.f 43) vs.toArray w (callPost w G E0 ep nx ep' nx' h' rvs) := by
  unfold compactX at hx
  split at hx
  case h_2 => cases hx
  rename_i id n
  split at hx
  case h_2 => cases hx
  rename_i row hrow
  split at hx
  case h_2 => cases hx
  rename_i xs hxs
  split at hx
  case isFalse => cases hx
  rename_i hc
  obtain ⟨hsz, rfl, hlt⟩ := hc
  simp only [Option.some.injEq, Prod.mk.injEq] at hx
  obtain ⟨rfl, rfl, rfl, rfl⟩ := hx
  have hes := toI_some hxs
  obtain ⟨v, rfl, hr⟩ : ∃ v, vs = [v] ∧ RX G ep w (.sl id 0 xs.length) v := by
    cases hv with
    | cons h1 h2 => cases h2; exact ⟨_, rfl, RS_c h1⟩
  obtain ⟨l, hl, ho1, ho⟩ := hs.objs id row hrow
  obtain ⟨sz, es⟩ := row
  simp only at hsz hes
  subst hsz; subst hes
  by_cases h0 : xs = []
  · subst h0
    have hr0 := hr
    obtain ⟨p, c, rfl⟩ := RX_sl_len hr
    refine (AnyG.slices_Compact_int_empty Ly p c w).mono fun e w1 he => ?_
    obtain ⟨rfl, rfl⟩ := he
    have e : (fun i => if i = id then some ⟨1, (dedup []).map eI⟩ else h i) = h := by
      funext i
      by_cases hi : i = id
      · subst hi; simp only [if_true]; exact hrow.symm
      · simp [hi]
    refine hand_back (ys := dedup []) (fun _ _ => rfl) (by rw [e]; exact hs.bump) ?_
    exact RX_sees (⟨Ext.refl G, fun _ _ => rfl, Nat.le_succ _, fun e => by omega⟩ : Sees G G ep (ep + 1) w1 w1) hr0
  · obtain ⟨l', hl', hr⟩ := hr
    obtain rfl : l' = l := by rw [hl] at hl'; injection hl' with e; exact e.symm
    have hpos : 0 < xs.length := List.length_pos_iff.2 h0
    rcases hr with ⟨hb, hoff, hcap, rfl⟩ | ⟨_, hz, _⟩
    case inr => omega
    rw [if_pos hb] at ho
    obtain ⟨cur, E, F', hh, hcs, hle, hm, hF, hrow'⟩ := ho
    simp only [ho1] at hcs hrow' ⊢
    obtain ⟨rfl, hcell⟩ := ints_of_row hrow'
    have hH : Holds (Value.int .i64) w l'.b l'.o xs.toArray := fun j hj => by
      have hj' : j < xs.length := by simpa using hj
      refine ⟨?_, frozen_cells hh _⟩
      rw [hcell j hj']
      simp [hj']
    have hle' : xs.length ≤ l'.cap := by simpa using hle
    refine (show Calls P (ρ.f 43) #[.slice (some ⟨l'.b, l'.o + 0 * 1, none⟩) xs.length (l'.cap - 0)] w _ from ?_)
    refine (AnyG.slices_Compact_int Ly l'.b l'.o (l'.cap - 0) xs w hH (by omega) (by omega)).mono fun e w1 he => ?_
    obtain ⟨rfl, n, rfl⟩ := he
    rw [compact_dedup]
    have hdl := dedup_length_le xs
    have hcur : ∀ j (hj : j < (dedup xs).length), (putCells (Value.int .i64) l'.o (dedup xs ++ List.replicate (xs.length - (dedup xs).length) 0).toArray cur)[l'.o + j]? = some (.int .i64 (dedup xs)[j]) := fun j hj => by
      have hlt2 : l'.o + j < cur.size := by omega
      simp only [putCells, Array.getElem?_mapIdx, Array.getElem?_eq_getElem hlt2, Option.map_some]
      rw [if_pos ⟨by omega, by simp; omega⟩]
      have : (dedup xs ++ List.replicate (xs.length - (dedup xs).length) 0).toArray[l'.o + j - l'.o]! = (dedup xs)[j] := by
        rw [Nat.add_sub_cancel_left, getElem!_pos _ _ (by simp; omega)]
        simp [List.getElem_append_left hj]
      rw [this]
    have hsim := hs.write (row' := ⟨1, (dedup xs).map eI⟩) (cur' := putCells (Value.int .i64) l'.o (dedup xs ++ List.replicate (xs.length - (dedup xs).length) 0).toArray cur) (F := []) hrow hl hb hh (by simp [putCells]) (by rw [ho1]; exact hcs) hm rfl (by simp; omega)
      (by simp) (by simp) (by simp) (by
        rw [ho1]
        refine row_of_ints fun j hj => ?_
        rw [cell_cells (setRow_heap w l'.b cur _ E (0, 0) hh)]
        exact hcur j hj)
    have m : More (w.setRow l'.b (putCells (Value.int .i64) l'.o (dedup xs ++ List.replicate (xs.length - (dedup xs).length) 0).toArray cur)) (putRow (Value.int .i64) (Sort.ahead w n) l'.b l'.o (dedup xs ++ List.replicate (xs.length - (dedup xs).length) 0).toArray) := by
      have e := putRow_setRow (enc := Value.int .i64) (n := n) (off := l'.o) (d := (dedup xs ++ List.replicate (xs.length - (dedup xs).length) 0).toArray) hh
      exact ⟨by rw [e]; omega, fun b hb => by rw [e], rfl, rfl, rfl⟩
    refine hand_back (G1 := G.fp id [l'.b]) (ys := dedup xs) (fun _ _ => rfl) (hsim.more m) ?_
    exact ⟨l', hl, .inl ⟨hb, by omega, by omega, by rw [Nat.zero_mul]; rfl⟩⟩

/-! ### slices.SortFunc of lists, by their firsts -/
theorem rows_of {b : Nat} : ∀ {xs : List (List Int)} {o : Nat} {F : List Nat}, RFRow G ep w b 1 o (xs.map (eO 1 eI)) F → ∃ ts : List (List Int × Value × List Nat), xs = ts.map (·.1) ∧ F = (ts.map (·.2.2)).flatten ∧
    ∀ j (hj : j < ts.length), w.cell? ⟨b, o + j, none⟩ = some ts[j].2.1 ∧ RF G ep w (.ow 1 (ts[j].1.map eI)) ts[j].2.1 ts[j].2.2
  | [], o, F, h => ⟨[], rfl, by simpa [RFRow] using h, fun j hj => by simp at hj⟩
  | x :: xs, o, F, h => by
    simp only [List.map_cons, RFRow, eO] at h
    obtain ⟨_, F1, F2, rfl, ⟨u, Fa, Fb, rfl, hu, h1, h2⟩, h3⟩ := h
    obtain rfl : Fb = [] := by simpa [RFs] using h2
    obtain ⟨ts, rfl, rfl, h4⟩ := rows_of h3
    refine ⟨(x, u, Fa) :: ts, by simp, by simp, fun j hj => ?_⟩
    cases j with
    | zero => exact ⟨by simpa using hu, by simpa using h1⟩
    | succ j =>
      have := h4 j (by simpa using hj)
      rw [show o + (j + 1) = o + 1 + j by omega]
      simpa using this
theorem rows_to {b : Nat} : ∀ {ts : List (List Int × Value × List Nat)} {o : Nat}, (∀ j (hj : j < ts.length), w.cell? ⟨b, o + j, none⟩ = some ts[j].2.1 ∧ RF G ep w (.ow 1 (ts[j].1.map eI)) ts[j].2.1 ts[j].2.2) →
    RFRow G ep w b 1 o ((ts.map (·.1)).map (eO 1 eI)) (ts.map (·.2.2)).flatten
  | [], o, _ => by simp [RFRow]
  | t :: ts, o, h => by
    simp only [List.map_cons, RFRow, eO, List.flatten_cons]
    have h0 := h 0 (by simp)
    refine ⟨rfl, t.2.2, _, rfl, ⟨t.2.1, t.2.2, [], by simp, by simpa using h0.1, by simpa using h0.2, by simp [RFs]⟩, rows_to fun j hj => ?_⟩
    have := h (j + 1) (by simpa using hj)
    rw [show o + 1 + j = o + (j + 1) by omega]
    simpa using this

theorem insF_perm (x : List Int) : ∀ ys, (insF x ys).Perm (x :: ys)
  | [] => .refl _
  | y :: ys => by
    simp only [insF]
    split
    · exact .refl _
    · exact ((insF_perm x ys).cons y).trans (.swap x y ys)
theorem fsort_perm : ∀ xs, (fsort xs).Perm xs
  | [] => .refl _
  | x :: xs => (insF_perm x _).trans ((fsort_perm xs).cons x)
theorem insF_sorted (x : List Int) : ∀ {ys : List (List Int)}, ys.Pairwise (fun a b => a.headD 0 ≤ b.headD 0) → (insF x ys).Pairwise (fun a b => a.headD 0 ≤ b.headD 0)
  | [], _ => by simp [insF]
  | y :: ys, h => by
    simp only [insF]
    have h' := List.pairwise_cons.1 h
    split
    · rename_i hxy
      exact List.pairwise_cons.2 ⟨fun z hz => by rcases List.mem_cons.1 hz with rfl | hz; exact hxy; exact Int.le_trans hxy (h'.1 z hz), h⟩
    · rename_i hxy
      refine List.pairwise_cons.2 ⟨fun z hz => ?_, insF_sorted x h'.2⟩
      rcases List.mem_cons.1 ((insF_perm x ys).mem_iff.1 hz) with rfl | hz
      · omega
      · exact h'.1 z hz
theorem fsort_sorted : ∀ xs, (fsort xs).Pairwise (fun a b => a.headD 0 ≤ b.headD 0)
  | [] => .nil
  | x :: xs => insF_sorted x (fsort_sorted xs)
theorem nodup_map_inj {α β : Type} {f : α → β} : ∀ {l : List α}, (l.map f).Nodup → ∀ {a b : α}, a ∈ l → b ∈ l → f a = f b → a = b
  | [], _, a, _, ha, _, _ => by cases ha
  | x :: l, h, a, b, ha, hb, e => by
    simp only [List.map_cons, List.nodup_cons] at h
    by_cases h1 : a = x
    · by_cases h2 : b = x
      · rw [h1, h2]
      · have hb' : b ∈ l := (List.mem_cons.1 hb).resolve_left h2
        exact absurd (List.mem_map.2 ⟨b, hb', by rw [← e, h1]⟩) h.1
    · have ha' : a ∈ l := (List.mem_cons.1 ha).resolve_left h1
      by_cases h2 : b = x
      · exact absurd (List.mem_map.2 ⟨a, ha', by rw [e, h2]⟩) h.1
      · exact nodup_map_inj h.2 ha' ((List.mem_cons.1 hb).resolve_left h2) e
theorem nodup_get_inj {α : Type} {l : List α} (h : l.Nodup) {i j : Nat} (hi : i < l.length) (hj : j < l.length) (e : l[i] = l[j]) : i = j := by
  have hp := List.pairwise_iff_getElem.1 h
  rcases Nat.lt_trichotomy i j with h1 | h1 | h1
  · exact absurd e (hp i j hi hj h1)
  · exact h1
  · exact absurd e.symm (hp j i hj hi h1)

/-- What is asked of the comparison. -/
def ByFirst (P : Program) (g : FuncId) : Prop := ∀ (W : World) (b1 o1 n1 c1 b2 o2 n2 c2 : Nat) (x y : Int), 0 < n1 → 0 < n2 → W.cell? ⟨b1, o1, none⟩ = some (.int .i64 x) → W.cell? ⟨b2, o2, none⟩ = some (.int .i64 y) →
  (-4611686018427387904 < x ∧ x < 4611686018427387904) → (-4611686018427387904 < y ∧ y < 4611686018427387904) →
  Calls P g #[.slice (some ⟨b1, o1, none⟩) n1 c1, .slice (some ⟨b2, o2, none⟩) n2 c2] W fun e w' => e = .returned (.int .i64 (x - y)) ∧ ∃ q, w' = W.drewN q

theorem ow_first {x : List Int} {v : Value} {F : List Nat} (h : RF G ep w (.ow 1 (x.map eI)) v F) (hx : x ≠ []) : ∃ b o n c, v = .slice (some ⟨b, o, none⟩) n c ∧ 0 < n ∧ b ∈ F ∧ w.cell? ⟨b, o, none⟩ = some (.int .i64 (x.headD 0)) := by
  have h' : RD w G.S (.ow 1 (x.map eI)) v F := by
    rcases h with h | ⟨h, rfl⟩
    · exact h
    · exact h
  simp only [RD] at h'
  rcases h' with ⟨h0, _⟩ | ⟨b, o, cap, cur, E, F', rfl, hh, _, hle, _, rfl, hrow⟩
  · exact absurd (List.map_eq_nil_iff.1 h0) hx
  · cases x with
    | nil => exact absurd rfl hx
    | cons a x =>
      simp only [List.map_cons, RRow, eI] at hrow
      obtain ⟨_, F1, F2, rfl, h1, _⟩ := hrow
      simp only [RCs] at h1
      obtain ⟨u, Fa, Fb, rfl, hu, h2, _⟩ := h1
      simp only [RD] at h2
      obtain ⟨rfl, rfl⟩ := h2
      exact ⟨b, o, _, cap, rfl, by simp, by simp, by simpa using hu⟩

theorem sortF_ok (Ly : SlLaysF.n6 P ρ) {g : FuncId} (eg : ∀ args w, (callFunc g args).run P w = .ok (.enter g args) w) (hcmp : ByFirst P g) {args : List SV} {ep nx : Nat} {h : Hp} {rvs : List RV} {ep' nx' : Nat} {h' : Hp}
    (hx : sortFX g args ep nx h = some (rvs, ep', nx', h')) {w : World} {G : Gh} {E0 : Nat → Prop} {vs : List Value}
    (hs : Sim ⟨w, G.S, E0, 0⟩ (stub ep nx h) act0 w G) (hv : Vals G ep w args vs) : Calls P (ρ.f 6) vs.toArray w (callPost w G E0 ep nx ep' nx' h' rvs) := by
  unfold sortFX at hx
  split at hx
  case h_2 => cases hx
  rename_i id n g'
  split at hx
  case h_2 => cases hx
  rename_i row hrow
  split at hx
  case h_2 => cases hx
  rename_i xs hxs
  split at hx
  case isFalse => cases hx
  rename_i hc
  obtain ⟨hsz, rfl, hlt, rfl, hfi⟩ := hc
  simp only [Option.some.injEq, Prod.mk.injEq] at hx
  obtain ⟨rfl, rfl, rfl, rfl⟩ := hx
  have hes := toII_some hxs
  obtain ⟨v, rfl, hr⟩ : ∃ v, vs = [v, .func (.func g') #[] #[]] ∧ RX G ep w (.sl id 0 xs.length) v := by
    cases hv with
    | cons h1 h2 =>
      cases h2 with
      | cons h3 h4 =>
        cases h4
        obtain ⟨us, rfl, hl, _⟩ := RS_c h3
        obtain rfl : us = [] := List.length_eq_zero_iff.1 (by simpa using hl)
        exact ⟨_, rfl, RS_c h1⟩
  obtain ⟨l, hl, ho1, ho⟩ := hs.objs id row hrow
  obtain ⟨sz, es⟩ := row
  simp only at hsz hes
  subst hsz; subst hes
  by_cases h0 : xs = []
  · subst h0
    obtain ⟨p, c, rfl⟩ := RX_sl_len hr
    refine (AnyF.slices_SortFunc_none { Ly with } p c _ w).mono fun e w1 he => ?_
    obtain ⟨rfl, rfl⟩ := he
    refine ⟨G, [], [], rfl, rfl, ?_, OwnF.nil, fun _ _ => rfl, Nat.le_refl _⟩
    have e : (fun i => if i = id then some ⟨1, (fsort []).map (eO 1 eI)⟩ else h i) = h := by
      funext i
      by_cases hi : i = id
      · subst hi; simp only [if_true]; exact hrow.symm
      · simp [hi]
    rw [e]
    exact hs.bump
  · obtain ⟨l', hl', hr⟩ := hr
    obtain rfl : l' = l := by rw [hl] at hl'; injection hl' with e; exact e.symm
    have hpos : 0 < xs.length := List.length_pos_iff.2 h0
    rcases hr with ⟨hb, hoff, hcap, rfl⟩ | ⟨_, hz, _⟩
    case inr => omega
    rw [if_pos hb] at ho
    obtain ⟨cur, E, F', hh, hcs, hle, hm, hF, hrow'⟩ := ho
    simp only [ho1] at hcs hrow' ⊢
    obtain ⟨ts, rfl, rfl, hcell⟩ := rows_of hrow'
    rw [List.length_map] at hlt hpos
    simp only [List.length_map] at hle ⊢
    have hblk : l'.b < w.heap.size := (Array.getElem?_eq_some_iff.1 hh).1
    have hnd := hs.nodup id _ hrow
    rw [hF] at hnd
    have hnd1 := List.nodup_cons.1 hnd
    simp only [firsts, Bool.and_eq_true, List.all_eq_true, decide_eq_true_eq, Bool.not_eq_true', List.isEmpty_eq_false_iff] at hfi
    obtain ⟨⟨hne, hfd⟩, hrange⟩ := hfi
    -- the order is one of places
    haveI : Inhabited (Fin ts.length) := ⟨⟨0, hpos⟩⟩
    let enc : Fin ts.length → Value := fun i => ts[i].2.1
    let fi : Fin ts.length → Int := fun i => ts[i].1.headD 0
    let cf : Fin ts.length → Fin ts.length → Int := fun i j => fi i - fi j
    have memx : ∀ i : Fin ts.length, ts[i].1 ∈ ts.map (·.1) := fun i => List.mem_map.2 ⟨ts[i], List.getElem_mem _, rfl⟩
    have own1 : ∀ i : Fin ts.length, ∃ b o n c, enc i = .slice (some ⟨b, o, none⟩) n c ∧ 0 < n ∧ b ∈ (ts.map (·.2.2)).flatten ∧ w.cell? ⟨b, o, none⟩ = some (.int .i64 (fi i)) := fun i => by
      obtain ⟨b, o, n, c, h1, h2, h3, h4⟩ := ow_first (hcell i i.2).2 (hne _ (memx i))
      exact ⟨b, o, n, c, h1, h2, List.mem_flatten.2 ⟨ts[i].2.2, List.mem_map.2 ⟨ts[i], List.getElem_mem _, rfl⟩, h3⟩, h4⟩
    have one : OneCell enc := fun i => by
      obtain ⟨b, o, n, c, h1, _⟩ := own1 i
      rw [h1]; rfl
    have hO : SWO (ltOf cf) := ⟨fun x => by simp [ltOf, cf], fun x y z h1 h2 => by simp only [ltOf, cf, decide_eq_true_eq] at *; omega, fun x y z h1 h2 => by simp only [ltOf, cf, decide_eq_false_iff_not] at *; omega⟩
    have hT : ∀ x y : Fin ts.length, (ltOf cf) x y = false → (ltOf cf) y x = false → x = y := fun x y h1 h2 => by
      simp only [ltOf, cf, decide_eq_false_iff_not] at h1 h2
      have e : fi x = fi y := by omega
      have hn : ((ts.map (·.1)).map fun x => x.headD 0).Nodup := hfd
      have := nodup_get_inj hn (i := x.1) (j := y.1) (by simp) (by simp) (by simpa [fi] using e)
      exact Fin.ext this
    let d : Array (Fin ts.length) := (List.finRange ts.length).toArray
    have hds : d.size = ts.length := by simp [d]
    have hd1 : ∀ j (hj : j < ts.length), d[j]! = ⟨j, hj⟩ := fun j hj => by
      rw [getElem!_pos _ _ (by rw [hds]; exact hj)]
      simp [d]
    have hH : Holds enc w l'.b l'.o d := fun j hj => by
      rw [hds] at hj
      refine ⟨?_, frozen_cells hh _⟩
      rw [hd1 j hj]
      exact (hcell j hj).1
    have hreads : CmpReads P g' #[] enc cf l'.b l'.o d.size w := fun m os dk hdk x y => by
      obtain ⟨b1, o1, n1, c1, e1, p1, m1, q1⟩ := own1 x
      obtain ⟨b2, o2, n2, c2, e2, p2, m2, q2⟩ := own1 y
      have far : ∀ b o u, b ∈ (ts.map (·.2.2)).flatten → w.cell? ⟨b, o, none⟩ = some u → (sortWorld enc w l'.b l'.o m dk os).cell? ⟨b, o, none⟩ = some u := fun b o u hbm hu => by
        have hb2 : b < w.heap.size := lt_of_cell? hu
        have hb3 : b ≠ l'.b := fun e => hnd1.1 (by rw [← e]; exact hbm)
        have e := putRow_setRow (enc := enc) (n := m) (off := l'.o) (d := dk) hh
        have hsz2 : (putRow enc (Sort.ahead w m) l'.b l'.o dk).heap.size = w.heap.size := by rw [e]; simp [World.setRow]
        have h5 : (sortWorld enc w l'.b l'.o m dk os).heap[b]? = w.heap[b]? := by
          unfold sortWorld
          rw [heap_grow_old _ os (by rw [hsz2]; exact hb2), e]
          exact setRow_other w l'.b b _ hb3
        rw [cell?_of_heap h5]; exact hu
      rw [e1, e2]
      exact hcmp _ b1 o1 n1 c1 b2 o2 n2 c2 (fi x) (fi y) p1 p2 (far _ _ _ m1 q1) (far _ _ _ m2 q2) (hrange _ (memx x)) (hrange _ (memx y))
    have hle' : ts.length ≤ l'.cap := by simpa using hle
    refine (show Calls P (ρ.f 6) #[.slice (some ⟨l'.b, l'.o + 0 * 1, none⟩) ts.length (l'.cap - 0), .func (.func g') #[] #[]] w _ from ?_)
    have hcall := Any.slices_SortFunc_total Ly enc one cf hO g' #[] l'.b l'.o (l'.cap - 0) d w eg hreads.lays hH hblk (by rw [hds]; exact hlt) hT
    rw [hds] at hcall
    refine hcall.mono fun e w1 he => ?_
    obtain ⟨rfl, n, os, rfl⟩ := he
    -- what comes out
    let p : List (Fin ts.length) := d.toList.mergeSort fun x y => !(ltOf cf) y x
    have hp : p.Perm (List.finRange ts.length) := by
      have := List.mergeSort_perm d.toList (fun x y => !(ltOf cf) y x)
      simpa [p, d] using this
    let q : List (List Int × Value × List Nat) := p.map fun i => ts[i]
    have hq : q.Perm ts := by
      have h1 := hp.map (fun i : Fin ts.length => ts[i])
      have h2 : (List.finRange ts.length).map (fun i : Fin ts.length => ts[i]) = ts := by
        apply List.ext_getElem (by simp)
        intro i h3 h4
        simp
      rw [h2] at h1
      exact h1
    have hqs : (q.map (·.1)).Pairwise (fun a b => a.headD 0 ≤ b.headD 0) := by
      have h1 : p.Pairwise (fun x y => (!(ltOf cf) y x) = true) := List.pairwise_mergeSort (fun a b c h1 h2 => by simp only [ltOf, cf, Bool.not_eq_true', decide_eq_false_iff_not] at *; omega) (fun a b => by simp only [ltOf, cf, Bool.or_eq_true, Bool.not_eq_true', decide_eq_false_iff_not]; omega) _
      rw [List.map_map]
      refine List.pairwise_map.2 (h1.imp fun {a b} hab => ?_)
      simp only [ltOf, cf, fi, Bool.not_eq_true', decide_eq_false_iff_not] at hab
      simp only [Function.comp]
      omega
    have hfs : fsort (ts.map (·.1)) = q.map (·.1) := by
      refine List.Perm.eq_of_pairwise (le := fun a b : List Int => a.headD 0 ≤ b.headD 0) (fun a b ha hb h1 h2 => ?_) (fsort_sorted _) hqs ((fsort_perm _).trans (hq.map (·.1)).symm)
      exact nodup_map_inj hfd ((fsort_perm _).mem_iff.1 ha) ((hq.map (·.1)).mem_iff.1 hb) (by omega)
    have hql : q.length = ts.length := hq.length_eq
    have hpl : p.length = ts.length := by simpa [q] using hql
    have hFp : (q.map (·.2.2)).flatten.Perm (ts.map (·.2.2)).flatten := (hq.map (·.2.2)).flatten
    have hw1 : ∀ b ∈ (ts.map (·.2.2)).flatten, (w.setRow l'.b (putCells enc l'.o p.toArray cur)).heap[b]? = w.heap[b]? := fun b hbm => setRow_other w l'.b b _ (fun e => hnd1.1 (by rw [← e]; exact hbm))
    have hbid : l'.b ∈ G.Fp id := by rw [hF]; simp
    have hbS : ¬ G.S l'.b := (hs.own id _ hrow _ hbid).2.1
    have s1 : Sees G (G.fp id (l'.b :: (q.map (·.2.2)).flatten)) ep (ep + 1) w (w.setRow l'.b (putCells enc l'.o p.toArray cur)) := write_sees (fun b hb e => hbS (by rw [← e]; exact hb)) id _
    have hsim := hs.write (row' := ⟨1, (fsort (ts.map (·.1))).map (eO 1 eI)⟩) (cur' := putCells enc l'.o p.toArray cur) (F := (q.map (·.2.2)).flatten) hrow hl hb hh (by simp [putCells]) (by rw [ho1]; exact hcs) hm rfl (by simpa [fsort_length] using hle')
      (List.nodup_cons.2 ⟨fun hm => hnd1.1 (hFp.mem_iff.1 hm), hFp.nodup_iff.2 hnd1.2⟩)
      (fun b hbm => hs.own id _ hrow b (by rw [hF]; exact List.mem_cons_of_mem _ (hFp.mem_iff.1 hbm)))
      (fun b hbm i r hi hne => hs.apart id i _ r hrow hi (Ne.symm hne) b (by rw [hF]; exact List.mem_cons_of_mem _ (hFp.mem_iff.1 hbm)))
      (by
        rw [ho1]
        show RFRow _ _ _ _ _ _ ((fsort (ts.map (·.1))).map (eO 1 eI)) _
        rw [hfs]
        refine rows_to fun j hj => ?_
        have hj2 : j < p.length := by rw [hpl, ← hql]; exact hj
        have hqj : q[j] = ts[p[j]] := by simp [q]
        have hlt2 : l'.o + j < cur.size := by rw [hql] at hj; omega
        refine ⟨?_, ?_⟩
        · rw [cell_cells (setRow_heap w l'.b cur _ E (0, 0) hh)]
          simp only [putCells, Array.getElem?_mapIdx, Array.getElem?_eq_getElem hlt2, Option.map_some]
          rw [if_pos ⟨by omega, by simp; omega⟩]
          have : p.toArray[l'.o + j - l'.o]! = p[j] := by
            rw [Nat.add_sub_cancel_left, getElem!_pos _ _ (by simpa using hj2)]
            simp
          rw [this, hqj]
        · rw [hqj]
          refine RF_sees s1 (hcell p[j] p[j].2).2 fun b hbm => hw1 b (List.mem_flatten.2 ⟨_, List.mem_map.2 ⟨ts[p[j]], List.getElem_mem _, rfl⟩, hbm⟩))
    have m : More (w.setRow l'.b (putCells enc l'.o p.toArray cur)) (sortWorld enc w l'.b l'.o n p.toArray os) := by
      have e := putRow_setRow (enc := enc) (n := n) (off := l'.o) (d := p.toArray) hh
      refine ⟨?_, fun b hb => ?_, rfl, rfl, rfl⟩
      · unfold sortWorld; rw [size_grow, e]; omega
      · unfold sortWorld; rw [heap_grow_old _ os (by rw [e]; exact hb), e]
    exact ⟨_, [], [], rfl, rfl, hsim.more m, OwnF.nil, fun _ _ => rfl, Nat.le_refl _⟩
end
end Go.Fw
