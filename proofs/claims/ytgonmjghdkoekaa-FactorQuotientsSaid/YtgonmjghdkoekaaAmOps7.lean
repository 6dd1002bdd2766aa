/-
  The abstract machine, eighth part: slicing, building; all operations that look at slots alone.
-/
import Derived.Test.YtgonmjghdkoekaaAmOps6
namespace Go.AM
open Go
set_option linter.unusedSimpArgs false
set_option linter.unusedVariables false

variable {P : Program}

theorem run_sliceBound (k : IntKind) (n y : Nat) (code : BoundsCode) (h : n ≤ y) (w : World) : (Instr.sliceBound (.int k (n : Int)) y code).run P w = .ok n w := by
  have h1 : (0 : Int) ≤ n ∧ (n : Int) ≤ y := by omega
  simp only [Instr.sliceBound, Sem.run_bind, run_asIntOf, Result.andThen_ok, h1, and_self, ↓reduceIte, Sem.run_pure, Int.toNat_natCast]

theorem run_sliceBounds {b : Bool} {len cap l h m : Nat} {low high mx : Option Value} (hm : (mx = none ∧ m = cap) ∨ ∃ k, mx = some (.int k (m : Int))) (hmc : m ≤ cap)
    (hh : (high = none ∧ mx = none ∧ h = len) ∨ ∃ k, high = some (.int k (h : Int))) (hhm : h ≤ m) (hl : (low = none ∧ l = 0) ∨ ∃ k, low = some (.int k (l : Int))) (hlh : l ≤ h) (w : World) :
    (Instr.sliceBounds b len cap low high mx).run P w = .ok (l, h, m) w := by
  rcases hm with ⟨rfl, rfl⟩ | ⟨km, rfl⟩
  · rcases hh with ⟨rfl, _, rfl⟩ | ⟨kh, rfl⟩ <;> rcases hl with ⟨rfl, rfl⟩ | ⟨kl, rfl⟩ <;>
      simp [Instr.sliceBounds, run_sliceBound, hmc, hhm, hlh]
  · rcases hh with ⟨rfl, h1, rfl⟩ | ⟨kh, rfl⟩
    · cases h1
    · rcases hl with ⟨rfl, rfl⟩ | ⟨kl, rfl⟩ <;>
        simp [Instr.sliceBounds, run_sliceBound, hmc, hhm, hlh]

theorem opt_val {ρ : Operand → AV} {ρv : Operand → Value} {G : Gh} {w : World} {o : Option Operand} {d n : Nat} (h : optIs ρ o d n) (hρ : ∀ x, o = some x → RV G w (ρ x) (ρv x)) :
    (o.map ρv = none ∧ o = none ∧ n = d) ∨ ∃ k, o.map ρv = some (.int k (n : Int)) := by
  rcases optIs_sound h hρ with ⟨rfl, h1⟩ | ⟨x, k, rfl, h1⟩
  · exact .inl ⟨rfl, rfl, h1⟩
  · exact .inr ⟨k, by simp [h1]⟩

theorem sliceOf_sound {T : Nat} {ρ : Operand → AV} {ρv : Operand → Value} {x v : AV} {xv : Value} {lo hi mx : Option Operand} {G : Gh} {w : World} (h : sliceOf P T ρ x lo hi mx v) (hx : RV G w x xv)
    (hlo : ∀ y, lo = some y → RV G w (ρ y) (ρv y)) (hhi : ∀ y, hi = some y → RV G w (ρ y) (ρv y)) (hmx : ∀ y, mx = some y → RV G w (ρ y) (ρv y)) :
    ∃ u, (Instr.sliceAt T xv (lo.map ρv) (hi.map ρv) (mx.map ρv)).run P w = .ok u w ∧ RV G w v u := by
  unfold sliceOf at h
  split at h
  · rename_i s
    obtain ⟨hT, rfl, l, h', ol, oh, hlh, hhs, rfl⟩ := h
    have hU := strT_spec hT
    have hxs : xv = .string s := by cases hx with | d h => cases h; rfl
    subst hxs
    have hb := run_sliceBounds (P := P) (b := false) (len := s.size) (cap := s.size) (l := l) (h := h') (m := s.size) (low := lo.map ρv) (high := hi.map ρv) (mx := none) (.inl ⟨rfl, rfl⟩) (Nat.le_refl _)
      ((opt_val oh hhi).imp (fun h => ⟨h.1, rfl, h.2.2⟩) id) hhs ((opt_val ol hlo).imp (fun h => ⟨h.1, h.2.2⟩) id) hlh w
    refine ⟨.string (s.extract l h'), ?_, .raw rfl⟩
    simp only [Instr.sliceAt, Sem.run_bind, run_underlying hU, Result.andThen_ok, Instr.slice, Option.map_none, Option.isSome_none, Bool.false_eq_true, ↓reduceIte, Sem.run_pure, hb]
  · split at h
    · rename_i E sz by' sz' es hrow hes
      obtain ⟨l, h', hsz, ol, oh, hlh, hhs, hv⟩ := h
      obtain ⟨hE, hs, hp⟩ := rowT_sz hrow
      obtain ⟨A, cap, vs, rfl, hcap, hmax, hf⟩ := (hx.elems hes).flat
      have hf' : Flat w.cell? G.ps sz es A vs := hf.resize hsz
      have fin : ∀ m, h' ≤ m → m ≤ cap → Flat w.cell? G.ps sz ((es.take h').drop l) (if m = l then A else A.map (·.add (l * sz))) ((vs.take (h' * sz)).drop (l * sz)) := by
        intro m hm1 hm2
        have hvl := hf'.len
        constructor
        · simp only [List.length_drop, List.length_take, hvl, Nat.min_eq_left hhs, Nat.min_eq_left (Nat.mul_le_mul_right sz hhs), Nat.sub_mul]
        · intro a ha q u hq
          simp only [List.getElem?_drop, List.getElem?_take] at hq
          split at hq
          · rename_i hlt
            have hml : m ≠ l := by
              intro e
              have : h' = l := by omega
              subst this
              omega
            rw [if_neg hml] at ha
            obtain ⟨a0, hA, rfl⟩ := Option.map_eq_some_iff.1 ha
            rw [add_add]
            exact hf'.at_ a0 hA _ u hq
          · cases hq
        · intro u hu
          exact hf'.one u (List.mem_of_mem_take (List.mem_of_mem_drop hu))
        · intro hne
          have hlt : l < h' := by
            rcases Nat.lt_or_ge l h' with h | h
            · exact h
            · exact absurd (List.drop_of_length_le (by simp; omega)) hne
          obtain ⟨a, rfl⟩ := hf'.some_ (by intro e; subst e; simp at hhs; omega)
          rw [if_neg (by omega)]
          exact ⟨_, rfl⟩
        · intro e he
          exact hf'.each e (List.mem_of_mem_take (List.mem_of_mem_drop he))
        · intro i j hi' hj
          simp only [List.length_drop, List.length_take, Nat.min_eq_left hhs] at hi'
          simp only [List.getElem_drop, List.getElem_take] at hj ⊢
          obtain ⟨u, hu, hr⟩ := hf'.read (l + i) j (by omega) hj
          refine ⟨u, ?_, hr⟩
          have hjs : j < sz := by rw [← hf'.each _ (List.getElem_mem (by omega : l + i < es.length))]; exact hj
          have e1 : l * sz + (i * sz + j) = (l + i) * sz + j := by rw [Nat.add_mul]; omega
          rw [List.getElem?_drop, List.getElem?_take, if_pos, e1]
          · exact hu
          · have : (l + i + 1) * sz ≤ h' * sz := Nat.mul_le_mul_right _ (by omega)
            rw [Nat.add_mul, Nat.add_mul] at this
            omega
      have hlen : ((es.take h').drop l).length = h' - l := by simp only [List.length_drop, List.length_take, Nat.min_eq_left hhs]
      cases mx with
      | none =>
        simp only at hv
        subst hv
        have hb := run_sliceBounds (P := P) (b := true) (len := es.length) (cap := cap) (l := l) (h := h') (m := cap) (low := lo.map ρv) (high := hi.map ρv) (mx := none) (.inl ⟨rfl, rfl⟩) (Nat.le_refl _)
          ((opt_val oh hhi).imp (fun h => ⟨h.1, rfl, h.2.2⟩) id) (by omega) ((opt_val ol hlo).imp (fun h => ⟨h.1, h.2.2⟩) id) hlh w
        refine ⟨.slice (if cap = l then A else A.map (·.add (l * sz))) (h' - l) (cap - l), ?_, .d ?_⟩
        · simp only [Instr.sliceAt, Sem.run_bind, run_underlying hE, Result.andThen_ok, Instr.slice, Option.map_none, Option.isSome_none, Bool.false_eq_true, ↓reduceIte, Sem.run_pure, hb, run_sizeOf hs]
        · have := RVd.of_flat (cap := cap - l) (by rw [hlen]; omega) (by omega) (fin cap (by omega) (Nat.le_refl _))
          rw [hlen] at this
          exact this
      | some y =>
        simp only at hv
        obtain ⟨hsome, om, rfl⟩ := hv
        have ohm := opt_val om hmx
        have hm' : ∃ k, (some y).map ρv = some (.int k (h' : Int)) := by
          rcases ohm with ⟨h, _⟩ | h
          · simp at h
          · exact h
        have hh' : ∃ k, hi.map ρv = some (.int k (h' : Int)) := by
          rcases opt_val oh hhi with ⟨_, h, _⟩ | h
          · subst h; simp at hsome
          · exact h
        have hb := run_sliceBounds (P := P) (b := true) (len := es.length) (cap := cap) (l := l) (h := h') (m := h') (low := lo.map ρv) (high := hi.map ρv) (mx := (some y).map ρv) (.inr hm') (by omega)
          (.inr hh') (Nat.le_refl _) ((opt_val ol hlo).imp (fun h => ⟨h.1, h.2.2⟩) id) hlh w
        refine ⟨.slice (if h' = l then A else A.map (·.add (l * sz))) (h' - l) (h' - l), ?_, .osl ?_ ?_⟩
        · simp only [Instr.sliceAt, Sem.run_bind, run_underlying hE, Result.andThen_ok, Instr.slice, Option.map_none, Option.isSome_none, Bool.false_eq_true, ↓reduceIte, Sem.run_pure, hb, run_sizeOf hs]
        · have := RVd.of_flat (cap := h' - l) (by rw [hlen]; omega) (by omega) (fin h' (Nat.le_refl _) (by omega))
          rw [hlen] at this
          exact this
        · rw [hlen]; exact ⟨_, rfl⟩
    · exact h.elim

/-! ### Building a struct -/
theorem run_places : ∀ (l : List Field) (w : World), (l.all fun f => (P.info? f.type).isSome) = true →
    (l.mapM (m := Sem) fun f => do pure (f.offset, ← sizeOf f.type)).run P w = .ok (l.map fun f => (f.offset, ((P.info? f.type).map (·.size)).getD 0)) w
  | [], w, _ => by simp
  | f :: l, w, h => by
    simp only [List.all_cons, Bool.and_eq_true] at h
    obtain ⟨i, hi⟩ := Option.isSome_iff_exists.1 h.1
    have ih := run_places l w h.2
    have hs : (sizeOf f.type).run P w = .ok i.size w := run_sizeOf (by simp [szOf, hi]) w
    simp only [List.mapM_cons, Sem.run_bind, hs, Result.andThen_ok, Sem.run_pure, ih, List.map_cons, hi, Option.map_some, Option.getD_some]

theorem foldl_put : ∀ (vs : List Value) (k off : Nat) (cells : Array Value),
    ((vs.zipIdx k).foldl (fun cs (x : Value × Nat) => cs.setIfInBounds (off + x.2) x.1) cells).toList = setCells cells.toList (off + k) vs
  | [], k, off, cells => by simp [setCells]
  | v :: vs, k, off, cells => by
    simp only [List.zipIdx_cons, List.foldl_cons]
    rw [foldl_put vs (k + 1) off, setCells]
    simp [Array.toList_setIfInBounds, Nat.add_assoc]

theorem foldl_put' (v : Value) (off : Nat) (cells : Array Value) :
    (v.cells.zipIdx.foldl (fun cs (x : Value × Nat) => cs.setIfInBounds (off + x.2) x.1) cells).toList = setCells cells.toList off v.cells.toList := by
  have := foldl_put v.cells.toList 0 off cells
  rw [Nat.add_zero] at this
  rw [← this, ← Array.foldl_toList]
  congr 2
  simp

theorem fill_sound {G : Gh} {w : World} (pl : List (Nat × Nat)) (place : Nat → Option (Nat × Nat)) (hpl : ∀ i, place i = pl[i]?) : ∀ (parts : List (Nat × AV)) (pv : List (Nat × Value)) (cells : List AV) (cv : Array Value) (out : List AV),
    pv.length = parts.length → (∀ j (h1 : j < parts.length) (h2 : j < pv.length), parts[j].1 = pv[j].1 ∧ RV G w parts[j].2 pv[j].2) → RVs G w cells cv.toList → (∀ u ∈ cv.toList, u.oneCell' = true) →
    fillA pl cells parts = some out → ∃ ov : Array Value, Instr.fill place cv pv = some ov ∧ RVs G w out ov.toList ∧ (∀ u ∈ ov.toList, u.oneCell' = true)
  | [], pv, cells, cv, out, hl, hp, hR, h1, h => by
    have : pv = [] := List.eq_nil_of_length_eq_zero (by simpa using hl)
    subst this
    simp only [fillA, Option.some.injEq] at h
    subst h
    exact ⟨cv, rfl, hR, h1⟩
  | (i, x) :: parts, pv, cells, cv, out, hl, hp, hR, h1, h => by
    cases pv with
    | nil => simp at hl
    | cons q pv =>
      obtain ⟨i', xv⟩ := q
      have h0 := hp 0 (by simp) (by simp)
      simp only [List.getElem_cons_zero] at h0
      obtain ⟨rfl, hx⟩ := h0
      simp only [fillA] at h
      split at h
      · rename_i off n cs hi hcs
        split at h
        · rename_i hc
          obtain ⟨hcl, hle⟩ := hc
          obtain ⟨hcR, hc1⟩ := hx.cells hcs
          have hlen : xv.cells.size = n := by have := hcR.1; simp at this; omega
          have hcv : cv.size = cells.length := by have := hR.1; simpa using this.symm
          have e := foldl_put' xv off cv
          obtain ⟨ov, ho, hoR, ho1⟩ := fill_sound pl place hpl parts pv (setCells cells off cs) (xv.cells.zipIdx.foldl (fun cs (x : Value × Nat) => cs.setIfInBounds (off + x.2) x.1) cv) out
            (by simpa using hl) (fun j g1 g2 => hp (j + 1) (by simpa using g1) (by simpa using g2)) (by rw [e]; exact hR.setCells hcR)
            (by rw [e]; exact mem_setCells (p := fun u => Value.oneCell' u = true) _ _ _ h1 hc1) h
          refine ⟨ov, ?_, hoR, ho1⟩
          simp only [Instr.fill, hpl, hi]
          rw [if_neg]
          · exact ho
          · simp [hlen]; omega
        · cases h
      · cases h

theorem build_sound {T : Nat} {parts : Array (Nat × Operand)} {ρ : Operand → AV} {ρv : Operand → Value} {G : Gh} {w : World} {pl : List (Nat × Nat)} {zs : List Value} {cs : List AV} (hpl : structT P T = some pl) (hz : zeroT P T = some zs)
    (h : fillA pl (zs.map ofVal1) (parts.toList.map fun p => (p.1, ρ p.2)) = some cs) (hρ : ∀ p ∈ parts.toList, RV G w (ρ p.2) (ρv p.2)) :
    ∃ u, (Instr.build T (parts.map fun (i, x) => (i, ρv x))).run P w = .ok u w ∧ RV G w (.agg cs) u := by
  unfold structT at hpl
  split at hpl
  · rename_i fs hfs
    split at hpl
    · rename_i hall
      simp only [Option.some.injEq] at hpl
      subst hpl
      unfold zeroT at hz
      split at hz
      · rename_i z hzz
        split at hz
        · rename_i hone
          simp only [Option.some.injEq] at hz
          subst hz
          obtain ⟨i, hi, hzi⟩ := Option.bind_eq_some_iff.1 hzz
          have hzr : (zeroValue T).run P w = .ok z w := by simp [zeroValue, typeInfo, hi, hzi]
          have hpr : (fs.mapM (m := Sem) fun f => do pure (f.offset, ← sizeOf f.type)).run P w = .ok (fs.toList.map fun f => (f.offset, ((P.info? f.type).map (·.size)).getD 0)).toArray w := by
            rw [Array.mapM_eq_mapM_toList]
            have := run_places (P := P) fs.toList w (by simpa using hall)
            simp only [map_eq_pure_bind, Sem.run_bind, this, Result.andThen_ok, Sem.run_pure]
          obtain ⟨ov, h1, h2, h3⟩ := fill_sound (G := G) (w := w) (fs.toList.map fun f => (f.offset, ((P.info? f.type).map (·.size)).getD 0)) ((fs.toList.map fun f => (f.offset, ((P.info? f.type).map (·.size)).getD 0)).toArray[·]?) (by intro i; simp)
            (parts.toList.map fun p => (p.1, ρ p.2)) ((parts.map fun (i, x) => (i, ρv x)).toList) (z.cells.toList.map ofVal1) z.cells cs (by simp)
            (by
              intro j g1 g2
              simp at g1 g2
              simp only [List.getElem_map, Array.toList_map]
              exact ⟨trivial, hρ _ (List.getElem_mem _)⟩)
            ⟨by simp, fun j g1 g2 => by simp only [List.getElem_map]; exact RV.of_ofVal1 _⟩ (fun u hu => List.all_eq_true.1 hone u hu) h
          refine ⟨.agg ov, ?_, ?_⟩
          · simp only [Instr.build, Sem.run_bind, hzr, Result.andThen_ok, run_underlying hfs, hpr, h1, Sem.run_pure]
          · have := RV.agg (G := G) (w := w) h2.1 h2.2 h3
            simpa using this
        · cases hz
      · cases hz
    · cases hpl
  · cases hpl

/-! ### Building a slice -/
theorem rowsOf_spec {G : Gh} {w : World} : ∀ {xs : List AV} {vs : List Value} {rows : List (List D)}, RVs G w xs vs → rowsOf xs = some rows →
    rows.length = vs.length ∧ ∀ i (h1 : i < rows.length) (h2 : i < vs.length), (∀ u ∈ vs[i].cells.toList, u.oneCell' = true) ∧ rows[i].length = vs[i].cells.toList.length ∧
      ∀ j (g1 : j < rows[i].length) (g2 : j < vs[i].cells.toList.length), RVd w.cell? G.ps rows[i][j] vs[i].cells.toList[j]
  | [], vs, rows, r, h => by
    simp [rowsOf] at h
    subst h
    exact ⟨r.1, fun i h1 => by simp at h1⟩
  | x :: xs, vs, rows, r, h => by
    obtain ⟨v, us, rfl, h1, h2⟩ := r.uncons
    simp only [rowsOf] at h
    split at h
    · rename_i cs rs hcs hrs
      split at h
      · rename_i ds hds
        simp only [Option.some.injEq] at h
        subst h
        obtain ⟨k1, k2⟩ := rowsOf_spec h2 hrs
        obtain ⟨c1, c2⟩ := h1.cells hcs
        obtain ⟨d1, d2⟩ := toDs_spec c1 hds
        refine ⟨by simp [k1], fun i g1 g2 => ?_⟩
        cases i with
        | zero => exact ⟨c2, d1, d2⟩
        | succ i => exact k2 i (by simpa using g1) (by simpa using g2)
      · cases h
    · cases h

theorem fill_all {sz : Nat} : ∀ (vs : List Value) (k : Nat) (cells : Array Value), (∀ v ∈ vs, v.cells.size = sz) → cells.size = (k + vs.length) * sz →
    ∃ ov : Array Value, Instr.fill (fun i => some (i * sz, sz)) cells ((List.range' k vs.length).zip vs) = some ov ∧ ov.toList = cells.toList.take (k * sz) ++ (vs.map fun v => v.cells.toList).flatten
  | [], k, cells, hv, hs => by
    refine ⟨cells, rfl, ?_⟩
    simp only [List.length_nil, Nat.add_zero] at hs
    rw [← hs]
    have : cells.toList.length = cells.size := by simp
    rw [← this, List.take_length]
    simp
  | v :: vs, k, cells, hv, hs => by
    have hvs := hv v (by simp)
    have e := foldl_put' v (k * sz) cells
    have hs' : (v.cells.zipIdx.foldl (fun cs (x : Value × Nat) => cs.setIfInBounds (k * sz + x.2) x.1) cells).size = cells.size := by
      have := congrArg List.length e
      rw [length_setCells] at this
      simpa using this
    have hle : k * sz + v.cells.toList.length ≤ cells.toList.length := by
      have h1 : v.cells.toList.length = sz := by simp [hvs]
      have h2 : cells.toList.length = cells.size := by simp
      rw [h1, h2, hs, List.length_cons, Nat.add_mul, Nat.add_mul]
      omega
    obtain ⟨ov, h1, h2⟩ := fill_all vs (k + 1) (v.cells.zipIdx.foldl (fun cs (x : Value × Nat) => cs.setIfInBounds (k * sz + x.2) x.1) cells) (fun u hu => hv u (by simp [hu])) (by rw [hs', hs]; simp only [List.length_cons]; congr 1; omega)
    refine ⟨ov, ?_, ?_⟩
    · simp only [List.length_cons, List.range'_succ, List.zip_cons_cons, Instr.fill]
      rw [if_neg]
      · exact h1
      · simp [hvs]
        rw [hs, List.length_cons, Nat.add_mul, Nat.add_mul]
        omega
    · rw [h2, e, setCells_eq _ _ _ hle]
      have h3 : v.cells.toList.length = sz := by simp [hvs]
      have h4 : (k + 1) * sz = k * sz + sz := by rw [Nat.add_mul]; omega
      have h5 : (List.take (k * sz) cells.toList).length = k * sz := by rw [List.length_take]; omega
      rw [h4, List.append_assoc, List.take_append, h5, Nat.add_sub_cancel_left, List.take_of_length_le (by rw [h5]; omega), List.take_append_of_le_length (by omega), List.take_of_length_le (l := v.cells.toList) (by omega)]
      simp

theorem buildSlice_sound {T E sz by' len : Nat} {parts : Array (Nat × Operand)} {ρ : Operand → AV} {ρv : Operand → Value} {G : Gh} {m : AMem} {w : World} {rows : List (List D)} (hrow : rowT P T = some (E, sz, by'))
    (hr : rowsOf (parts.toList.map fun p => ρ p.2) = some rows) (hp : parts.toList.map (·.1) = List.range len) (hs : ∀ r ∈ rows, r.length = sz) (h24 : len * sz ≤ 16777216)
    (hρ : ∀ p ∈ parts.toList, RV G w (ρ p.2) (ρv p.2)) (hm : RelM G m w) :
    ∃ u o, (Instr.buildSlice T len (parts.map fun (i, x) => (i, ρv x))).run P w = .ok u (w.alloc o) ∧ RV G (w.alloc o) (.osl sz rows .full) u := by
  obtain ⟨hE, i, z, hi, hz, hzs, his, hib, hszp, _⟩ := rowT_spec hrow
  have hsz : (sizeOf E).run P w = .ok sz w := run_sizeOf (by simp [szOf, hi, his]) w
  have hzr : (zeroValue E).run P w = .ok z w := by simp [zeroValue, typeInfo, hi, hz]
  let vs : List Value := parts.toList.map fun p => ρv p.2
  have hlen : len = vs.length := by
    have := congrArg List.length hp
    simpa [vs] using this.symm
  have hRs : RVs G w (parts.toList.map fun p => ρ p.2) vs := ⟨by simp [vs], fun j g1 g2 => by
    simp only [List.getElem_map, vs]
    exact hρ _ (List.getElem_mem _)⟩
  obtain ⟨k1, k2⟩ := rowsOf_spec hRs hr
  have hvsz : ∀ v ∈ vs, v.cells.size = sz := by
    intro v hv
    obtain ⟨j, hj, rfl⟩ := List.getElem_of_mem hv
    have := (k2 j (by omega) hj).2.1
    rw [hs _ (List.getElem_mem _)] at this
    simpa using this.symm
  have hparts : (parts.map fun (i, x) => (i, ρv x)).toList = (List.range' 0 vs.length).zip vs := by
    rw [← hlen]
    have e1 : (List.range' 0 len) = parts.toList.map (·.1) := by rw [hp, List.range_eq_range']
    rw [e1, Array.toList_map]
    show _ = (parts.toList.map (·.1)).zip (parts.toList.map fun p => ρv p.2)
    rw [List.zip_map']
  let zc : Array Value := if len * sz = 0 then #[] else z.cells
  obtain ⟨ov, h1, h2⟩ := fill_all (sz := sz) vs 0 ((Array.range (len * sz)).map (zc[· % zc.size]!)) hvsz (by simp [hlen])
  simp only [Nat.zero_mul, List.take_zero, List.nil_append] at h2
  have h24' : ¬ (len * sz > 2 ^ 24) := by omega
  refine ⟨.slice (some ⟨w.heap.size, 0, none⟩) len len, .cells ov E, ?_, ?_⟩
  · by_cases h0 : len * sz = 0
    · have hzc : zc = #[] := by simp only [zc, h0, ↓reduceIte]
      rw [hzc] at h1
      have h00 : ¬ ((0 : Nat) > 2 ^ 24) := by omega
      simp only [Instr.buildSlice, Sem.run_bind, run_underlying hE, Result.andThen_ok, hsz, h24', h00, ↓reduceIte, h0, Sem.run_pure] at h1 ⊢
      simp only [hparts, h1, Sem.run_bind, newRow, Sem.run_pure, Result.andThen_ok]
      rfl
    · have hzc : zc = z.cells := by simp only [zc, h0, ↓reduceIte]
      rw [hzc] at h1
      simp only [Instr.buildSlice, Sem.run_bind, run_underlying hE, Result.andThen_ok, hsz, h24', ↓reduceIte, h0, hzr, Sem.run_pure] at h1 ⊢
      simp only [hparts, h1, Sem.run_bind, newRow, Sem.run_pure, Result.andThen_ok]
      rfl
  · have hla := Le.alloc (w := w) hm.fresh (.cells ov E)
    have hvlen : ∀ v ∈ vs.map (fun v => v.cells.toList), v.length = sz := by
      intro l hl
      simp only [List.mem_map] at hl
      obtain ⟨v, hv, rfl⟩ := hl
      simpa using hvsz v hv
    have hflat : Flat (w.alloc (.cells ov E)).cell? G.ps sz rows (some ⟨w.heap.size, 0, none⟩) ov.toList := by
      constructor
      · rw [h2, flat_len hvlen, List.length_map, ← k1]
      · intro a ha q u hq
        cases ha
        rw [add_none]
        refine ⟨?_, ?_⟩
        · unfold Gh.ps
          rw [hm.fresh w.heap.size (Nat.le_refl _)]
          trivial
        · rw [cell_of_row _ w.heap.size _ ov E (0, 0) (heap_alloc_new w _), Nat.zero_add]
          simpa using hq
      · intro u hu
        rw [h2] at hu
        simp only [List.mem_flatten, List.mem_map] at hu
        obtain ⟨l, ⟨v, hv, rfl⟩, hul⟩ := hu
        obtain ⟨j, hj, rfl⟩ := List.getElem_of_mem hv
        exact (k2 j (by omega) hj).1 u hul
      · exact fun _ => ⟨_, rfl⟩
      · exact hs
      · intro a b ha hb
        have hav : a < vs.length := by omega
        have hbs : b < sz := by rw [← hs _ (List.getElem_mem ha)]; exact hb
        obtain ⟨_, g2, g3⟩ := k2 a ha hav
        have hrow' : (vs.map fun v => v.cells.toList)[a]? = some vs[a].cells.toList := by simp [hav]
        refine ⟨vs[a].cells.toList[b]'(by omega), ?_, (g3 b hb (by omega)).mono hla.cells⟩
        rw [h2, flat_get hvlen hrow' hbs]
        exact List.getElem?_eq_getElem _
    have hrl : rows.length = len := by omega
    have := RVd.of_flat (cap := len) (by omega) (by unfold maxLen; have := Nat.le_mul_of_pos_right len hszp; omega) hflat
    rw [hrl] at this
    exact .osl this (by rw [hrl]; exact ⟨_, rfl⟩)

end Go.AM
