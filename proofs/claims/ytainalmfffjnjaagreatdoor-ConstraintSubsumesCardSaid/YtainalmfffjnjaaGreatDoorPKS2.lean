/-
 Parts of the proof, as merged from many texts: a machine over data, what the functions compute, plain laws.
-/
import Derived.Test.YtainalmfffjnjaaGreatDoorPKS1
import Derived.Orders
set_option linter.unusedSimpArgs false
set_option linter.unusedVariables false
namespace Go.AM
open Go
variable {P : Program}
theorem run_sliceBound (k : IntKind) (n y : Nat) (code : BoundsCode) (h : n ≤ y) (w : World) : (Instr.sliceBound (.int k (n : Int)) y code).run P w = .ok n w := by
 have h1 : (0 : Int) ≤ n ∧ (n : Int) ≤ y := by omega
 simp only [Instr.sliceBound, Sem.run_bind, run_asIntOf, Result.andThen_ok, h1, and_self, ↓reduceIte, Sem.run_pure, Int.toNat_natCast]
theorem run_sliceBounds {b : Bool} {len cap l h m : Nat} {low high mx : Option Value} (hm : (mx = none ∧ m = cap) ∨ ∃ k, mx = some (.int k (m : Int))) (hmc : m ≤ cap)
  (hh : (high = none ∧ mx = none ∧ h = len) ∨ ∃ k, high = some (.int k (h : Int))) (hhm : h ≤ m) (hl : (low = none ∧ l = 0) ∨ ∃ k, low = some (.int k (l : Int))) (hlh : l ≤ h) (w : World) :
  (Instr.sliceBounds b len cap low high mx).run P w = .ok (l, h, m) w := by
 rcases hm with ⟨rfl, rfl⟩ | ⟨km, rfl⟩
 ·rcases hh with ⟨rfl, _, rfl⟩ | ⟨kh, rfl⟩ <;> rcases hl with ⟨rfl, rfl⟩ | ⟨kl, rfl⟩ <;>
   simp [Instr.sliceBounds, run_sliceBound, hmc, hhm, hlh]
 ·rcases hh with ⟨rfl, h1, rfl⟩ | ⟨kh, rfl⟩
  ·cases h1
  ·rcases hl with ⟨rfl, rfl⟩ | ⟨kl, rfl⟩ <;>
    simp [Instr.sliceBounds, run_sliceBound, hmc, hhm, hlh]
theorem opt_val {ρ : Operand → AV} {ρv : Operand → Value} {G : Gh} {w : World} {o : Option Operand} {d n : Nat} (h : optIs ρ o d n) (hρ : ∀ x, o = some x → RV G w (ρ x) (ρv x)) :
  (o.map ρv = none ∧ o = none ∧ n = d) ∨ ∃ k, o.map ρv = some (.int k (n : Int)) := by
 rcases optIs_sound h hρ with ⟨rfl, h1⟩ | ⟨x, k, rfl, h1⟩
 ·exact .inl ⟨rfl, rfl, h1⟩
 ·exact .inr ⟨k, by simp [h1]⟩
theorem sliceOf_sound {T : Nat} {ρ : Operand → AV} {ρv : Operand → Value} {x v : AV} {xv : Value} {lo hi mx : Option Operand} {G : Gh} {w : World} (h : sliceOf P T ρ x lo hi mx v) (hx : RV G w x xv)
    (hlo : ∀ y, lo = some y → RV G w (ρ y) (ρv y)) (hhi : ∀ y, hi = some y → RV G w (ρ y) (ρv y)) (hmx : ∀ y, mx = some y → RV G w (ρ y) (ρv y)) :
    ∃ u, (Instr.sliceAt T xv (lo.map ρv) (hi.map ρv) (mx.map ρv)).run P w = .ok u w ∧ RV G w v u := by
  unfold sliceOf at h
  split at h
  · rename_i k off n sz
    split at h
    · rename_i E sz' by' hrow
      obtain ⟨rfl, rfl, l, h', ol, oh, hlh, hhs, hl0, rfl⟩ := h
      obtain ⟨hE, hs, hp⟩ := rowT_sz hrow
      cases hx with
      | msl hb hn hc =>
        rename_i b cap
        have hb' := run_sliceBounds (P := P) (b := true) (len := n) (cap := cap) (l := l) (h := h') (m := cap) (low := lo.map ρv) (high := hi.map ρv) (mx := none) (.inl ⟨rfl, rfl⟩) (Nat.le_refl _)
          ((opt_val oh hhi).imp (fun h => ⟨h.1, rfl, h.2.2⟩) id) (by omega) ((opt_val ol hlo).imp (fun h => ⟨h.1, h.2.2⟩) id) hlh w
        refine ⟨.slice (if cap = l then some ⟨b, off * sz', none⟩ else (some (⟨b, off * sz', none⟩ : Addr)).map (·.add (l * sz'))) (h' - l) (cap - l), ?_, ?_⟩
        · simp only [Instr.sliceAt, Sem.run_bind, run_underlying hE, Result.andThen_ok, Instr.slice, Option.map_none, Option.isSome_none, Bool.false_eq_true, ↓reduceIte, Sem.run_pure, hb', run_sizeOf hs]
        · have e : (if cap = l then some (⟨b, off * sz', none⟩ : Addr) else (some (⟨b, off * sz', none⟩ : Addr)).map (·.add (l * sz'))) = some ⟨b, (off + l) * sz', none⟩ := by
            split
            · have : l = 0 := by omega
              subst this; simp
            · rw [Option.map_some, add_none, Nat.add_mul]
          rw [e]
          exact .msl hb (by omega) (by omega)
    · exact h.elim
  · rename_i t sz es
    split at h
    · rename_i E sz' by' hrow
      obtain ⟨rfl, rfl, h', oh, hhs, hv⟩ := h
      obtain ⟨hE, hs, hp⟩ := rowT_sz hrow
      cases hx with
      | stk hst =>
        obtain ⟨h1, A, cap, rfl, hcap, hmax, hst⟩ := hst
        split at hv
        · subst hv
          have hb' := run_sliceBounds (P := P) (b := true) (len := es.length) (cap := cap) (l := 0) (h := h') (m := cap) (low := none) (high := hi.map ρv) (mx := none) (.inl ⟨rfl, rfl⟩) (Nat.le_refl _)
            ((opt_val oh hhi).imp (fun h => ⟨h.1, rfl, h.2.2⟩) id) (by omega) (.inl ⟨rfl, rfl⟩) (Nat.zero_le _) w
          refine ⟨.slice (if cap = 0 then A else A.map (·.add (0 * sz'))) (h' - 0) (cap - 0), ?_, ?_⟩
          · simp only [Instr.sliceAt, Sem.run_bind, run_underlying hE, Result.andThen_ok, Instr.slice, Option.map_none, Option.isSome_none, Bool.false_eq_true, ↓reduceIte, Sem.run_pure, hb', run_sizeOf hs]
          · have e : (if cap = 0 then A else A.map (·.add (0 * sz'))) = A := by
              split
              · rfl
              · cases A <;> simp [Addr.add]
            rw [e]
            have hl : (es.take h').length = h' := by simp [hhs]
            refine .stk ⟨h1, A, cap, by rw [hl]; rfl, by omega, hmax, fun x hx => ?_⟩
            have h0 := hst x hx
            cases x with
            | none => exact h0
            | some g =>
              obtain ⟨hA, vs, sp, e, k1, k2, k3, k4, k5⟩ := h0
              have hvl := k4.len
              have hle : h' * sz' ≤ es.length * sz' := Nat.mul_le_mul_right _ hhs
              refine ⟨hA, vs.take (h' * sz'), vs.drop (h' * sz') ++ sp, e, k1, by rw [← List.append_assoc, List.take_append_drop]; exact k2, by rw [← List.append_assoc, List.take_append_drop]; exact k3, ?_, fun u hu => ?_⟩
              · refine ⟨by rw [List.length_take, hl, hvl]; omega, fun u hu => k4.one u (List.mem_of_mem_take hu), fun q hq => k4.each q (List.mem_of_mem_take hq), fun i j hi hj => ?_⟩
                rw [hl] at hi
                simp only [List.getElem_take] at hj ⊢
                obtain ⟨u, hu, hr⟩ := k4.read i j (by omega) hj
                refine ⟨u, ?_, hr⟩
                have hjs : j < sz' := by rw [← k4.each _ (List.getElem_mem (by omega : i < es.length))]; exact hj
                have : (i + 1) * sz' ≤ h' * sz' := Nat.mul_le_mul_right _ (by omega)
                rw [Nat.add_mul] at this
                rw [List.getElem?_take_of_lt (by omega)]
                exact hu
              · rcases List.mem_append.1 hu with hu | hu
                · exact k4.one u (List.mem_of_mem_drop hu)
                · exact k5 u hu
        · rename_i mxo
          obtain ⟨rfl, hsome, om, rfl⟩ := hv
          obtain ⟨ho, rfl⟩ := Option.isSome_iff_exists.1 hsome
          have hb' := run_sliceBounds (P := P) (b := true) (len := es.length) (cap := cap) (l := 0) (h := 0) (m := 0) (low := none) (high := some (ρv ho)) (mx := some (ρv mxo))
            (by rcases opt_val om hmx with h | ⟨k, h⟩; · exact absurd h.1 (by simp)
                · exact .inr ⟨k, h⟩) (Nat.zero_le _)
            (by rcases opt_val oh hhi with h | ⟨k, h⟩; · exact absurd h.1 (by simp)
                · exact .inr ⟨k, h⟩) (Nat.le_refl _) (.inl ⟨rfl, rfl⟩) (Nat.le_refl _) w
          refine ⟨.slice (if 0 = 0 then A else A.map (·.add (0 * sz'))) (0 - 0) (0 - 0), ?_, ?_⟩
          · simp only [Instr.sliceAt, Sem.run_bind, run_underlying hE, Result.andThen_ok, Instr.slice, Option.map_none, Option.map_some, Option.isSome_none, Bool.false_eq_true, ↓reduceIte, Sem.run_pure, hb', run_sizeOf hs]
          · exact .osl (.sl (es := []) (fun _ _ => default) (Nat.zero_le _) (Nat.zero_le _) (by simp) (by simp) (fun a _ i j hi _ => by simp at hi) (fun i j hi _ => by simp at hi)) ⟨_, rfl, fun e => absurd e (by omega)⟩
    · exact h.elim
  · rename_i s
    obtain ⟨hT, rfl, l, h', ol, oh, hlh, hhs, rfl⟩ := h
    have hU := strT_spec hT
    have hxs : xv = .string s := by cases hx with | d h => cases h; rfl
    subst hxs
    have hb := run_sliceBounds (P := P) (b := false) (len := s.size) (cap := s.size) (l := l) (h := h') (m := s.size) (low := lo.map ρv) (high := hi.map ρv) (mx := none) (.inl ⟨rfl, rfl⟩) (Nat.le_refl _)
      ((opt_val oh hhi).imp (fun h => ⟨h.1, rfl, h.2.2⟩) id) hhs ((opt_val ol hlo).imp (fun h => ⟨h.1, h.2.2⟩) id) hlh w
    refine ⟨.string (s.extract l h'), ?_, .raw rfl⟩
    simp only [Instr.sliceAt, Sem.run_bind, run_underlying hU, Result.andThen_ok, Instr.slice, Option.map_none, Option.isSome_none, Bool.false_eq_true, ↓reduceIte, Sem.run_pure, hb]
  · split at h
    · rename_i E sz by' sz' es hrow hes
      obtain ⟨l, h', hsz, ol, oh, hlh, hhs, hv⟩ := h
      obtain ⟨hE, hs, hp⟩ := rowT_sz hrow
      obtain ⟨A, cap, vs, rfl, hcap, hmax, hf⟩ := (hx.elems hes).flat
      have hf' : Flat w.cell? G.ps sz es A vs := hf.resize hsz
      have fin : ∀ m, h' ≤ m → m ≤ cap → Flat w.cell? G.ps sz ((es.take h').drop l) (if m = l then A else A.map (·.add (l * sz))) ((vs.take (h' * sz)).drop (l * sz)) := by
        intro m hm1 hm2
        have hvl := hf'.len
        constructor
        · simp only [List.length_drop, List.length_take, hvl, Nat.min_eq_left hhs, Nat.min_eq_left (Nat.mul_le_mul_right sz hhs), Nat.sub_mul]
        · intro a ha q u hq
          simp only [List.getElem?_drop, List.getElem?_take] at hq
          split at hq
          · rename_i hlt
            have hml : m ≠ l := by
              intro e
              have : h' = l := by omega
              subst this
              omega
            rw [if_neg hml] at ha
            obtain ⟨a0, hA, rfl⟩ := Option.map_eq_some_iff.1 ha
            rw [add_add]
            exact hf'.at_ a0 hA _ u hq
          · cases hq
        · intro u hu
          exact hf'.one u (List.mem_of_mem_take (List.mem_of_mem_drop hu))
        · intro hne
          have hlt : l < h' := by
            rcases Nat.lt_or_ge l h' with h | h
            · exact h
            · exact absurd (List.drop_of_length_le (by simp; omega)) hne
          obtain ⟨a, rfl⟩ := hf'.some_ (by intro e; subst e; simp at hhs; omega)
          rw [if_neg (by omega)]
          exact ⟨_, rfl⟩
        · intro e he
          exact hf'.each e (List.mem_of_mem_take (List.mem_of_mem_drop he))
        · intro i j hi' hj
          simp only [List.length_drop, List.length_take, Nat.min_eq_left hhs] at hi'
          simp only [List.getElem_drop, List.getElem_take] at hj ⊢
          obtain ⟨u, hu, hr⟩ := hf'.read (l + i) j (by omega) hj
          refine ⟨u, ?_, hr⟩
          have hjs : j < sz := by rw [← hf'.each _ (List.getElem_mem (by omega : l + i < es.length))]; exact hj
          have e1 : l * sz + (i * sz + j) = (l + i) * sz + j := by rw [Nat.add_mul]; omega
          rw [List.getElem?_drop, List.getElem?_take, if_pos, e1]
          · exact hu
          · have : (l + i + 1) * sz ≤ h' * sz := Nat.mul_le_mul_right _ (by omega)
            rw [Nat.add_mul, Nat.add_mul] at this
            omega
      have hlen : ((es.take h').drop l).length = h' - l := by simp only [List.length_drop, List.length_take, Nat.min_eq_left hhs]
      cases mx with
      | none =>
        simp only at hv
        subst hv
        have hb := run_sliceBounds (P := P) (b := true) (len := es.length) (cap := cap) (l := l) (h := h') (m := cap) (low := lo.map ρv) (high := hi.map ρv) (mx := none) (.inl ⟨rfl, rfl⟩) (Nat.le_refl _)
          ((opt_val oh hhi).imp (fun h => ⟨h.1, rfl, h.2.2⟩) id) (by omega) ((opt_val ol hlo).imp (fun h => ⟨h.1, h.2.2⟩) id) hlh w
        refine ⟨.slice (if cap = l then A else A.map (·.add (l * sz))) (h' - l) (cap - l), ?_, .d ?_⟩
        · simp only [Instr.sliceAt, Sem.run_bind, run_underlying hE, Result.andThen_ok, Instr.slice, Option.map_none, Option.isSome_none, Bool.false_eq_true, ↓reduceIte, Sem.run_pure, hb, run_sizeOf hs]
        · have := RVd.of_flat (cap := cap - l) (by rw [hlen]; omega) (by omega) (fin cap (by omega) (Nat.le_refl _))
          rw [hlen] at this
          exact this
      | some y =>
        simp only at hv
        obtain ⟨hsome, om, rfl⟩ := hv
        have ohm := opt_val om hmx
        have hm' : ∃ k, (some y).map ρv = some (.int k (h' : Int)) := by
          rcases ohm with ⟨h, _⟩ | h
          · simp at h
          · exact h
        have hh' : ∃ k, hi.map ρv = some (.int k (h' : Int)) := by
          rcases opt_val oh hhi with ⟨_, h, _⟩ | h
          · subst h; simp at hsome
          · exact h
        have hb := run_sliceBounds (P := P) (b := true) (len := es.length) (cap := cap) (l := l) (h := h') (m := h') (low := lo.map ρv) (high := hi.map ρv) (mx := (some y).map ρv) (.inr hm') (by omega)
          (.inr hh') (Nat.le_refl _) ((opt_val ol hlo).imp (fun h => ⟨h.1, h.2.2⟩) id) hlh w
        refine ⟨.slice (if h' = l then A else A.map (·.add (l * sz))) (h' - l) (h' - l), ?_, .osl ?_ ?_⟩
        · simp only [Instr.sliceAt, Sem.run_bind, run_underlying hE, Result.andThen_ok, Instr.slice, Option.map_none, Option.isSome_none, Bool.false_eq_true, ↓reduceIte, Sem.run_pure, hb, run_sizeOf hs]
        · have := RVd.of_flat (cap := h' - l) (by rw [hlen]; omega) (by omega) (fin h' (Nat.le_refl _) (by omega))
          rw [hlen] at this
          exact this
        · rw [hlen]; exact ⟨_, rfl, fun e => absurd e (by omega)⟩
    · exact h.elim
theorem run_places : ∀ (l : List Field) (w : World), (l.all fun f => (P.info? f.type).isSome) = true →
  (l.mapM (m := Sem) fun f => do pure (f.offset, ← sizeOf f.type)).run P w = .ok (l.map fun f => (f.offset, ((P.info? f.type).map (·.size)).getD 0)) w
 | [], w, _ => by simp
 | f :: l, w, h => by
  simp only [List.all_cons, Bool.and_eq_true] at h
  obtain ⟨i, hi⟩ := Option.isSome_iff_exists.1 h.1
  have ih := run_places l w h.2
  have hs : (sizeOf f.type).run P w = .ok i.size w := run_sizeOf (by simp [szOf, hi]) w
  simp only [List.mapM_cons, Sem.run_bind, hs, Result.andThen_ok, Sem.run_pure, ih, List.map_cons, hi, Option.map_some, Option.getD_some]
theorem foldl_put : ∀ (vs : List Value) (k off : Nat) (cells : Array Value),
  ((vs.zipIdx k).foldl (fun cs (x : Value × Nat) => cs.setIfInBounds (off + x.2) x.1) cells).toList = setCells cells.toList (off + k) vs
 | [], k, off, cells => by simp [setCells]
 | v :: vs, k, off, cells => by
  simp only [List.zipIdx_cons, List.foldl_cons]
  rw [foldl_put vs (k + 1) off, setCells]
  simp [Array.toList_setIfInBounds, Nat.add_assoc]
theorem foldl_put' (v : Value) (off : Nat) (cells : Array Value) :
  (v.cells.zipIdx.foldl (fun cs (x : Value × Nat) => cs.setIfInBounds (off + x.2) x.1) cells).toList = setCells cells.toList off v.cells.toList := by
 have := foldl_put v.cells.toList 0 off cells
 rw [Nat.add_zero] at this
 rw [← this, ← Array.foldl_toList]
 congr 2
 simp
theorem fill_sound {G : Gh} {w : World} (pl : List (Nat × Nat)) (place : Nat → Option (Nat × Nat)) (hpl : ∀ i, place i = pl[i]?) : ∀ (parts : List (Nat × AV)) (pv : List (Nat × Value)) (cells : List AV) (cv : Array Value) (out : List AV),
  pv.length = parts.length → (∀ j (h1 : j < parts.length) (h2 : j < pv.length), parts[j].1 = pv[j].1 ∧ RV G w parts[j].2 pv[j].2) → RVs G w cells cv.toList → (∀ u ∈ cv.toList, u.oneCell' = true) →
  fillA pl cells parts = some out → ∃ ov : Array Value, Instr.fill place cv pv = some ov ∧ RVs G w out ov.toList ∧ (∀ u ∈ ov.toList, u.oneCell' = true)
 | [], pv, cells, cv, out, hl, hp, hR, h1, h => by
  have : pv = [] := List.eq_nil_of_length_eq_zero (by simpa using hl)
  subst this
  simp only [fillA, Option.some.injEq] at h
  subst h
  exact ⟨cv, rfl, hR, h1⟩
 | (i, x) :: parts, pv, cells, cv, out, hl, hp, hR, h1, h => by
  cases pv with
  | nil => simp at hl
  | cons q pv =>
   obtain ⟨i', xv⟩ := q
   have h0 := hp 0 (by simp) (by simp)
   simp only [List.getElem_cons_zero] at h0
   obtain ⟨rfl, hx⟩ := h0
   simp only [fillA] at h
   split at h
   ·rename_i off n cs hi hcs
    split at h
    ·rename_i hc
     obtain ⟨hcl, hle⟩ := hc
     obtain ⟨hcR, hc1⟩ := hx.cells hcs
     have hlen : xv.cells.size = n := by have := hcR.1; simp at this; omega
     have hcv : cv.size = cells.length := by have := hR.1; simpa using this.symm
     have e := foldl_put' xv off cv
     obtain ⟨ov, ho, hoR, ho1⟩ := fill_sound pl place hpl parts pv (setCells cells off cs) (xv.cells.zipIdx.foldl (fun cs (x : Value × Nat) => cs.setIfInBounds (off + x.2) x.1) cv) out
      (by simpa using hl) (fun j g1 g2 => hp (j + 1) (by simpa using g1) (by simpa using g2)) (by rw [e]; exact hR.setCells hcR)
      (by rw [e]; exact mem_setCells (p := fun u => Value.oneCell' u = true) _ _ _ h1 hc1) h
     refine ⟨ov, ?_, hoR, ho1⟩
     simp only [Instr.fill, hpl, hi]
     rw [if_neg]
     ·exact ho
     ·simp [hlen]; omega
    ·cases h
   ·cases h
theorem build_soundS {T : Nat} {parts : Array (Nat × Operand)} {ρ : Operand → AV} {ρv : Operand → Value} {G : Gh} {w : World} {pl : List (Nat × Nat)} {zs : List Value} {cs : List AV} (hpl : structT P T = some pl) (hz : zeroT P T = some zs)
  (h : fillA pl (zs.map ofVal1) (parts.toList.map fun p => (p.1, ρ p.2)) = some cs) (hρ : ∀ p ∈ parts.toList, RV G w (ρ p.2) (ρv p.2)) :
  ∃ u, (Instr.build T (parts.map fun (i, x) => (i, ρv x))).run P w = .ok u w ∧ RV G w (.agg cs) u := by
 unfold structT at hpl
 split at hpl
 ·rename_i fs hfs
  split at hpl
  ·rename_i hall
   simp only [Option.some.injEq] at hpl
   subst hpl
   unfold zeroT at hz
   split at hz
   ·rename_i z hzz
    split at hz
    ·rename_i hone
     simp only [Option.some.injEq] at hz
     subst hz
     obtain ⟨i, hi, hzi⟩ := Option.bind_eq_some_iff.1 hzz
     have hzr : (zeroValue T).run P w = .ok z w := by simp [zeroValue, typeInfo, hi, hzi]
     have hpr : (fs.mapM (m := Sem) fun f => do pure (f.offset, ← sizeOf f.type)).run P w = .ok (fs.toList.map fun f => (f.offset, ((P.info? f.type).map (·.size)).getD 0)).toArray w := by
      rw [Array.mapM_eq_mapM_toList]
      have := run_places (P := P) fs.toList w (by simpa using hall)
      simp only [map_eq_pure_bind, Sem.run_bind, this, Result.andThen_ok, Sem.run_pure]
     obtain ⟨ov, h1, h2, h3⟩ := fill_sound (G := G) (w := w) (fs.toList.map fun f => (f.offset, ((P.info? f.type).map (·.size)).getD 0)) ((fs.toList.map fun f => (f.offset, ((P.info? f.type).map (·.size)).getD 0)).toArray[·]?) (by intro i; simp)
      (parts.toList.map fun p => (p.1, ρ p.2)) ((parts.map fun (i, x) => (i, ρv x)).toList) (z.cells.toList.map ofVal1) z.cells cs (by simp)
      (by
       intro j g1 g2
       simp at g1 g2
       simp only [List.getElem_map, Array.toList_map]
       exact ⟨trivial, hρ _ (List.getElem_mem _)⟩)
      ⟨by simp, fun j g1 g2 => by simp only [List.getElem_map]; exact RV.of_ofVal1 _⟩ (fun u hu => List.all_eq_true.1 hone u hu) h
     refine ⟨.agg ov, ?_, ?_⟩
     ·simp only [Instr.build, Sem.run_bind, hzr, Result.andThen_ok, run_underlying hfs, hpr, h1, Sem.run_pure]
     ·have := RV.agg (G := G) (w := w) h2.1 h2.2 h3
      simpa using this
    ·cases hz
   ·cases hz
  ·cases hpl
 ·cases hpl
theorem fillA_nil {cells cs : List AV} {l : List (Nat × AV)} (h : fillA [] cells l = some cs) : l = [] ∧ cs = cells := by
 cases l with
 | nil => simp [fillA] at h; exact ⟨rfl, h.symm⟩
 | cons p r =>
  obtain ⟨i, x⟩ := p
  simp [fillA] at h
theorem build_sound {T : Nat} {parts : Array (Nat × Operand)} {ρ : Operand → AV} {ρv : Operand → Value} {G : Gh} {w : World} {pl : List (Nat × Nat)} {zs : List Value} {cs : List AV} (hpl : buildT P T = some pl) (hz : zeroT P T = some zs)
  (h : fillA pl (zs.map ofVal1) (parts.toList.map fun p => (p.1, ρ p.2)) = some cs) (hρ : ∀ p ∈ parts.toList, RV G w (ρ p.2) (ρv p.2)) :
  ∃ u, (Instr.build T (parts.map fun (i, x) => (i, ρv x))).run P w = .ok u w ∧ RV G w (.agg cs) u := by
 unfold buildT at hpl
 split at hpl
 ·rename_i pl' hs
  cases hpl
  exact build_soundS hs hz h hρ
 ·split at hpl
  ·rename_i n e ha
   split at hpl
   ·rename_i s hsz
    cases hpl
    obtain ⟨hp, rfl⟩ := fillA_nil h
    have hp0 : parts = #[] := by
     have : parts.toList = [] := by simpa using hp
     cases parts; simp_all
    subst hp0
    have hu : P.underlying T = some (.array n e) := by
     unfold arrT at ha
     split at ha
     ·cases ha; assumption
     ·cases ha
    unfold zeroT at hz
    split at hz
    ·rename_i z hzz
     split at hz
     ·rename_i hone
      simp only [Option.some.injEq] at hz
      subst hz
      obtain ⟨i, hi, hzi⟩ := Option.bind_eq_some_iff.1 hzz
      have hzr : (zeroValue T).run P w = .ok z w := by simp [zeroValue, typeInfo, hi, hzi]
      refine ⟨.agg z.cells, ?_, ?_⟩
      ·simp only [Instr.build, Sem.run_bind, hzr, Result.andThen_ok, run_underlying hu, run_sizeOf hsz]
       simp [Instr.fill]
      ·have := RV.agg (G := G) (w := w) (cs := z.cells.toList.map ofVal1) (vs := z.cells.toList) (by simp) (fun i h1 h2 => by simp only [List.getElem_map]; exact RV.of_ofVal1 _) (fun u hu => List.all_eq_true.1 hone u hu)
       simpa using this
     ·cases hz
    ·cases hz
   ·cases hpl
  ·cases hpl
theorem rowsOf_spec {G : Gh} {w : World} : ∀ {xs : List AV} {vs : List Value} {rows : List (List D)}, RVs G w xs vs → rowsOf xs = some rows →
  rows.length = vs.length ∧ ∀ i (h1 : i < rows.length) (h2 : i < vs.length), (∀ u ∈ vs[i].cells.toList, u.oneCell' = true) ∧ rows[i].length = vs[i].cells.toList.length ∧
   ∀ j (g1 : j < rows[i].length) (g2 : j < vs[i].cells.toList.length), RVd w.cell? G.ps rows[i][j] vs[i].cells.toList[j]
 | [], vs, rows, r, h => by
  simp [rowsOf] at h
  subst h
  exact ⟨r.1, fun i h1 => by simp at h1⟩
 | x :: xs, vs, rows, r, h => by
  obtain ⟨v, us, rfl, h1, h2⟩ := r.uncons
  simp only [rowsOf] at h
  split at h
  ·rename_i cs rs hcs hrs
   split at h
   ·rename_i ds hds
    simp only [Option.some.injEq] at h
    subst h
    obtain ⟨k1, k2⟩ := rowsOf_spec h2 hrs
    obtain ⟨c1, c2⟩ := h1.cells hcs
    obtain ⟨d1, d2⟩ := toDs_spec c1 hds
    refine ⟨by simp [k1], fun i g1 g2 => ?_⟩
    cases i with
    | zero => exact ⟨c2, d1, d2⟩
    | succ i => exact k2 i (by simpa using g1) (by simpa using g2)
   ·cases h
  ·cases h
theorem fill_all {sz : Nat} : ∀ (vs : List Value) (k : Nat) (cells : Array Value), (∀ v ∈ vs, v.cells.size = sz) → cells.size = (k + vs.length) * sz →
  ∃ ov : Array Value, Instr.fill (fun i => some (i * sz, sz)) cells ((List.range' k vs.length).zip vs) = some ov ∧ ov.toList = cells.toList.take (k * sz) ++ (vs.map fun v => v.cells.toList).flatten
 | [], k, cells, hv, hs => by
  refine ⟨cells, rfl, ?_⟩
  simp only [List.length_nil, Nat.add_zero] at hs
  rw [← hs]
  have : cells.toList.length = cells.size := by simp
  rw [← this, List.take_length]
  simp
 | v :: vs, k, cells, hv, hs => by
  have hvs := hv v (by simp)
  have e := foldl_put' v (k * sz) cells
  have hs' : (v.cells.zipIdx.foldl (fun cs (x : Value × Nat) => cs.setIfInBounds (k * sz + x.2) x.1) cells).size = cells.size := by
   have := congrArg List.length e
   rw [length_setCells] at this
   simpa using this
  have hle : k * sz + v.cells.toList.length ≤ cells.toList.length := by
   have h1 : v.cells.toList.length = sz := by simp [hvs]
   have h2 : cells.toList.length = cells.size := by simp
   rw [h1, h2, hs, List.length_cons, Nat.add_mul, Nat.add_mul]
   omega
  obtain ⟨ov, h1, h2⟩ := fill_all vs (k + 1) (v.cells.zipIdx.foldl (fun cs (x : Value × Nat) => cs.setIfInBounds (k * sz + x.2) x.1) cells) (fun u hu => hv u (by simp [hu])) (by rw [hs', hs]; simp only [List.length_cons]; congr 1; omega)
  refine ⟨ov, ?_, ?_⟩
  ·simp only [List.length_cons, List.range'_succ, List.zip_cons_cons, Instr.fill]
   rw [if_neg]
   ·exact h1
   ·simp [hvs]
    rw [hs, List.length_cons, Nat.add_mul, Nat.add_mul]
    omega
  ·rw [h2, e, setCells_eq _ _ _ hle]
   have h3 : v.cells.toList.length = sz := by simp [hvs]
   have h4 : (k + 1) * sz = k * sz + sz := by rw [Nat.add_mul]; omega
   have h5 : (List.take (k * sz) cells.toList).length = k * sz := by rw [List.length_take]; omega
   rw [h4, List.append_assoc, List.take_append, h5, Nat.add_sub_cancel_left, List.take_of_length_le (by rw [h5]; omega), List.take_append_of_le_length (by omega), List.take_of_length_le (l := v.cells.toList) (by omega)]
   simp
theorem buildSlice_sound {T E sz by' len : Nat} {parts : Array (Nat × Operand)} {ρ : Operand → AV} {ρv : Operand → Value} {G : Gh} {m : AMem} {w : World} {rows : List (List D)} (hrow : rowT P T = some (E, sz, by'))
  (hr : rowsOf (parts.toList.map fun p => ρ p.2) = some rows) (hp : parts.toList.map (·.1) = List.range len) (hs : ∀ r ∈ rows, r.length = sz) (h24 : len * sz ≤ 16777216)
  (hρ : ∀ p ∈ parts.toList, RV G w (ρ p.2) (ρv p.2)) (hm : RelM G m w) :
  ∃ u o, (Instr.buildSlice T len (parts.map fun (i, x) => (i, ρv x))).run P w = .ok u (w.alloc o) ∧ RV G (w.alloc o) (.osl sz rows .full) u := by
 obtain ⟨hE, i, z, hi, hz, hzs, his, hib, hszp, _⟩ := rowT_spec hrow
 have hsz : (sizeOf E).run P w = .ok sz w := run_sizeOf (by simp [szOf, hi, his]) w
 have hzr : (zeroValue E).run P w = .ok z w := by simp [zeroValue, typeInfo, hi, hz]
 let vs : List Value := parts.toList.map fun p => ρv p.2
 have hlen : len = vs.length := by
  have := congrArg List.length hp
  simpa [vs] using this.symm
 have hRs : RVs G w (parts.toList.map fun p => ρ p.2) vs := ⟨by simp [vs], fun j g1 g2 => by
  simp only [List.getElem_map, vs]
  exact hρ _ (List.getElem_mem _)⟩
 obtain ⟨k1, k2⟩ := rowsOf_spec hRs hr
 have hvsz : ∀ v ∈ vs, v.cells.size = sz := by
  intro v hv
  obtain ⟨j, hj, rfl⟩ := List.getElem_of_mem hv
  have := (k2 j (by omega) hj).2.1
  rw [hs _ (List.getElem_mem _)] at this
  simpa using this.symm
 have hparts : (parts.map fun (i, x) => (i, ρv x)).toList = (List.range' 0 vs.length).zip vs := by
  rw [← hlen]
  have e1 : (List.range' 0 len) = parts.toList.map (·.1) := by rw [hp, List.range_eq_range']
  rw [e1, Array.toList_map]
  show _ = (parts.toList.map (·.1)).zip (parts.toList.map fun p => ρv p.2)
  rw [List.zip_map']
 let zc : Array Value := if len * sz = 0 then #[] else z.cells
 obtain ⟨ov, h1, h2⟩ := fill_all (sz := sz) vs 0 ((Array.range (len * sz)).map (zc[· % zc.size]!)) hvsz (by simp [hlen])
 simp only [Nat.zero_mul, List.take_zero, List.nil_append] at h2
 have h24' : ¬ (len * sz > 2 ^ 24) := by omega
 refine ⟨.slice (some ⟨w.heap.size, 0, none⟩) len len, .cells ov E, ?_, ?_⟩
 ·by_cases h0 : len * sz = 0
  ·have hzc : zc = #[] := by simp only [zc, h0, ↓reduceIte]
   rw [hzc] at h1
   have h00 : ¬ ((0 : Nat) > 2 ^ 24) := by omega
   simp only [Instr.buildSlice, Sem.run_bind, run_underlying hE, Result.andThen_ok, hsz, h24', h00, ↓reduceIte, h0, Sem.run_pure] at h1 ⊢
   simp only [hparts, h1, Sem.run_bind, newRow, Sem.run_pure, Result.andThen_ok]
   rfl
  ·have hzc : zc = z.cells := by simp only [zc, h0, ↓reduceIte]
   rw [hzc] at h1
   simp only [Instr.buildSlice, Sem.run_bind, run_underlying hE, Result.andThen_ok, hsz, h24', ↓reduceIte, h0, hzr, Sem.run_pure] at h1 ⊢
   simp only [hparts, h1, Sem.run_bind, newRow, Sem.run_pure, Result.andThen_ok]
   rfl
 ·have hla := Le.alloc (w := w) hm.fresh (.cells ov E)
  have hvlen : ∀ v ∈ vs.map (fun v => v.cells.toList), v.length = sz := by
   intro l hl
   simp only [List.mem_map] at hl
   obtain ⟨v, hv, rfl⟩ := hl
   simpa using hvsz v hv
  have hflat : Flat (w.alloc (.cells ov E)).cell? G.ps sz rows (some ⟨w.heap.size, 0, none⟩) ov.toList := by
   constructor
   ·rw [h2, flat_len hvlen, List.length_map, ← k1]
   ·intro a ha q u hq
    cases ha
    rw [add_none]
    refine ⟨?_, ?_⟩
    ·unfold Gh.ps
     rw [hm.fresh w.heap.size (Nat.le_refl _)]
     trivial
    ·rw [cell_of_row _ w.heap.size _ ov E (0, 0) (heap_alloc_new w _), Nat.zero_add]
     simpa using hq
   ·intro u hu
    rw [h2] at hu
    simp only [List.mem_flatten, List.mem_map] at hu
    obtain ⟨l, ⟨v, hv, rfl⟩, hul⟩ := hu
    obtain ⟨j, hj, rfl⟩ := List.getElem_of_mem hv
    exact (k2 j (by omega) hj).1 u hul
   ·exact fun _ => ⟨_, rfl⟩
   ·exact hs
   ·intro a b ha hb
    have hav : a < vs.length := by omega
    have hbs : b < sz := by rw [← hs _ (List.getElem_mem ha)]; exact hb
    obtain ⟨_, g2, g3⟩ := k2 a ha hav
    have hrow' : (vs.map fun v => v.cells.toList)[a]? = some vs[a].cells.toList := by simp [hav]
    refine ⟨vs[a].cells.toList[b]'(by omega), ?_, (g3 b hb (by omega)).mono hla.cells⟩
    rw [h2, flat_get hvlen hrow' hbs]
    exact List.getElem?_eq_getElem _
  have hrl : rows.length = len := by omega
  have := RVd.of_flat (cap := len) (by omega) (by unfold maxLen; have := Nat.le_mul_of_pos_right len hszp; omega) hflat
  rw [hrl] at this
  exact .osl this (by rw [hrl]; exact ⟨_, rfl, fun e => absurd e (by omega)⟩)
end Go.AM
namespace Go.AM
open Go
variable {P : Program}
theorem After.pure {o : Oper} {ρv : Operand → Value} {G : Gh} {w : World} {R : Value → Gh → World → Prop} {u : Value} (h : (execOp ρv o).run P w = .ok (.value u) w) (hr : R u G w) : After P o ρv G w R :=
 ⟨.value u, u, G, w, h, .inl rfl, Le.refl G w, hr⟩
theorem structT_spec {T f off n : Nat} {pl : List (Nat × Nat)} (h : structT P T = some pl) (hf : pl[f]? = some (off, n)) : ∃ fs x, P.underlying T = some (.struct fs) ∧ fs[f]? = some x ∧ x.offset = off ∧ szOf P x.type = some n := by
 unfold structT at h
 split at h
 ·rename_i fs hfs
  split at h
  ·rename_i hall
   simp only [Option.some.injEq] at h
   subst h
   simp only [List.getElem?_map] at hf
   obtain ⟨x, hx, hx2⟩ := Option.map_eq_some_iff.1 hf
   have hx' : fs[f]? = some x := by simpa using hx
   have hmem : x ∈ fs.toList := List.mem_of_getElem? hx
   obtain ⟨i, hi⟩ := Option.isSome_iff_exists.1 (List.all_eq_true.1 hall x hmem)
   simp only [Prod.mk.injEq, hi, Option.map_some, Option.getD_some] at hx2
   exact ⟨fs, x, hfs, hx', hx2.1, by simp [szOf, hi, hx2.2]⟩
  ·cases h
 ·cases h
theorem run_fieldAt {T f off n : Nat} {pl : List (Nat × Nat)} (h : structT P T = some pl) (hf : pl[f]? = some (off, n)) (hn : n ≠ 0) (a : Addr) (w : World) : (Instr.fieldAt T (.pointer (some a)) f).run P w = .ok (.pointer (some (a.add off))) w := by
 obtain ⟨fs, x, h1, h2, h3, h4⟩ := structT_spec h hf
 simp only [Instr.fieldAt, Sem.run_bind, run_underlying h1, Result.andThen_ok, h2, Instr.sureAddr, Sem.run_pure, fieldPlace, run_sizeOf h4, hn, ↓reduceIte, h3]
theorem cells_get {G : Gh} {w : World} {cs : List AV} {vs : List Value} (h : RVs G w cs vs) {ag : Bool} {n off : Nat} {v : AV} (hl : loadA ag n cs off = some v) (h1 : ∀ u ∈ vs, u.oneCell' = true) :
  ∃ u, (if ag then (some (.agg (vs.toArray.extract off (off + n))) : Option Value) else vs[off]?) = some u ∧ RV G w v u := by
 unfold loadA at hl
 cases ag with
 | false =>
  simp only [Bool.false_eq_true, ↓reduceIte] at hl ⊢
  obtain ⟨u, hu, hr⟩ := h.get hl
  exact ⟨u, hu, hr⟩
 | true =>
  simp only [↓reduceIte] at hl ⊢
  split at hl
  ·simp only [Option.some.injEq] at hl
   subst hl
   refine ⟨_, rfl, ?_⟩
   have hs := (h.drop off).take n
   have e : vs.toArray.extract off (off + n) = ((vs.drop off).take n).toArray := by
    simp only [List.extract_toArray, List.extract_eq_take_drop, Nat.add_sub_cancel_left]
   rw [e]
   exact .agg hs.1 hs.2 (fun u hu => h1 u (List.mem_of_mem_drop (List.mem_of_mem_take hu)))
  ·cases hl
theorem run_part {T off n : Nat} {ag : Bool} {cs : Array Value} {u : Value} (hag : aggT P T = some ag) (hn : szOf P T = some n) (h : (if ag then (some (.agg (cs.extract off (off + n))) : Option Value) else cs[off]?) = some u) (w : World) :
  (part T cs off).run P w = .ok u w := by
 cases ag with
 | false =>
  simp only [Bool.false_eq_true, ↓reduceIte] at h
  simp only [part, Sem.run_bind, run_isAgg hag, Result.andThen_ok, Bool.false_eq_true, ↓reduceIte, h, Sem.run_pure]
 | true =>
  simp only [↓reduceIte, Option.some.injEq] at h
  simp only [part, Sem.run_bind, run_isAgg hag, Result.andThen_ok, ↓reduceIte, run_sizeOf hn, Sem.run_pure, h]
def zrow (k : Nat) (T : TypeId) (zs : List Value) : List AV := match zs with
 | [.pointer none, .slice none 0 0] => [.here k T, ofVal1 (.slice none 0 0)]
 | zs => zs.map ofVal1
theorem zrow_rv {G : Gh} {w : World} {k b sz : Nat} {T : TypeId} {cs : Array Value} {f : Nat × Nat} (zs : List Value) (h : G.bx k = some (b, sz)) (ht : w.heap[b]? = some (.cells cs T f)) : RVs G w (zrow k T zs) zs := by
 unfold zrow
 split
 ·exact RVs.cons (.here h ht) (RVs.cons (RV.of_ofVal1 _) RVs.nil)
 ·exact ⟨by simp, fun j g1 g2 => by simp only [List.getElem_map]; exact RV.of_ofVal1 _⟩
def Pend (P : Program) (base : Nat) (o : Oper) (G : Gh) (box : Bxs) : Prop := match o.op, o.dst with
 | .alloc T, some s => ∃ zs, zeroT P T = some zs ∧ box (base + s) = some [zrow (base + s) T zs] ∧ G.bx (base + s) = none
 | _, _ => True
theorem upd_self {α : Type} (f : Nat → α) (k : Nat) (v : α) (h : f k = v) : upd f k v = f := by
 funext j
 unfold upd
 split
 ·rename_i e; rw [e, h]
 ·rfl
theorem rawsOf_get {ρ : Operand → AV} {ρv : Operand → Value} {G : Gh} {w : World} : ∀ {xs : List Operand} {vs : List Value}, rawsOf (xs.map ρ) = some vs → (∀ x ∈ xs, RV G w (ρ x) (ρv x)) → xs.map ρv = vs := by
 intro xs vs h hρ
 exact rawsOf_spec (G := G) (w := w) h ⟨by simp, fun i h1 h2 => by simp only [List.getElem_map]; exact hρ _ (List.getElem_mem _)⟩
set_option maxHeartbeats 1000000 in
theorem effN_sound {base : Nat} {o : Oper} {ρ : Operand → AV} {ρv : Operand → Value} {G : Gh} {m : AMem} {w : World} {v : AV} (h : EffN P base o ρ v)
  (hρ : ∀ x ∈ o.op.operands, RV G w (ρ x) (ρv x)) (hm : RelM G m w) (hd : ∀ s, o.dst = some s → base + s < m.nb) (hp : Pend P base o G m.box) :
  After P o ρv G w fun u G' w' => RV G' w' v u ∧ RelM G' m w' ∧ ∀ k, some k ≠ o.dst.map (base + ·) → G.bx k = none → G'.bx k = none := by
 have keep : ∀ u, (execOp ρv o).run P w = .ok (.value u) w → RV G w v u → After P o ρv G w fun u G' w' => RV G' w' v u ∧ RelM G' m w' ∧ ∀ k, some k ≠ o.dst.map (base + ·) → G.bx k = none → G'.bx k = none :=
  fun u h1 h2 => .pure h1 ⟨h2, hm, fun _ _ h => h⟩
 unfold EffN at h
 split at h
 ·rename_i x ho
  subst h
  exact keep (ρv x) (by simp only [execOp, ho, Sem.run_pure]) (hρ x (by rw [ho]; simp [Op.operands]))
 ·rename_i x ho
  subst h
  exact keep (ρv x) (by simp only [execOp, ho, Sem.run_pure]) (hρ x (by rw [ho]; simp [Op.operands]))
 ·rename_i c a b ho
  split at h
  ·rename_i t hc
   have h1 := hρ c (by rw [ho]; simp [Op.operands])
   rw [hc] at h1
   have h2 : ρv c = .bool t := rawOf_spec rfl h1
   subst h
   cases t with
   | true => exact keep (ρv a) (by simp [execOp, ho, h2, asBool]) (hρ a (by rw [ho]; simp [Op.operands]))
   | false => exact keep (ρv b) (by simp [execOp, ho, h2, asBool]) (hρ b (by rw [ho]; simp [Op.operands]))
  ·exact h.elim
 ·rename_i T ho
  split at h
  ·rename_i s hs
   subst h
   unfold Pend at hp
   rw [ho, hs] at hp
   obtain ⟨zs, hz, hbox, hbx⟩ := hp
   unfold zeroT at hz
   split at hz
   ·rename_i z hzz
    split at hz
    ·rename_i hone
     simp only [Option.some.injEq] at hz
     subst hz
     obtain ⟨i, hi, hzi⟩ := Option.bind_eq_some_iff.1 hzz
     have hzr : (zeroValue T).run P w = .ok z w := by simp [zeroValue, typeInfo, hi, hzi]
     have hrel := hm.mkbox' (k := base + s) hbx (hd s hs) (sz := (zrow (base + s) T z.cells.toList).length) (rows := [zrow (base + s) T z.cells.toList]) (by simp) (cs := z.cells) T
      (by simp only [List.flatten_cons, List.flatten_nil, List.append_nil]; exact zrow_rv _ (by simp only [Gh.mkbox]; exact upd_same _ _ _) (heap_alloc_new w _)) (fun u hu => List.all_eq_true.1 hone u hu)
     have hself : ({ m with box := upd m.box (base + s) (some [zrow (base + s) T z.cells.toList]) } : AMem) = m := by
      cases m
      simp only [AMem.mk.injEq, and_true]
      exact upd_self _ _ _ hbox
     rw [hself] at hrel
     refine ⟨.value (.pointer (some ⟨w.heap.size, 0, none⟩)), _, _, w.alloc (.cells z.cells T), ?_, .inl rfl, Le.mkbox hm.fresh hm.tlt hbx _ _, ?_, hrel, ?_⟩
     ·simp only [execOp, ho, Instr.alloc, newVar, newRow, Sem.run_bind, hzr, Sem.run_pure, Result.andThen_ok]
      rfl
     ·have : (⟨w.heap.size, 0, none⟩ : Addr) = ⟨w.heap.size, 0 * (zrow (base + s) T z.cells.toList).length + 0, none⟩ := by simp
      rw [this]
      exact .ptr (by simp [Gh.mkbox, upd_same])
     ·intro k hk hg
      have hne : k ≠ base + s := fun e => hk (by rw [hs, e]; rfl)
      simp only [Gh.mkbox]
      rw [upd_other _ _ hne]
      exact hg
    ·cases hz
   ·cases hz
  ·exact h.elim
 ·rename_i T parts ho
  split at h
  ·rename_i pl zs hpl hz
   split at h
   ·rename_i cs hcs
    subst h
    obtain ⟨u, h1, h2⟩ := build_sound (ρv := ρv) hpl hz hcs (fun p hp => hρ p.2 (by rw [ho]; simp only [Op.operands]; rw [← Array.mem_toList_iff]; simpa using ⟨p.1, by simpa using hp⟩))
    exact keep u (by simp only [execOp, ho, Sem.run_bind, h1, Result.andThen_ok, Sem.run_pure]) h2
   ·exact h.elim
  ·exact h.elim
 ·rename_i T len parts ho
  split at h
  ·rename_i E sz by' rows hrow hr
   obtain ⟨h1, h2, h3, rfl⟩ := h
   obtain ⟨u, ob, h4, h5⟩ := buildSlice_sound (ρv := ρv) hrow hr h1 h2 h3 (fun p hp => hρ p.2 (by rw [ho]; simp only [Op.operands]; rw [← Array.mem_toList_iff]; simpa using ⟨p.1, by simpa using hp⟩)) hm
   exact ⟨.value u, u, G, w.alloc ob, by simp only [execOp, ho, Sem.run_bind, h4, Result.andThen_ok, Sem.run_pure], .inl rfl, Le.alloc hm.fresh ob, h5, hm.alloc ob, fun _ _ h => h⟩
  ·exact h.elim
 ·rename_i x ho
  have h1 := hρ x (by rw [ho]; simp [Op.operands])
  split at h
  ·rename_i k i off hx
   subst h
   rw [hx] at h1
   generalize hv : ρv x = xv at h1
   have h1' := h1
   cases h1' with
   | ptr hb => exact keep _ (by simp only [execOp, ho, hv, Sem.run_pure]) h1
  ·rename_i cs off hx
   subst h
   rw [hx] at h1
   generalize hv : ρv x = xv at h1
   have h1' := h1
   cases h1' with
   | cptr a u hc hr => exact keep _ (by simp only [execOp, ho, hv, Sem.run_pure]) h1
  ·rename_i f caps hx
   subst h
   rw [hx] at h1
   generalize hv : ρv x = xv at h1
   have h1' := h1
   cases h1' with
   | fn hl hh => exact keep _ (by simp only [execOp, ho, hv, Sem.run_pure]) h1
  ·exact h.elim
 ·rename_i op T x y T2 ho
  split at h
  ·rename_i a b ha hb
   obtain ⟨r, hr, rfl⟩ := h
   have h1 := rawOf_spec ha (hρ x (by rw [ho]; simp [Op.operands]))
   have h2 := rawOf_spec hb (hρ y (by rw [ho]; simp [Op.operands]))
   refine keep r ?_ (.raw hr.1)
   have := hr.2 x y w
   simp only [execOp, ho, h1, h2, Sem.run_bind, Sem.run_pure] at this ⊢
   rw [this]
   rfl
  ·exact h.elim
 ·rename_i op T x ho
  split at h
  ·rename_i a ha
   obtain ⟨r, hr, rfl⟩ := h
   have h1 := rawOf_spec ha (hρ x (by rw [ho]; simp [Op.operands]))
   exact keep r (by simp only [execOp, ho, h1, Sem.run_bind, hr.2 w, Result.andThen_ok, Sem.run_pure]) (.raw hr.1)
  ·exact h.elim
 ·rename_i s t x ho
  split at h
  ·rename_i a ha
   obtain ⟨r, hr, rfl⟩ := h
   have h1 := rawOf_spec ha (hρ x (by rw [ho]; simp [Op.operands]))
   exact keep r (by simp only [execOp, ho, h1, Sem.run_bind, hr.2 w, Result.andThen_ok, Sem.run_pure]) (.raw hr.1)
  ·exact h.elim
 ·rename_i fn first caps ho
  obtain ⟨h0, rfl⟩ := h
  have hf : first = #[] := by rw [← Array.toArray_toList (xs := first), h0]
  subst hf
  refine keep (.func fn #[] (caps.map ρv)) (by simp [execOp, ho, Instr.makeFunc]) ?_
  have := RV.fn (G := G) (w := w) (f := fn) (caps := caps.toList.map ρ) (vs := caps.toList.map ρv) (by simp) (fun i h1 h2 => by
   simp only [List.getElem_map]
   exact hρ _ (by rw [ho]; simp only [Op.operands]; rw [← Array.mem_toList_iff]; simp))
  have e : caps.map ρv = (caps.toList.map ρv).toArray := by rw [← Array.toList_map, Array.toArray_toList]
  rw [e]
  exact this
 ·rename_i T x f ho
  have h1 := hρ x (by rw [ho]; simp [Op.operands])
  split at h
  ·rename_i pl hpl
   split at h
   ·rename_i off n cs o' hf hx
    obtain ⟨hn, rfl⟩ := h
    rw [hx] at h1
    generalize hv : ρv x = xv at h1
    cases h1 with
    | cptr a u hc hr =>
     refine keep _ (by simp only [execOp, ho, hv, Sem.run_bind, run_fieldAt hpl hf hn, Result.andThen_ok, Sem.run_pure]; rfl) ?_
     rw [add_add]
     exact .cptr a u hc hr
   ·rename_i off n k i o' hf hx
    obtain ⟨hn, rfl⟩ := h
    rw [hx] at h1
    generalize hv : ρv x = xv at h1
    cases h1 with
    | ptr hb =>
     refine keep _ (by simp only [execOp, ho, hv, Sem.run_bind, run_fieldAt hpl hf hn, Result.andThen_ok, Sem.run_pure]; rfl) ?_
     rw [add_none, Nat.add_assoc]
     exact .ptr hb
   ·exact h.elim
  ·exact h.elim
 ·rename_i T x f ho
  have h1 := hρ x (by rw [ho]; simp [Op.operands])
  split at h
  ·rename_i ft off cs hf hx
   split at h
   ·rename_i ag n hag hn
    rw [hx] at h1
    generalize hv : ρv x = xv at h1
    cases h1 with
    | agg hl hh hone =>
     rename_i vs
     obtain ⟨u, h2, h3⟩ := cells_get ⟨hl, hh⟩ h hone
     unfold fieldT at hf
     split at hf
     ·rename_i fs hfs
      obtain ⟨fd, hfd, hfe⟩ := Option.map_eq_some_iff.1 hf
      simp only [Prod.mk.injEq] at hfe
      obtain ⟨rfl, rfl⟩ := hfe
      refine keep u ?_ h3
      have hpr : (part fd.type vs.toArray fd.offset).run P w = .ok u w := run_part hag hn (by simpa using h2) w
      simp only [execOp, ho, hv, Instr.field, Sem.run_bind, run_underlying hfs, Result.andThen_ok, hfd, asAgg, Sem.run_pure, hpr]
     ·cases hf
   ·exact h.elim
  ·exact h.elim
 ·rename_i T x i ho
  split at h
  ·rename_i k n hi
   have h1 := hρ x (by rw [ho]; simp [Op.operands])
   have h2 := hρ i (by rw [ho]; simp [Op.operands])
   rw [hi] at h2
   have h3 : ρv i = .int k n := rawOf_spec rfl h2
   obtain ⟨u, h4, h5⟩ := idxOf_sound (k := k) h h1
   exact keep u (by simp only [execOp, ho, h3, Sem.run_bind, h4, Result.andThen_ok, Sem.run_pure]) h5
  ·exact h.elim
 ·rename_i T x i ho
  split at h
  ·rename_i s k n hx hi
   obtain ⟨hT, h0, b, hb, rfl⟩ := h
   have h1 := hρ x (by rw [ho]; simp [Op.operands])
   have h2 := hρ i (by rw [ho]; simp [Op.operands])
   rw [hx] at h1
   rw [hi] at h2
   have h3 : ρv x = .string s := rawOf_spec rfl h1
   have h4 : ρv i = .int k n := rawOf_spec rfl h2
   refine keep (.int .u8 b.toNat) ?_ (.raw rfl)
   simp only [execOp, ho, h3, h4, Instr.index, Sem.run_bind, run_asIntOf, Result.andThen_ok, run_underlying (strT_spec hT), h0, ↓reduceIte, hb, Sem.run_pure]
  ·exact h.elim
 ·rename_i t i ho
  split at h
  ·rename_i vs ht
   have h1 := hρ t (by rw [ho]; simp [Op.operands])
   rw [ht] at h1
   generalize hv : ρv t = tv at h1
   cases h1 with
   | tup hl hh =>
    rename_i us
    obtain ⟨u, hu, hr⟩ := RVs.get ⟨hl, hh⟩ h
    refine keep u ?_ hr
    have hu' : us.toArray[i]? = some u := by simpa using hu
    simp only [execOp, ho, hv, Instr.extract, hu', Sem.run_bind, Sem.run_pure, Result.andThen_ok]
  ·exact h.elim
 ·rename_i T x lo hi mx ho
  have h1 := hρ x (by rw [ho]; simp [Op.operands])
  obtain ⟨u, h2, h3⟩ := sliceOf_sound (ρv := ρv) h h1 (fun y hy => hρ y (by rw [ho]; simp [Op.operands, hy])) (fun y hy => hρ y (by rw [ho]; simp [Op.operands, hy])) (fun y hy => hρ y (by rw [ho]; simp [Op.operands, hy]))
  exact keep u (by simp only [execOp, ho, Sem.run_bind, h2, Result.andThen_ok, Sem.run_pure]) h3
 ·rename_i c ho
  split at h
  ·rename_i xa T hcal hargs htys
   obtain ⟨x, hargs2, rfl⟩ := List.map_eq_singleton_iff.1 hargs
   have ha : c.args = #[x] := by rw [← Array.toArray_toList (xs := c.args), hargs2]
   have hb : c.argTypes = #[T] := by rw [← Array.toArray_toList (xs := c.argTypes), htys]
   have h1 := hρ x (by rw [ho]; simp [Op.operands, Call.operands, hcal, ha])
   obtain ⟨u, h2, h3⟩ := lenOf_sound (ty := o.type) h h1
   refine keep u ?_ h3
   simp only [execOp, ho, resolve, hcal, ha, hb, List.map_toArray, List.map_cons, List.map_nil, Sem.run_bind, Sem.run_pure, Result.andThen_ok, invoke, builtin, h2]
  ·exact h.elim
  ·rename_i args tys b hn1 hcal hn2
   split at h
   ·rename_i vs hvs
    obtain ⟨r, hr, rfl⟩ := h
    have hmap : (c.args.map ρv) = vs.toArray := by
     have := rawsOf_get (ρv := ρv) (G := G) (w := w) hvs (fun x hx => hρ x (by rw [ho]; simp only [Op.operands, Call.operands, hcal]; rw [← Array.mem_toList_iff]; simpa using hx))
     rw [← this, ← Array.toList_map, Array.toArray_toList]
    refine keep r ?_ (.raw hr.1)
    simp only [execOp, ho, resolve, hcal, Sem.run_bind, Sem.run_pure, Result.andThen_ok, invoke, hmap, hr.2]
   ·exact h.elim
  ·exact h.elim
 ·exact h.elim
end Go.AM
namespace Go.AM
open Go
variable {P : Program} {wr : Bool}
structure AState where
 tmps : Nat → AV
 box : Bxs
 tok : Nat → Bool
 nt : Nat
def AState.ev (S : AState) : Operand → AV
 | .tmp t => S.tmps t
 | .const v => ofVal v
 | .global _ => .bot
 | .func f => .fn (.func f) []
def putT (f : Nat → AV) (dst : Option Tmp) (v : AV) : Nat → AV := match dst with
 | some d => upd f d v
 | none => f
structure RelS (n nb : Nat) (G : Gh) (S : AState) (a : Act) (w : World) : Prop where
 defers : a.defers = []
 size : a.tmps.size = n
 tmps : ∀ t, RV G w (S.tmps t) (a.tmps.getD t undef)
 mem : RelM G ⟨S.box, nb, S.tok, S.nt⟩ w
theorem RelS.ev {n nb : Nat} {G : Gh} {S : AState} {a : Act} {w : World} (h : RelS n nb G S a w) (x : Operand) : RV G w (S.ev x) (a.eval x) := by
 cases x with
 | tmp t => exact h.tmps t
 | const v => exact RV.of_ofVal v
 | global g => exact .bot
 | func f => exact .fn (vs := []) rfl (fun i h => by simp at h)
def Enters (P : Program) (f : FuncId) : Prop := ∀ args w, (callFunc f args).run P w = .ok (.enter f args) w
theorem Enters.mk {f : FuncId} {fn : Func} (h : P.funcs[f]? = some fn) (hb : fn.body.isSome = true) (hn : (fn.name == "runtime.NumGoroutine") = false) : Enters P f := by
 intro args w
 obtain ⟨c, hc⟩ := Option.isSome_iff_exists.1 hb
 have hn' : ¬ fn.name = "runtime.NumGoroutine" := by simpa using hn
 simp [callFunc, program, Sem.run, h, hn', hc]
def ACalls (P : Program) (f : FuncId) (args : List AV) (m : AMem) (Q : AV → AMem → Prop) : Prop :=
 Enters P f ∧ ∀ G w vals, RelM G m w → RVs G w args vals → Calls P f vals.toArray w fun e w' => ∃ v av m' G', e = .returned v ∧ Q av m' ∧ m'.nb = m.nb ∧
  RelM G' m' w' ∧ RV G' w' av v ∧ Le G w G' w' ∧ ∀ k, G.bx k = none → G'.bx k = none ∧ m'.box k = m.box k
theorem ACalls.mono {f : FuncId} {args : List AV} {m : AMem} {Q Q' : AV → AMem → Prop} (h : ACalls P f args m Q) (hq : ∀ v m', Q v m' → Q' v m') : ACalls P f args m Q' :=
 ⟨h.1, fun G w vals hm hr => (h.2 G w vals hm hr).mono fun e w' ⟨v, av, m', G', h1, h2, h3⟩ => ⟨v, av, m', G', h1, hq _ _ h2, h3⟩⟩
def DCall (P : Program) (f : FuncId) (args : List AV) (tok : Tks) (nt : Nat) (v : AV) (tok' : Nat → Bool) (nt' : Nat) : Prop :=
 ∀ box nb, ACalls P f args ⟨box, nb, tok, nt⟩ fun v' m' => v' = v ∧ m' = ⟨box, nb, tok', nt'⟩
def Ext (box box' : Bxs) : Prop := ∀ k r, box k = some r → box' k = some r
theorem Ext.refl (box : Bxs) : Ext box box := fun _ _ h => h
theorem Ext.trans {a b c : Bxs} (h : Ext a b) (k : Ext b c) : Ext a c := fun i r hi => k i r (h i r hi)
def RCall (P : Program) (f : FuncId) (args : List AV) (box : Bxs) (tok : Tks) (nt : Nat) (v : AV) (tok' : Nat → Bool) (nt' : Nat) : Prop :=
 ∀ box' nb, Ext box box' → ACalls P f args ⟨box', nb, tok, nt⟩ fun v' m' => v' = v ∧ m' = ⟨box', nb, tok', nt'⟩
theorem DCall.r {f : FuncId} {args : List AV} {tok : Nat → Bool} {nt : Nat} {v : AV} {tok' : Nat → Bool} {nt' : Nat} (h : DCall P f args tok nt v tok' nt') (box : Bxs) : RCall P f args box tok nt v tok' nt' :=
 fun box' nb _ => h box' nb
theorem RCall.ext {f : FuncId} {args : List AV} {box box1 : Bxs} {tok : Nat → Bool} {nt : Nat} {v : AV} {tok' : Nat → Bool} {nt' : Nat} (h : RCall P f args box tok nt v tok' nt') (he : Ext box box1) : RCall P f args box1 tok nt v tok' nt' :=
 fun box' nb h' => h box' nb (he.trans h')
def EffC (P : Program) (o : Oper) (ρ : Operand → AV) (box : Bxs) (tok : Tks) (nt : Nat) (v : AV) (tok' : Nat → Bool) (nt' : Nat) : Prop := match o.op with
 | .call c => match c.callee with
  | .value f => match ρ f with
   | .fn (.func fid) caps => RCall P fid (c.args.toList.map ρ ++ caps) box tok nt v tok' nt'
   | _ => False
  | _ => False
 | _ => False
def WCall (P : Program) (f : FuncId) (args : List AV) (k : Nat) (box : Bxs) (tok : Tks) (nt : Nat) (v : AV) (rows : List (List AV)) (tok' : Nat → Bool) (nt' : Nat) : Prop :=
 ∀ box' nb, box' k = box k → ACalls P f args ⟨box', nb, tok, nt⟩ fun v' m' => v' = v ∧ m' = ⟨upd box' k (some rows), nb, tok', nt'⟩
def callPtr : Op → Option Operand
 | .call { callee := .value _, args, .. } => args.toList.head?
 | _ => none
def EffV (P : Program) (o : Oper) (ρ : Operand → AV) (box : Bxs) (tok : Tks) (nt : Nat) (v : AV) (box' : Bxs) (tok' : Nat → Bool) (nt' : Nat) : Prop := match o.op with
 | .call c => match c.callee with
  | .value f => match ρ f with
   | .fn (.func fid) caps => ∃ x k i off rows, callPtr o.op = some x ∧ ρ x = .ptr k i off ∧ box k ≠ none ∧ box' = upd box k (some rows) ∧ WCall P fid (c.args.toList.map ρ ++ caps) k box tok nt v rows tok' nt'
   | _ => False
  | _ => False
 | _ => False
inductive Cls where
 | n | r | w | t
 deriving DecidableEq
def cls : Op → Cls
 | .load .. => .r
 | .store .. => .w
 | .box .. => .w
 | .makeSlice .. => .w
 | .call { callee := .builtin .append, .. } => .t
 | .call { callee := .builtin .copy, .. } => .w
 | .call { callee := .builtin .clear, .. } => .w
 | .call { callee := .value _, .. } => .t
 | _ => .n
def Eff (P : Program) (wr : Bool) (base : Nat) (o : Oper) (ρ : Operand → AV) (box : Bxs) (tok : Tks) (nt : Nat) (v : AV) (box' : Bxs) (tok' : Nat → Bool) (nt' : Nat) : Prop :=
 match cls o.op with
 | .n => EffN P base o ρ v ∧ box' = box ∧ tok' = tok ∧ nt' = nt
 | .r => EffR P o ρ box v ∧ box' = box ∧ tok' = tok ∧ nt' = nt
 | .w => EffW P base o ρ box v box' ∧ tok' = tok ∧ nt' = nt
 | .t => ((EffA P o ρ tok nt v tok' nt' ∨ EffC P o ρ box tok nt v tok' nt') ∧ box' = box) ∨ wr = true ∧ EffV P o ρ box tok nt v box' tok' nt'
def Step (P : Program) (wr : Bool) (base : Nat) (o : Oper) (S S' : AState) : Prop :=
 ∃ v box' tok' nt', Eff P wr base o S.ev S.box S.tok S.nt v box' tok' nt' ∧ S' = ⟨putT S.tmps o.dst v, box', tok', nt'⟩
def yieldA (ops : Array Oper) (S : AState) (j : Nat) : Option (Option Bool) := match (ops[j]?).bind (·.dst) with
 | some d => match S.tmps d with
  | .d (.raw (.bool b)) => some (some b)
  | .tup [] => some none
  | _ => none
 | none => none
def GStep (P : Program) (wr : Bool) (base : Nat) (ops : Array Oper) (o : Oper) (S S' : AState) : Prop := match o.guard with
 | none => Step P wr base o S S'
 | some (j, want) => match yieldA ops S j with
  | some b => if b = some want then Step P wr base o S S' else S' = { S with tmps := putT S.tmps o.dst (.tup []) }
  | none => False
theorem RV.undef {G : Gh} {w : World} : RV G w (.tup []) Go.undef := .tup (vs := []) rfl fun i h => by simp at h
theorem RelS.put {n nb : Nat} {G G' : Gh} {S : AState} {a : Act} {w w' : World} (h : RelS n nb G S a w) (hle : Le G w G' w') {dst : Option Tmp} (hd : ∀ d, dst = some d → d < n) {v : AV} {u : Value} (hv : RV G' w' v u)
  {box : Bxs} {tok : Nat → Bool} {nt : Nat} (hm : RelM G' ⟨box, nb, tok, nt⟩ w') : RelS n nb G' ⟨putT S.tmps dst v, box, tok, nt⟩ (a.put dst u) w' := by
 cases dst with
 | none => exact ⟨h.defers, h.size, fun t => (h.tmps t).mono hle, hm⟩
 | some d =>
  refine ⟨h.defers, by simp [Act.put, h.size], fun t => ?_, hm⟩
  have hd' := hd d rfl
  simp only [putT, Act.put]
  by_cases e : t = d
  ·subst e
   rw [upd_same]
   have : t < a.tmps.size := by rw [h.size]; exact hd'
   simpa [Array.getD, this] using hv
  ·rw [upd_other _ _ e]
   have h1 : (a.tmps.setIfInBounds d u).getD t undef = a.tmps.getD t undef := by
    simp only [Array.getD_eq_getD_getElem?]
    rw [Array.getElem?_setIfInBounds_ne (by omega)]
   rw [h1]
   exact (h.tmps t).mono hle
theorem After.wp {n nb : Nat} {o : Oper} {G : Gh} {S : AState} {a : Act} {w : World} {R : Value → Gh → World → Prop} {K : Act → World → Prop} {Q : Exit → Act → World → Prop}
  (h : After P o a.eval G w R) (hk : ∀ u G' w', Le G w G' w' → R u G' w' → K (a.put o.dst u) w') : o.wp P a w K Q := by
 obtain ⟨nx, u, G', w', h1, h2, h3, h4⟩ := h
 unfold Oper.wp
 rw [h1]
 rcases h2 with rfl | ⟨rfl, rfl⟩
 ·exact hk u G' w' h3 h4
 ·exact hk undef G' w' h3 h4
def Kept (base : Nat) (o : Oper) (G G' : Gh) (box box' : Bxs) : Prop := ∀ k, some k ≠ o.dst.map (base + ·) → G.bx k = none → G'.bx k = none ∧ box' k = box k
theorem step_sound {n nb base : Nat} {o : Oper} {S S' : AState} {G : Gh} {a : Act} {w : World} {Q : Exit → Act → World → Prop} (h : Step P wr base o S S') (hr : RelS n nb G S a w)
  (hd : ∀ d, o.dst = some d → d < n) (hnb : base + n ≤ nb) (hp : Pend P base o G S.box) :
  o.wp P a w (fun a' w' => ∃ G', RelS n nb G' S' a' w' ∧ Le G w G' w' ∧ Kept base o G G' S.box S'.box) Q := by
 obtain ⟨v, box', tok', nt', he, rfl⟩ := h
 have hρ : ∀ x ∈ o.op.operands, RV G w (S.ev x) (a.eval x) := fun x _ => hr.ev x
 have hdn : ∀ s, o.dst = some s → base + s < nb := fun s hs => Nat.lt_of_lt_of_le (Nat.add_lt_add_left (hd s hs) base) hnb
 unfold Eff at he
 split at he
 ·obtain ⟨he, rfl, rfl, rfl⟩ := he
  exact (effN_sound he hρ hr.mem hdn hp).wp (n := n) (nb := nb) (S := S) fun u G' w' hle ⟨h1, h2, h3⟩ => ⟨G', hr.put hle hd h1 h2, hle, fun k hk hg => ⟨h3 k hk hg, rfl⟩⟩
 ·obtain ⟨he, rfl, rfl, rfl⟩ := he
  obtain ⟨u, g1, g2⟩ := effR_sound he hρ hr.mem
  exact (After.pure (R := fun u G' w' => RV G' w' v u ∧ G' = G ∧ w' = w) g1 ⟨g2, rfl, rfl⟩).wp (n := n) (nb := nb) (S := S) fun u G' w' hle ⟨k1, k2, k3⟩ => by
   subst k2; subst k3
   exact ⟨_, hr.put hle hd k1 hr.mem, hle, fun k hk hg => ⟨hg, rfl⟩⟩
 ·obtain ⟨he, rfl, rfl⟩ := he
  exact (effW_sound he hρ hr.mem hdn).wp (n := n) (nb := nb) (S := S) fun u G' w' hle ⟨h1, h2, h3⟩ => ⟨G', hr.put hle hd h1 h2, hle, h3⟩
 ·rcases he with ⟨he | he, rfl⟩ | ⟨_, hev⟩
  ·exact (effA_sound he hρ hr.mem).wp (n := n) (nb := nb) (S := S) fun u G' w' hle ⟨h1, h2, h3⟩ => ⟨G', hr.put hle hd h1 h2, hle, fun k hk hg => ⟨by rw [h3]; exact hg, rfl⟩⟩
  ·unfold EffC at he
   split at he
   ·rename_i c ho
    split at he
    ·rename_i f hcal
     split at he
     ·rename_i fid caps hf
      obtain ⟨hen, hc⟩ := he S.box nb (Ext.refl _)
      have hfv := hr.ev f
      rw [hf] at hfv
      generalize hv : a.eval f = fv at hfv
      cases hfv with
      | fn hl hh =>
       rename_i cvs
       have hargs : RVs G w (c.args.toList.map S.ev ++ caps) ((c.args.map a.eval).toList ++ cvs) := by
        refine RVs.append ⟨by simp, fun i h1 h2 => ?_⟩ ⟨hl, hh⟩
        simp only [List.getElem_map, Array.toList_map]
        exact hr.ev _
       have hcalls := hc G w _ hr.mem hargs
       unfold Oper.wp
       have hexec : (execOp a.eval o).run P w = .ok (.enter fid ((c.args.map a.eval).toList ++ cvs).toArray) w := by
        have e : ((c.args.map a.eval).toList ++ cvs).toArray = #[] ++ c.args.map a.eval ++ cvs.toArray := by simp
        simp only [execOp, ho, resolve, hcal, hv, Deferred.ofValue, Sem.run_bind, Sem.run_pure, Result.andThen_ok, invoke, e]
        exact hen _ w
       rw [hexec]
       refine Calls.mono hcalls fun e w' ⟨u, av, m', G', h1, h2, h3, h4, h5, h6, h7⟩ => ?_
       subst h1
       obtain ⟨rfl, rfl⟩ := h2
       exact ⟨G', hr.put h6 hd h5 h4, h6, fun k hk hg => ⟨(h7 k hg).1, rfl⟩⟩
     ·exact he.elim
    ·exact he.elim
   ·exact he.elim
  ·unfold EffV at hev
   split at hev
   ·rename_i c ho
    split at hev
    ·rename_i f hcal
     split at hev
     ·rename_i fid caps hf
      obtain ⟨x, kb, i0, off, rows, hcp, hx, hbk, hbx, hwc⟩ := hev
      obtain ⟨hen, hc⟩ := hwc S.box nb rfl
      have hfv := hr.ev f
      rw [hf] at hfv
      generalize hv : a.eval f = fv at hfv
      cases hfv with
      | fn hl hh =>
       rename_i cvs
       have hargs : RVs G w (c.args.toList.map S.ev ++ caps) ((c.args.map a.eval).toList ++ cvs) := by
        refine RVs.append ⟨by simp, fun i h1 h2 => ?_⟩ ⟨hl, hh⟩
        simp only [List.getElem_map, Array.toList_map]
        exact hr.ev _
       have hcalls := hc G w _ hr.mem hargs
       unfold Oper.wp
       have hexec : (execOp a.eval o).run P w = .ok (.enter fid ((c.args.map a.eval).toList ++ cvs).toArray) w := by
        have e : ((c.args.map a.eval).toList ++ cvs).toArray = #[] ++ c.args.map a.eval ++ cvs.toArray := by simp
        simp only [execOp, ho, resolve, hcal, hv, Deferred.ofValue, Sem.run_bind, Sem.run_pure, Result.andThen_ok, invoke, e]
        exact hen _ w
       rw [hexec]
       refine Calls.mono hcalls fun e w' ⟨u, av, m', G', h1, h2, h3, h4, h5, h6, h7⟩ => ?_
       subst h1
       obtain ⟨rfl, rfl⟩ := h2
       subst hbx
       exact ⟨G', hr.put h6 hd h5 h4, h6, fun k hk hg => h7 k hg⟩
     ·exact hev.elim
    ·exact hev.elim
   ·exact hev.elim
theorem yieldA_spec {n nb : Nat} {ops : Array Oper} {G : Gh} {S : AState} {a : Act} {w : World} {j : Nat} {b : Option Bool} (hr : RelS n nb G S a w) (h : yieldA ops S j = some b) (hd : ∀ o d, ops[j]? = some o → o.dst = some d → d < n) :
  yielded ops a.tmps j = b := by
 unfold yieldA at h
 split at h
 ·rename_i d hdst
  split at h
  ·rename_i b' hv
   simp only [Option.some.injEq] at h
   subst h
   have h1 := hr.tmps d
   rw [hv] at h1
   have h2 : a.tmps.getD d undef = .bool b' := rawOf_spec rfl h1
   obtain ⟨o, ho, hod⟩ := Option.bind_eq_some_iff.1 hdst
   have hlt : d < a.tmps.size := by rw [hr.size]; exact hd o d ho hod
   have h3 : a.tmps[d]? = some (.bool b') := by
    rw [← h2]
    simp [Array.getD, hlt]
   simp [yielded, hdst, h3]
  ·rename_i hv
   simp only [Option.some.injEq] at h
   subst h
   have h1 := hr.tmps d
   rw [hv] at h1
   have h2 : a.tmps.getD d undef = .tuple #[] := by
    generalize a.tmps.getD d undef = x at h1
    cases h1 with
    | tup hl hh =>
     rename_i vs
     have : vs = [] := List.eq_nil_of_length_eq_zero (by simpa using hl.symm)
     subst this
     rfl
   have h3 : ∀ x, a.tmps[d]? = some x → x = .tuple #[] := by
    intro x hx
    rw [← h2]
    simp [Array.getD_eq_getD_getElem?, hx]
   simp only [yielded, hdst, Option.bind_some]
   cases hx : a.tmps[d]? with
   | none => rfl
   | some x => rw [h3 x hx]
  ·cases h
 ·cases h
theorem gstep_sound {n nb base : Nat} {ops : Array Oper} {i : Nat} {o : Oper} {S S' : AState} {G : Gh} {a : Act} {w : World} {Q : Exit → Act → World → Prop} {K : Act → World → Prop} (hi : ops[i]? = some o) (h : GStep P wr base ops o S S') (hr : RelS n nb G S a w)
  (hd : ∀ (o : Oper) d, o ∈ ops → o.dst = some d → d < n) (hnb : base + n ≤ nb) (hp : Pend P base o G S.box)
  (hk : ∀ a' w' G', RelS n nb G' S' a' w' → Le G w G' w' → Kept base o G G' S.box S'.box → K a' w') : wpOp P ops Q i K a w := by
 unfold wpOp
 rw [hi]
 simp only []
 have hd' : ∀ d, o.dst = some d → d < n := fun d hdd => hd o d (Array.mem_of_getElem? hi) hdd
 unfold GStep at h
 split at h
 ·rename_i hg
  have hw : Region.wanted o (yielded ops a.tmps) = true := by simp [Region.wanted, hg]
  rw [if_pos hw]
  exact .inl (Oper.wp_mono (fun _ _ ⟨G', h1, h2, h3⟩ => hk _ _ G' h1 h2 h3) (step_sound h hr hd' hnb hp))
 ·rename_i j want hg
  split at h
  ·rename_i b hy
   have hy' := yieldA_spec hr hy (fun o d h1 h2 => hd o d (Array.mem_of_getElem? h1) h2)
   split at h
   ·rename_i e
    subst e
    have hw : Region.wanted o (yielded ops a.tmps) = true := by simp [Region.wanted, hg, hy']
    rw [if_pos hw]
    exact .inl (Oper.wp_mono (fun _ _ ⟨G', h1, h2, h3⟩ => hk _ _ G' h1 h2 h3) (step_sound h hr hd' hnb hp))
   ·rename_i e
    have hw : ¬ Region.wanted o (yielded ops a.tmps) = true := by simp [Region.wanted, hg, hy', e]
    rw [if_neg hw]
    subst h
    exact hk _ _ G (hr.put (Le.refl G w) hd' RV.undef hr.mem) (Le.refl G w) fun k _ hgk => ⟨hgk, rfl⟩
  ·exact h.elim
end Go.AM
namespace Go.AM
open Go
variable {P : Program} {wr : Bool}
theorem optIs_congr {ρ ρ' : Operand → AV} {o : Option Operand} {d n : Nat} (h : ∀ x, o = some x → ρ x = ρ' x) : optIs ρ o d n = optIs ρ' o d n := by
 cases o with
 | none => rfl
 | some x => simp only [optIs, h x rfl]
theorem effN_congr {base : Nat} {o : Oper} {ρ ρ' : Operand → AV} {v : AV} (h : ∀ x ∈ o.op.operands, ρ x = ρ' x) : EffN P base o ρ v → EffN P base o ρ' v := by
 unfold EffN
 cases hop : o.op <;> rw [hop] at h <;> simp only [imp_self]
 case move x => rw [h x (by simp [Op.operands])]; exact id
 case assign x => rw [h x (by simp [Op.operands])]; exact id
 case pick c a b => rw [h c (by simp [Op.operands]), h a (by simp [Op.operands]), h b (by simp [Op.operands])]; exact id
 case build T parts =>
  have e : (parts.toList.map fun p => (p.1, ρ p.2)) = parts.toList.map fun p => (p.1, ρ' p.2) := List.map_congr_left fun p hp => by
   rw [h p.2 (by simp only [Op.operands]; rw [← Array.mem_toList_iff]; simpa using ⟨p.1, by simpa using hp⟩)]
  rw [e]; exact id
 case buildSlice T len parts =>
  have e : (parts.toList.map fun p => ρ p.2) = parts.toList.map fun p => ρ' p.2 := List.map_congr_left fun p hp => by
   rw [h p.2 (by simp only [Op.operands]; rw [← Array.mem_toList_iff]; simpa using ⟨p.1, by simpa using hp⟩)]
  rw [e]; exact id
 case nilCheck x => rw [h x (by simp [Op.operands])]; exact id
 case binOp op T x y T2 => rw [h x (by simp [Op.operands]), h y (by simp [Op.operands])]; exact id
 case unOp op T x => rw [h x (by simp [Op.operands])]; exact id
 case convert s t x => rw [h x (by simp [Op.operands])]; exact id
 case makeFunc fn first caps =>
  have e : caps.toList.map ρ = caps.toList.map ρ' := List.map_congr_left fun p hp => h p (by simp only [Op.operands]; rw [← Array.mem_toList_iff]; simp [hp])
  rw [e]; exact id
 case fieldAddr T x f => rw [h x (by simp [Op.operands])]; exact id
 case field T x f => rw [h x (by simp [Op.operands])]; exact id
 case indexAddr T x i => rw [h x (by simp [Op.operands]), h i (by simp [Op.operands])]; exact id
 case index T x i => rw [h x (by simp [Op.operands]), h i (by simp [Op.operands])]; exact id
 case extract t i => rw [h t (by simp [Op.operands])]; exact id
 case slice T x lo hi mx =>
  have e1 : ∀ d n, optIs ρ lo d n = optIs ρ' lo d n := fun d n => optIs_congr fun y hy => h y (by simp [Op.operands, hy])
  have e2 : ∀ d n, optIs ρ hi d n = optIs ρ' hi d n := fun d n => optIs_congr fun y hy => h y (by simp [Op.operands, hy])
  have e3 : ∀ d n, optIs ρ mx d n = optIs ρ' mx d n := fun d n => optIs_congr fun y hy => h y (by simp [Op.operands, hy])
  rw [h x (by simp [Op.operands])]
  unfold sliceOf
  simp only [e1, e2, e3]
  exact id
 case call c =>
  have e : c.args.toList.map ρ = c.args.toList.map ρ' := List.map_congr_left fun p hp => h p (by simp only [Op.operands, Call.operands]; rw [← Array.mem_toList_iff]; simp; exact .inr (by simpa using hp))
  rw [e]
  exact id
theorem effR_congr {o : Oper} {ρ ρ' : Operand → AV} {box : Bxs} {v : AV} (h : ∀ x ∈ o.op.operands, ρ x = ρ' x) : EffR P o ρ box v → EffR P o ρ' box v := by
 unfold EffR
 cases hop : o.op <;> rw [hop] at h <;> simp only [imp_self]
 case load T p => rw [h p (by simp [Op.operands])]; exact id
theorem effW_congr {base : Nat} {o : Oper} {ρ ρ' : Operand → AV} {box box' : Bxs} {v : AV} (h : ∀ x ∈ o.op.operands, ρ x = ρ' x) : EffW P base o ρ box v box' → EffW P base o ρ' box v box' := by
 unfold EffW
 cases hop : o.op <;> rw [hop] at h <;> simp only [imp_self]
 case store T p x => rw [h p (by simp [Op.operands]), h x (by simp [Op.operands])]; exact id
 case box T x => rw [h x (by simp [Op.operands])]; exact id
 case makeSlice T l c => rw [h l (by simp [Op.operands]), h c (by simp [Op.operands])]; exact id
 case call c =>
  have e : c.args.toList.map ρ = c.args.toList.map ρ' := List.map_congr_left fun p hp => h p (by simp only [Op.operands, Call.operands]; rw [← Array.mem_toList_iff]; simp; exact .inr (by simpa using hp))
  rw [e]
  exact id
theorem effA_congr {o : Oper} {ρ ρ' : Operand → AV} {tok tok' : Nat → Bool} {nt nt' : Nat} {v : AV} (h : ∀ x ∈ o.op.operands, ρ x = ρ' x) : EffA P o ρ tok nt v tok' nt' → EffA P o ρ' tok nt v tok' nt' := by
 unfold EffA
 refine Or.imp ?_ ?_
 ·unfold EffA0
  cases hop : o.op <;> rw [hop] at h <;> simp only [imp_self]
  case call c =>
   have e' : ∀ x, x ∈ c.args.toList → ρ x = ρ' x := fun x hx => h x (by simp only [Op.operands, Call.operands]; rw [← Array.mem_toList_iff]; simp; exact .inr (by simpa using hx))
   split
   ·rename_i s x T T' h1 h2 h3
    rw [e' s (by rw [h2]; simp), e' x (by rw [h2]; simp)]
    exact id
   ·exact id
 ·unfold EffS
  cases hop : o.op <;> rw [hop] at h <;> simp only [imp_self]
  case call c =>
   have e' : ∀ x, x ∈ c.args.toList → ρ x = ρ' x := fun x hx => h x (by simp only [Op.operands, Call.operands]; rw [← Array.mem_toList_iff]; simp; exact .inr (by simpa using hx))
   split
   ·rename_i s x T T' h1 h2 h3
    rw [e' s (by rw [h2]; simp), e' x (by rw [h2]; simp)]
    exact id
   ·exact id
theorem effC_congr {o : Oper} {ρ ρ' : Operand → AV} {box : Bxs} {tok tok' : Nat → Bool} {nt nt' : Nat} {v : AV} (h : ∀ x ∈ o.op.operands, ρ x = ρ' x) : EffC P o ρ box tok nt v tok' nt' → EffC P o ρ' box tok nt v tok' nt' := by
 unfold EffC
 cases hop : o.op <;> rw [hop] at h <;> simp only [imp_self]
 case call c =>
  have e : c.args.toList.map ρ = c.args.toList.map ρ' := List.map_congr_left fun p hp => h p (by simp only [Op.operands, Call.operands]; rw [← Array.mem_toList_iff]; simp; exact .inr (by simpa using hp))
  split
  ·rename_i f h1
   rw [h f (by simp only [Op.operands, Call.operands, h1]; simp), e]
   exact id
  ·exact id
theorem effV_congr {o : Oper} {ρ ρ' : Operand → AV} {box box' : Bxs} {tok tok' : Nat → Bool} {nt nt' : Nat} {v : AV} (h : ∀ x ∈ o.op.operands, ρ x = ρ' x) : EffV P o ρ box tok nt v box' tok' nt' → EffV P o ρ' box tok nt v box' tok' nt' := by
 unfold EffV
 cases hop : o.op <;> rw [hop] at h <;> simp only [imp_self]
 case call c =>
  have e : c.args.toList.map ρ = c.args.toList.map ρ' := List.map_congr_left fun p hp => h p (by simp only [Op.operands, Call.operands]; rw [← Array.mem_toList_iff]; simp; exact .inr (by simpa using hp))
  split
  ·rename_i f h1
   rw [h f (by simp only [Op.operands, Call.operands, h1]; simp), e]
   split
   ·rintro ⟨x, k, i, off, rows, g1, g2, g3⟩
    have hx : x ∈ c.args.toList := by
     obtain ⟨cal, args, tys⟩ := c
     simp only at h1
     subst h1
     simp only [callPtr] at g1
     exact List.mem_of_mem_head? g1
    refine ⟨x, k, i, off, rows, g1, ?_, g3⟩
    rw [← h x (by simp only [Op.operands, Call.operands]; rw [← Array.mem_toList_iff]; simp; exact .inr (by simpa using hx))]
    exact g2
   ·exact id
  ·exact id
theorem eff_congr {base : Nat} {o : Oper} {ρ ρ' : Operand → AV} {box box' : Bxs} {tok tok' : Nat → Bool} {nt nt' : Nat} {v : AV} (h : ∀ x ∈ o.op.operands, ρ x = ρ' x) :
  Eff P wr base o ρ box tok nt v box' tok' nt' → Eff P wr base o ρ' box tok nt v box' tok' nt' := by
 unfold Eff
 split
 ·exact fun ⟨h1, h2⟩ => ⟨effN_congr h h1, h2⟩
 ·exact fun ⟨h1, h2⟩ => ⟨effR_congr h h1, h2⟩
 ·exact fun ⟨h1, h2⟩ => ⟨effW_congr h h1, h2⟩
 ·exact fun hh => hh.imp (fun ⟨h1, h2⟩ => ⟨h1.imp (effA_congr h) (effC_congr h), h2⟩) fun ⟨h1, h2⟩ => ⟨h1, effV_congr h h2⟩
def maker : Op → Bool
 | .box .. => true
 | .makeSlice .. => true
 | _ => false
theorem effW_maker {base : Nat} {o : Oper} {ρ : Operand → AV} {b b' : Bxs} {v : AV} (hm : maker o.op = true) (h : EffW P base o ρ b v b') :
  ∃ s rows, b (base + s) = none ∧ b' = upd b (base + s) (some rows) ∧ ∀ c, c (base + s) = none → EffW P base o ρ c v (upd c (base + s) (some rows)) := by
 unfold EffW at h ⊢
 cases hop : o.op <;> rw [hop] at hm h <;> first | cases hm | skip
 ·simp only at h ⊢
  split at h
  ·rename_i s cs h1 h2
   obtain ⟨g1, g2, g3⟩ := h
   exact ⟨s, [cs], g1, g3, fun c hc => by simp only [h1, h2]; exact ⟨hc, g2, by first | rfl | trivial⟩⟩
  ·exact h.elim
 ·simp only at h ⊢
  split at h
  ·rename_i sz by' zs s k1 n k2 n' h1 h2 h3 h4
   obtain ⟨g1, g2, g3, g4, g5, g6⟩ := h
   exact ⟨s, _, g4, g6, fun c hc => by simp only [h1, h2, h3, h4]; exact ⟨g1, g2, g3, hc, g5, by first | rfl | trivial⟩⟩
  ·exact h.elim
theorem upd_comm {α : Type} (f : Nat → α) {i j : Nat} (h : i ≠ j) (a b : α) : upd (upd f i a) j b = upd (upd f j b) i a := by
 funext k
 simp only [upd]
 by_cases h1 : k = i <;> by_cases h2 : k = j
 ·exact absurd (h1.symm.trans h2) h
 ·simp [h1, h2]; intro e; exact absurd e h
 ·simp [h1, h2]; intro e; exact absurd e.symm h
 ·simp [h1, h2]
def isVal : Op → Bool
 | .call { callee := .value _, .. } => true
 | _ => false
theorem EffC.val {o : Oper} {ρ : Operand → AV} {box : Bxs} {tok tok' : Nat → Bool} {nt nt' : Nat} {v : AV} (h : EffC P o ρ box tok nt v tok' nt') : isVal o.op = true := by
 unfold EffC at h
 split at h
 ·rename_i c ho
  split at h
  ·rename_i f hf
   rw [ho]
   obtain ⟨cal, args, tys⟩ := c
   simp only at hf
   subst hf
   rfl
  ·exact h.elim
 ·exact h.elim
theorem EffC.ext {o : Oper} {ρ : Operand → AV} {box box1 : Bxs} {tok tok' : Nat → Bool} {nt nt' : Nat} {v : AV} (h : EffC P o ρ box tok nt v tok' nt') (he : Ext box box1) : EffC P o ρ box1 tok nt v tok' nt' := by
 unfold EffC at h ⊢
 split at h
 ·split at h
  ·split at h
   ·exact RCall.ext h he
   ·exact h.elim
  ·exact h.elim
 ·exact h.elim
def clash (a b : Oper) : Bool := match cls a.op, cls b.op with
 | .t, .w => isVal a.op && !maker b.op
 | .w, .t => isVal b.op
 | .r, .w => true
 | .w, .r => true
 | .w, .w => !(maker a.op && maker b.op)
 | .t, .t => true
 | _, _ => false
theorem t_false {a b : Prop} (h : a ∨ false = true ∧ b) : a := h.resolve_right fun h => by cases h.1
theorem eff_swap {base : Nat} {x y : Oper} {ρ ρ' : Operand → AV} {b0 b1 b2 : Bxs} {t0 t1 t2 : Nat → Bool} {n0 n1 n2 : Nat} {vx vy : AV} (hc : clash x y = false)
  (hx : Eff P false base x ρ b0 t0 n0 vx b1 t1 n1) (hy : Eff P false base y ρ' b1 t1 n1 vy b2 t2 n2) : ∃ c t n, Eff P false base y ρ' b0 t0 n0 vy c t n ∧ Eff P false base x ρ c t n vx b2 t2 n2 := by
 unfold Eff at hx hy ⊢
 unfold clash at hc
 cases h1 : cls x.op <;> cases h2 : cls y.op <;> simp only [h1, h2] at hc hx hy ⊢ <;> first | (exact absurd hc (by decide)) | skip
 ·obtain ⟨e, rfl, rfl, rfl⟩ := hx; obtain ⟨e', rfl, rfl, rfl⟩ := hy; exact ⟨_, _, _, ⟨e', rfl, rfl, rfl⟩, e, rfl, rfl, rfl⟩
 ·obtain ⟨e, rfl, rfl, rfl⟩ := hx; obtain ⟨e', rfl, rfl, rfl⟩ := hy; exact ⟨_, _, _, ⟨e', rfl, rfl, rfl⟩, e, rfl, rfl, rfl⟩
 ·obtain ⟨e, rfl, rfl, rfl⟩ := hx; obtain ⟨e', rfl, rfl⟩ := hy; exact ⟨_, _, _, ⟨e', rfl, rfl⟩, e, rfl, rfl, rfl⟩
 ·obtain ⟨e, rfl, rfl, rfl⟩ := hx; obtain ⟨e', rfl⟩ := t_false hy; exact ⟨_, _, _, .inl ⟨e', rfl⟩, e, rfl, rfl, rfl⟩
 ·obtain ⟨e, rfl, rfl, rfl⟩ := hx; obtain ⟨e', rfl, rfl, rfl⟩ := hy; exact ⟨_, _, _, ⟨e', rfl, rfl, rfl⟩, e, rfl, rfl, rfl⟩
 ·obtain ⟨e, rfl, rfl, rfl⟩ := hx; obtain ⟨e', rfl, rfl, rfl⟩ := hy; exact ⟨_, _, _, ⟨e', rfl, rfl, rfl⟩, e, rfl, rfl, rfl⟩
 ·obtain ⟨e, rfl, rfl, rfl⟩ := hx; obtain ⟨e', rfl⟩ := t_false hy; exact ⟨_, _, _, .inl ⟨e', rfl⟩, e, rfl, rfl, rfl⟩
 ·obtain ⟨e, rfl, rfl⟩ := hx; obtain ⟨e', rfl, rfl, rfl⟩ := hy; exact ⟨_, _, _, ⟨e', rfl, rfl, rfl⟩, e, rfl, rfl⟩
 ·obtain ⟨e, rfl, rfl⟩ := hx
  obtain ⟨e', rfl, rfl⟩ := hy
  simp only [Bool.not_eq_false', Bool.and_eq_true] at hc
  obtain ⟨s, rows, g1, rfl, g3⟩ := effW_maker hc.1 e
  obtain ⟨s', rows', k1, rfl, k3⟩ := effW_maker hc.2 e'
  have hne : base + s ≠ base + s' := fun e => by rw [← e, upd_same] at k1; cases k1
  rw [upd_other _ _ (Ne.symm hne)] at k1
  refine ⟨_, _, _, ⟨k3 b0 k1, rfl, rfl⟩, ?_, rfl, rfl⟩
  rw [upd_comm _ hne]
  exact g3 _ (by rw [upd_other _ _ hne]; exact g1)
 ·obtain ⟨e, rfl, rfl⟩ := hx
  obtain ⟨e', rfl⟩ := t_false hy
  rcases e' with e' | e'
  ·exact ⟨_, _, _, .inl ⟨.inl e', rfl⟩, e, rfl, rfl⟩
  ·rw [e'.val] at hc; cases hc
 ·obtain ⟨e, rfl⟩ := t_false hx; obtain ⟨e', rfl, rfl, rfl⟩ := hy; exact ⟨_, _, _, ⟨e', rfl, rfl, rfl⟩, .inl ⟨e, rfl⟩⟩
 ·obtain ⟨e, rfl⟩ := t_false hx; obtain ⟨e', rfl, rfl, rfl⟩ := hy; exact ⟨_, _, _, ⟨e', rfl, rfl, rfl⟩, .inl ⟨e, rfl⟩⟩
 ·obtain ⟨e, rfl⟩ := t_false hx
  obtain ⟨e', rfl, rfl⟩ := hy
  rcases e with e | e
  ·exact ⟨_, _, _, ⟨e', rfl, rfl⟩, .inl ⟨.inl e, rfl⟩⟩
  ·rw [e.val] at hc
   simp only [Bool.true_and, Bool.not_eq_false'] at hc
   obtain ⟨s, rows, g1, rfl, g3⟩ := effW_maker hc e'
   refine ⟨_, _, _, ⟨e', rfl, rfl⟩, .inl ⟨.inr (e.ext fun k r hk => ?_), rfl⟩⟩
   rw [upd_other _ _ (fun e2 => by rw [e2, g1] at hk; cases hk)]
   exact hk
def GEff (P : Program) (wr : Bool) (base : Nat) (ops : Array Oper) (o : Oper) (S : AState) (v : AV) (box' : Bxs) (tok' : Nat → Bool) (nt' : Nat) : Prop := match o.guard with
 | none => Eff P wr base o S.ev S.box S.tok S.nt v box' tok' nt'
 | some (j, want) => match yieldA ops S j with
  | some b => if b = some want then Eff P wr base o S.ev S.box S.tok S.nt v box' tok' nt' else v = .tup [] ∧ box' = S.box ∧ tok' = S.tok ∧ nt' = S.nt
  | none => False
theorem gstep_iff {base : Nat} {ops : Array Oper} {o : Oper} {S S' : AState} : GStep P wr base ops o S S' ↔ ∃ v box' tok' nt', GEff P wr base ops o S v box' tok' nt' ∧ S' = ⟨putT S.tmps o.dst v, box', tok', nt'⟩ := by
 cases hg : o.guard with
 | none => simp only [GStep, GEff, hg, Step]
 | some q =>
  obtain ⟨j, want⟩ := q
  simp only [GStep, GEff, hg]
  cases hy : yieldA ops S j with
  | none =>
   simp only
   exact ⟨False.elim, fun ⟨_, _, _, _, h, _⟩ => h⟩
  | some b =>
   simp only
   by_cases hb : b = some want
   ·simp only [hb, ↓reduceIte, Step]
   ·simp only [hb, ↓reduceIte]
    constructor
    ·rintro rfl
     exact ⟨_, _, _, _, ⟨rfl, rfl, rfl, rfl⟩, rfl⟩
    ·rintro ⟨v, b, t, n, ⟨rfl, rfl, rfl, rfl⟩, rfl⟩
     rfl
theorem ev_put {S : AState} {o : Oper} {x : Operand} {v : AV} {b : Bxs} {t : Nat → Bool} {n : Nat} (h : ∀ d, o.dst = some d → x ≠ .tmp d) : (⟨putT S.tmps o.dst v, b, t, n⟩ : AState).ev x = S.ev x := by
 cases x with
 | tmp s =>
  simp only [AState.ev, putT]
  cases hd : o.dst with
  | none => rfl
  | some d => exact upd_other _ _ (fun e => h d hd (by rw [e]))
 | const _ => rfl
 | global _ => rfl
 | func _ => rfl
theorem looks_operand {ops : Array Oper} {o : Oper} {x : Operand} (hx : x ∈ o.op.operands) {d : Tmp} (h : d ∉ o.looksAt ops) : x ≠ .tmp d := by
 rintro rfl
 apply h
 simp only [Oper.looksAt, List.mem_append, List.mem_filterMap]
 exact .inl ⟨.tmp d, by simpa using hx, rfl⟩
theorem looks_guard {ops : Array Oper} {o : Oper} {j : Nat} {want : Bool} (hg : o.guard = some (j, want)) {d : Tmp} (h : d ∉ o.looksAt ops) : (ops[j]?).bind (·.dst) ≠ some d := by
 intro e
 apply h
 simp only [Oper.looksAt, hg, List.mem_append]
 exact .inr (by simp [e])
theorem geff_put {base : Nat} {ops : Array Oper} {x y : Oper} {S : AState} {v vx : AV} {b b' : Bxs} {t t' : Nat → Bool} {n n' : Nat} (h : ∀ d, x.dst = some d → d ∉ y.looksAt ops) :
  GEff P wr base ops y ⟨putT S.tmps x.dst vx, b, t, n⟩ v b' t' n' ↔ GEff P wr base ops y ⟨S.tmps, b, t, n⟩ v b' t' n' := by
 have hev : ∀ z ∈ y.op.operands, (⟨putT S.tmps x.dst vx, b, t, n⟩ : AState).ev z = (⟨S.tmps, b, t, n⟩ : AState).ev z := fun z hz => ev_put (S := ⟨S.tmps, b, t, n⟩) fun d hd => looks_operand hz (h d hd)
 have heff : Eff P wr base y (⟨putT S.tmps x.dst vx, b, t, n⟩ : AState).ev b t n v b' t' n' ↔ Eff P wr base y (⟨S.tmps, b, t, n⟩ : AState).ev b t n v b' t' n' :=
  ⟨eff_congr hev, eff_congr fun z hz => (hev z hz).symm⟩
 unfold GEff
 cases hg : y.guard with
 | none => simp only; exact heff
 | some q =>
  obtain ⟨j, want⟩ := q
  have hy : yieldA ops (⟨putT S.tmps x.dst vx, b, t, n⟩ : AState) j = yieldA ops (⟨S.tmps, b, t, n⟩ : AState) j := by
   unfold yieldA
   cases hd : (ops[j]?).bind (·.dst) with
   | none => rfl
   | some d =>
    simp only [putT]
    cases hx : x.dst with
    | none => rfl
    | some e =>
     simp only
     rw [upd_other _ _ (fun e' => looks_guard hg (h e hx) (by rw [hd, e']))]
  simp only [hy]
  split
  ·split
   ·exact heff
   ·exact Iff.rfl
  ·exact Iff.rfl
theorem putT_comm {f : Nat → AV} {x y : Option Tmp} {v u : AV} (h : ∀ d, x = some d → y ≠ some d) : putT (putT f x v) y u = putT (putT f y u) x v := by
 cases x <;> cases y <;> simp only [putT]
 rename_i d e
 have hne : d ≠ e := fun e' => h d rfl (by rw [e'])
 funext j
 simp only [upd]
 by_cases h1 : j = e <;> by_cases h2 : j = d
 ·exact absurd (h2.symm.trans h1) hne
 ·simp [h1, h2]
  intro e'
  exact absurd e'.symm hne
 ·simp [h1, h2, hne]
 ·simp [h1, h2]
theorem gstep_swap' {base : Nat} {ops : Array Oper} {x y : Oper} {S S1 S2 : AState} (hap : x.apart ops y = true) (sw : ∀ {c0 c1 c2 : Bxs} {s0 s1 s2 : Nat → Bool} {m0 m1 m2 : Nat} {vx vy : AV}, Eff P wr base x S.ev c0 s0 m0 vx c1 s1 m1 → Eff P wr base y S.ev c1 s1 m1 vy c2 s2 m2 → ∃ c t n, Eff P wr base y S.ev c0 s0 m0 vy c t n ∧ Eff P wr base x S.ev c t n vx c2 s2 m2) (hx : GStep P wr base ops x S S1) (hy : GStep P wr base ops y S1 S2) :
  ∃ S1', GStep P wr base ops y S S1' ∧ GStep P wr base ops x S1' S2 := by
 obtain ⟨a1, a2, a3⟩ := Oper.apart_spec hap
 obtain ⟨vx, b1, t1, n1, ex, rfl⟩ := gstep_iff.1 hx
 obtain ⟨vy, b2, t2, n2, ey, rfl⟩ := gstep_iff.1 hy
 rw [geff_put (S := ⟨S.tmps, b1, t1, n1⟩) a1] at ey
 -- each is an effect, or nothing at all
 have key : ∃ c t n, GEff P wr base ops y S vy c t n ∧ GEff P wr base ops x ⟨S.tmps, c, t, n⟩ vx b2 t2 n2 := by
  have ydep : ∀ (b : Bxs) t n, yieldA ops ⟨S.tmps, b, t, n⟩ = yieldA ops S := fun b t n => rfl
  have evdep : ∀ (b : Bxs) t n, (⟨S.tmps, b, t, n⟩ : AState).ev = S.ev := fun b t n => by funext z; cases z <;> rfl
  unfold GEff at ex ey ⊢
  simp only [ydep, evdep] at ex ey ⊢
  -- part on the two guards
  cases hgx : x.guard with
  | none =>
   simp only [hgx] at ex ⊢
   cases hgy : y.guard with
   | none => simp only [hgy] at ey ⊢; exact sw ex ey
   | some q =>
    obtain ⟨j, want⟩ := q
    simp only [hgy] at ey ⊢
    cases hyj : yieldA ops S j with
    | none => rw [hyj] at ey; exact ey.elim
    | some b =>
     rw [hyj] at ey
     simp only at ey ⊢
     by_cases hb : b = some want
     ·simp only [hb, ↓reduceIte] at ey ⊢; exact sw ex ey
     ·simp only [hb, ↓reduceIte] at ey ⊢
      obtain ⟨rfl, rfl, rfl, rfl⟩ := ey
      exact ⟨_, _, _, ⟨rfl, rfl, rfl, rfl⟩, ex⟩
  | some qx =>
   obtain ⟨jx, wx⟩ := qx
   simp only [hgx] at ex ⊢
   cases hxj : yieldA ops S jx with
   | none => rw [hxj] at ex; exact ex.elim
   | some bx =>
    rw [hxj] at ex
    simp only at ex ⊢
    by_cases hbx : bx = some wx
    ·simp only [hbx, ↓reduceIte] at ex ⊢
     cases hgy : y.guard with
     | none => simp only [hgy] at ey ⊢; exact sw ex ey
     | some q =>
      obtain ⟨j, want⟩ := q
      simp only [hgy] at ey ⊢
      cases hyj : yieldA ops S j with
      | none => rw [hyj] at ey; exact ey.elim
      | some b =>
       rw [hyj] at ey
       simp only at ey ⊢
       by_cases hb : b = some want
       ·simp only [hb, ↓reduceIte] at ey ⊢; exact sw ex ey
       ·simp only [hb, ↓reduceIte] at ey ⊢
        obtain ⟨rfl, rfl, rfl, rfl⟩ := ey
        exact ⟨_, _, _, ⟨rfl, rfl, rfl, rfl⟩, ex⟩
    ·simp only [hbx, ↓reduceIte] at ex ⊢
     obtain ⟨rfl, rfl, rfl, rfl⟩ := ex
     exact ⟨b2, t2, n2, ey, rfl, rfl, rfl, rfl⟩
 obtain ⟨c, t, n, k1, k2⟩ := key
 refine ⟨_, gstep_iff.2 ⟨vy, c, t, n, k1, rfl⟩, gstep_iff.2 ⟨vx, b2, t2, n2, ?_, ?_⟩⟩
 ·rw [geff_put (S := ⟨S.tmps, c, t, n⟩) a3]
  exact k2
 ·rw [putT_comm (fun d hd => a2 d hd)]
theorem gstep_swap {base : Nat} {ops : Array Oper} {x y : Oper} {S S1 S2 : AState} (hap : x.apart ops y = true) (hc : clash x y = false) (hx : GStep P false base ops x S S1) (hy : GStep P false base ops y S1 S2) :
  ∃ S1', GStep P false base ops y S S1' ∧ GStep P false base ops x S1' S2 := gstep_swap' hap (fun h1 h2 => eff_swap hc h1 h2) hx hy
def ptrOp : Op → Option Operand
 | .load _ p => some p
 | .store _ p _ => some p
 | _ => none
theorem effR_ptr {o : Oper} {p : Operand} {ρ : Operand → AV} {b : Bxs} {v : AV} (ho : ptrOp o.op = some p) (hcl : cls o.op = .r) (h : EffR P o ρ b v) {k' : Nat} {rows : Option (List (List AV))} (hk : ∀ k i off, ρ p = .ptr k i off → k ≠ k') :
  EffR P o ρ (upd b k' rows) v := by
 cases hop : o.op <;> rw [hop] at ho hcl <;> simp only [ptrOp, cls, Option.some.injEq, reduceCtorEq] at ho hcl
 subst ho
 unfold EffR at h ⊢
 simp only [hop] at h ⊢
 split at h
 ·rename_i ag n h1 h2
  split at h
  ·rename_i h3; exact h
  ·rename_i k i off h3
   rw [upd_other _ _ (hk k i off h3)]
   exact h
  ·exact h.elim
 ·exact h.elim
theorem effR_back {o : Oper} {p : Operand} {ρ : Operand → AV} {b : Bxs} {v : AV} {k' : Nat} {rows : Option (List (List AV))} (ho : ptrOp o.op = some p) (hcl : cls o.op = .r) (hk : ∀ k i off, ρ p = .ptr k i off → k ≠ k')
  (h : EffR P o ρ (upd b k' rows) v) : EffR P o ρ b v := by
 have e : upd (upd b k' rows) k' (b k') = b := by
  funext j
  simp only [upd]
  split
  ·rename_i e; rw [e]
  ·rfl
 rw [← e]
 exact effR_ptr ho hcl h hk
theorem effW_ptr {base : Nat} {o : Oper} {p : Operand} {ρ : Operand → AV} {b b' : Bxs} {v : AV} (ho : ptrOp o.op = some p) (hcl : cls o.op = .w) (h : EffW P base o ρ b v b') :
  ∃ k i off row, ρ p = .ptr k i off ∧ b' = upd b k row ∧ ∀ k' r', k' ≠ k → EffW P base o ρ (upd b k' r') v (upd (upd b k' r') k row) := by
 cases hop : o.op <;> rw [hop] at ho hcl <;> simp only [ptrOp, cls, Option.some.injEq, reduceCtorEq] at ho hcl
 subst ho
 unfold EffW at h
 simp only [hop] at h
 split at h
 ·rename_i n cs k i off h1 h2 h3
  split at h
  ·rename_i rows h4
   split at h
   ·rename_i r h5
    obtain ⟨g1, g2, g3, g4⟩ := h
    refine ⟨k, i, off, _, h3, g4, fun k' r' hne => ?_⟩
    unfold EffW
    simp only [hop, h1, h2, h3, upd_other _ _ (Ne.symm hne), h4, h5]
    exact ⟨g1, g2, g3, by first | rfl | trivial⟩
   ·exact h.elim
  ·exact h.elim
 ·exact h.elim
theorem upd_back {α : Type} (b : Nat → α) (k : Nat) (r : α) : upd (upd b k r) k (b k) = b := by
 funext j
 simp only [upd]
 split
 ·rename_i e; rw [e]
 ·rfl
theorem eff_far {base : Nat} {x y : Oper} {p q : Operand} {ρ : Operand → AV} {b0 b1 b2 : Bxs} {t0 t1 t2 : Nat → Bool} {n0 n1 n2 : Nat} {vx vy : AV} (hp : ptrOp x.op = some p) (hq : ptrOp y.op = some q)
  (hk : ∀ k i off k' i' off', ρ p = .ptr k i off → ρ q = .ptr k' i' off' → k ≠ k')
  (hx : Eff P wr base x ρ b0 t0 n0 vx b1 t1 n1) (hy : Eff P wr base y ρ b1 t1 n1 vy b2 t2 n2) : ∃ c t n, Eff P wr base y ρ b0 t0 n0 vy c t n ∧ Eff P wr base x ρ c t n vx b2 t2 n2 := by
 have cl : ∀ {o : Oper} {p : Operand}, ptrOp o.op = some p → cls o.op = .r ∨ cls o.op = .w := by
  intro o p h
  cases hop : o.op <;> rw [hop] at h <;> simp only [ptrOp, reduceCtorEq] at h
  ·exact .inl rfl
  ·exact .inr rfl
 unfold Eff at hx hy ⊢
 rcases cl hp with h1 | h1 <;> rcases cl hq with h2 | h2 <;> simp only [h1, h2] at hx hy ⊢
 ·obtain ⟨e, rfl, rfl, rfl⟩ := hx; obtain ⟨e', rfl, rfl, rfl⟩ := hy; exact ⟨_, _, _, ⟨e', rfl, rfl, rfl⟩, e, rfl, rfl, rfl⟩
 ·obtain ⟨e, rfl, rfl, rfl⟩ := hx
  obtain ⟨e', rfl, rfl⟩ := hy
  obtain ⟨k', i', off', row, g1, rfl, g3⟩ := effW_ptr hq h2 e'
  exact ⟨_, _, _, ⟨e', rfl, rfl⟩, effR_ptr hp h1 e fun k i off hh => hk k i off k' i' off' hh g1, rfl, rfl, rfl⟩
 ·obtain ⟨e, rfl, rfl⟩ := hx
  obtain ⟨e', rfl, rfl, rfl⟩ := hy
  obtain ⟨k', i', off', row, g1, rfl, g3⟩ := effW_ptr hp h1 e
  exact ⟨_, _, _, ⟨effR_back hq h2 (fun k i off hh => Ne.symm (hk k' i' off' k i off g1 hh)) e', rfl, rfl, rfl⟩, e, rfl, rfl⟩
 ·obtain ⟨e, rfl, rfl⟩ := hx
  obtain ⟨e', rfl, rfl⟩ := hy
  obtain ⟨k, i, off, row, g1, rfl, g3⟩ := effW_ptr hp h1 e
  obtain ⟨k', i', off', row', g1', rfl, g3'⟩ := effW_ptr hq h2 e'
  have hne := hk _ _ _ _ _ _ g1 g1'
  have e2 := g3' k (b0 k) hne
  rw [upd_back] at e2
  refine ⟨_, _, _, ⟨e2, rfl, rfl⟩, ?_, rfl, rfl⟩
  rw [upd_comm _ hne]
  exact g3 k' row' (Ne.symm hne)
end Go.AM
namespace Go.AM
open Go
variable {P : Program} {wr : Bool}
def LeK (base : Nat) (G : Gh) (w : World) (b : Bxs) (G' : Gh) (w' : World) (b' : Bxs) : Prop := Le G w G' w' ∧ ∀ k, k < base → G.bx k = none → G'.bx k = none ∧ b' k = b k
theorem LeK.refl (base : Nat) (G : Gh) (w : World) (b : Bxs) : LeK base G w b G w b := ⟨Le.refl G w, fun _ _ h => ⟨h, rfl⟩⟩
theorem LeK.trans {base : Nat} {G1 G2 G3 : Gh} {w1 w2 w3 : World} {b1 b2 b3 : Bxs} (h : LeK base G1 w1 b1 G2 w2 b2) (k : LeK base G2 w2 b2 G3 w3 b3) : LeK base G1 w1 b1 G3 w3 b3 :=
 ⟨h.1.trans k.1, fun j hj hg => ⟨(k.2 j hj (h.2 j hj hg).1).1, (k.2 j hj (h.2 j hj hg).1).2.trans (h.2 j hj hg).2⟩⟩
theorem Kept.leK {base : Nat} {o : Oper} {G G' : Gh} {w w' : World} {box box' : Bxs} (h : Kept base o G G' box box') (hle : Le G w G' w') : LeK base G w box G' w' box' :=
 ⟨hle, fun k hk hg => h k (fun e => by
  cases hd : o.dst with
  | none => rw [hd] at e; cases e
  | some d =>
   rw [hd] at e
   simp only [Option.map_some, Option.some.injEq] at e
   omega) hg⟩
def IRun (P : Program) (wr : Bool) (base : Nat) (ops : Array Oper) : List Nat → AState → AState → Prop
 | [], S, S' => S' = S
 | i :: r, S, S' => ∃ o S1, ops[i]? = some o ∧ GStep P wr base ops o S S1 ∧ IRun P wr base ops r S1 S'
def ARun (P : Program) (wr : Bool) (base : Nat) (ops : Array Oper) : List Oper → AState → AState → Prop
 | [], S, S' => S' = S
 | o :: r, S, S' => ∃ S1, GStep P wr base ops o S S1 ∧ ARun P wr base ops r S1 S'
theorem IRun.of_aRun {base : Nat} {ops : Array Oper} {S' : AState} : ∀ (l : List Oper) (k : Nat) (S : AState), ops.toList.drop k = l → ARun P wr base ops l S S' → IRun P wr base ops (List.range' k l.length) S S'
 | [], k, S, _, h => h
 | o :: l, k, S, hl, ⟨S1, h1, h2⟩ => by
  have hk : ops.toList[k]? = some o := by
   have := congrArg (·[0]?) hl
   simpa using this
  refine ⟨o, S1, by simpa using hk, h1, ?_⟩
  refine IRun.of_aRun l (k + 1) S1 ?_ h2
  have := congrArg List.tail hl
  simpa [List.tail_drop] using this
theorem IRun.of_all {base : Nat} {ops : Array Oper} {S S' : AState} (h : ARun P wr base ops ops.toList S S') : IRun P wr base ops (List.range ops.size) S S' := by
 have := IRun.of_aRun ops.toList 0 S (by simp) h
 simpa [List.range_eq_range'] using this
def direct (o : Oper) : List Nat := (o.after.toList.filter fun e => Region.binds .any e).map (·.on)
def om (f : Nat → Nat) (js : List Nat) : Nat := js.foldl (fun m j => m ||| (2 ^ j ||| f j)) 0
theorem om_bit (f : Nat → Nat) (q : Nat) (js : List Nat) : (om f js).testBit q = true ↔ ∃ j ∈ js, q = j ∨ (f j).testBit q = true := by
 have key : ∀ (js : List Nat) (m0 : Nat), (js.foldl (fun m j => m ||| (2 ^ j ||| f j)) m0).testBit q = true ↔ m0.testBit q = true ∨ ∃ j ∈ js, q = j ∨ (f j).testBit q = true := by
  intro js
  induction js with
  | nil => intro m0; simp
  | cons j js ih =>
   intro m0
   rw [List.foldl_cons, ih]
   simp only [Nat.testBit_or, Nat.testBit_two_pow, Bool.or_eq_true, decide_eq_true_eq, List.mem_cons]
   constructor
   ·rintro ((h | h | h) | ⟨x, hx, h⟩)
    ·exact .inl h
    ·exact .inr ⟨j, .inl rfl, .inl h.symm⟩
    ·exact .inr ⟨j, .inl rfl, .inr h⟩
    ·exact .inr ⟨x, .inr hx, h⟩
   ·rintro (h | ⟨x, rfl | hx, h | h⟩)
    ·exact .inl (.inl h)
    ·exact .inl (.inr (.inl h.symm))
    ·exact .inl (.inr (.inr h))
    ·exact .inr ⟨x, hx, .inl h⟩
    ·exact .inr ⟨x, hx, .inr h⟩
 unfold om
 rw [key]
 simp
def ancs : List Oper → List Nat → List Nat
 | [], acc => acc
 | o :: r, acc => ancs r (acc ++ [om (fun j => acc.getD j 0) (direct o)])
def isAlloc : Op → Bool
 | .alloc _ => true
 | _ => false
def allocOk (ops : Array Oper) : Bool :=
 (List.range ops.size).all fun i => (List.range ops.size).all fun j => i == j || (match ops[i]?, ops[j]? with
  | some x, some y => !isAlloc x.op || x.dst != y.dst
  | _, _ => true)
def dstOk (n : Nat) (ops : Array Oper) : Bool := ops.toList.all fun o => match o.dst with
 | some d => decide (d < n)
 | none => true
def regOk (ops : Array Oper) : Bool :=
 let an := ancs ops.toList []
 (List.range ops.size).all fun i => (match ops[i]? with | some o => (direct o).all fun j => decide (j < i) | none => true) &&
  (List.range i).all fun j => (an.getD i 0).testBit j || (match ops[j]?, ops[i]? with
   | some x, some y => Oper.apart ops x y && !clash x y
   | _, _ => false)
theorem ancs_keep : ∀ (l : List Oper) (acc : List Nat) (i : Nat), i < acc.length → (ancs l acc).getD i 0 = acc.getD i 0
 | [], acc, i, _ => rfl
 | o :: l, acc, i, h => by
  rw [ancs, ancs_keep l _ i (by simp; omega)]
  simp only [List.getD_eq_getElem?_getD]
  rw [List.getElem?_append_left h]
theorem ancs_at : ∀ (l : List Oper) (acc : List Nat) (i : Nat) (o : Oper), l[i]? = some o → (ancs l acc).getD (acc.length + i) 0 = om (fun j => if j < acc.length + i then (ancs l acc).getD j 0 else 0) (direct o)
 | [], acc, i, o, h => by simp at h
 | o0 :: l, acc, 0, o, h => by
  simp at h
  subst h
  rw [ancs, ancs_keep l _ _ (by simp)]
  simp only [List.getD_eq_getElem?_getD, Nat.add_zero, List.getElem?_append_right (Nat.le_refl _), Nat.sub_self, List.getElem?_cons_zero, Option.getD_some]
  congr 1
  funext j
  split
  ·rename_i hj
   have := ancs_keep l (acc ++ [om (fun j => acc.getD j 0) (direct o0)]) j (by simp; omega)
   simp only [List.getD_eq_getElem?_getD] at this
   rw [this, List.getElem?_append_left hj]
  ·rename_i hj
   rw [List.getElem?_eq_none (by omega)]
   rfl
 | o0 :: l, acc, i + 1, o, h => by
  have ih := ancs_at l (acc ++ [om (fun j => acc.getD j 0) (direct o0)]) i o (by simpa using h)
  simp only [List.length_append, List.length_cons, List.length_nil, Nat.zero_add] at ih
  rw [ancs]
  have e : acc.length + (i + 1) = acc.length + 1 + i := by omega
  rw [e, ih]
theorem anc_done {ops : Array Oper} {done : Nat → Prop} (hdown : ∀ i o, ops[i]? = some o → done i → ∀ j ∈ direct o, done j) : ∀ (i : Nat) (o : Oper), ops[i]? = some o → (∀ j ∈ direct o, done j) →
  ∀ j, ((ancs ops.toList []).getD i 0).testBit j = true → done j := by
 intro i
 induction i using Nat.strongRecOn with
 | ind i ih =>
  intro o ho hd j hj
  have := ancs_at ops.toList [] i o (by simpa using ho)
  simp only [List.length_nil, Nat.zero_add] at this
  rw [this, om_bit] at hj
  obtain ⟨q, hq, hj⟩ := hj
  rcases hj with rfl | hj
  ·exact hd _ hq
  ·split at hj
   ·rename_i hlt
    cases hoq : ops[q]? with
    | none =>
     have hge : ops.size ≤ q := by simpa using hoq
     have hlt' : i < ops.size := (Array.getElem?_eq_some_iff.1 ho).1
     omega
    | some oq => exact ih q hlt oq hoq (hdown q oq hoq (hd q hq)) j hj
   ·simp at hj
theorem irun_front {base : Nat} {ops : Array Oper} {Sf : AState} {Iv : AState → Prop} (hIv : ∀ (i : Nat) (o : Oper) (S S' : AState) (rest : List Nat), ops[i]? = some o → i ∉ rest → GStep P wr base ops o S S' → IRun P wr base ops rest S' Sf → Iv S → Iv S') {i : Nat} {o : Oper} (hi : ops[i]? = some o) :
  ∀ (r1 r2 : List Nat) (S : AState), (r1 ++ i :: r2).Nodup → Iv S →
  (∀ j ∈ r1, ∀ x, ops[j]? = some x → ∀ S S1 S2, Iv S → GStep P wr base ops x S S1 → GStep P wr base ops o S1 S2 → ∃ S1', GStep P wr base ops o S S1' ∧ GStep P wr base ops x S1' S2) →
  IRun P wr base ops (r1 ++ i :: r2) S Sf → IRun P wr base ops (i :: (r1 ++ r2)) S Sf
 | [], r2, S, _, _, _, h => h
 | j :: r1, r2, S, hnd, hS, hj, ⟨x, S1, hx, h1, h2⟩ => by
  have hnd' := List.nodup_cons.1 hnd
  obtain ⟨o', S2, ho', k1, k2⟩ := irun_front hIv hi r1 r2 S1 hnd'.2 (hIv j x S S1 _ hx hnd'.1 h1 h2 hS) (fun q hq => hj q (by simp [hq])) h2
  rw [hi] at ho'
  cases ho'
  obtain ⟨S1', g1, g2⟩ := hj j (by simp) x hx S S1 S2 hS h1 k1
  exact ⟨o, S1', hi, g1, x, S2, hx, g2, k2⟩
theorem mem_ready' {ops : Array Oper} {listed : Array Bool} {i : Nat} (h : i ∈ Region.ready .any ops listed) : ∃ o, ops[i]? = some o ∧ listed.getD i true = false ∧ ∀ j ∈ direct o, listed.getD j false = true := by
 simp only [Region.ready, List.mem_filter, List.mem_range, Bool.and_eq_true, Bool.not_eq_true'] at h
 obtain ⟨h1, h2, h3⟩ := h
 have ho : ops[i]? = some ops[i] := Array.getElem?_eq_getElem h1
 refine ⟨ops[i], ho, h2, ?_⟩
 rw [ho] at h3
 simp only [Option.map_some, Option.getD_some] at h3
 intro j hj
 simp only [direct, List.mem_map, List.mem_filter] at hj
 obtain ⟨e, ⟨he, hb⟩, rfl⟩ := hj
 have := (Array.all_eq_true_iff_forall_mem.1 h3) e (by simpa using he)
 simpa [hb] using this
theorem getD_any {a : Array Bool} {i : Nat} (h : i < a.size) (b c : Bool) : a.getD i b = a.getD i c := by simp [Array.getD, h]
theorem any_sound' {n nb base : Nat} {ops : Array Oper} {Q : Exit → Act → World → Prop} {Sf : AState} {G0 : Gh} {w0 : World} {b0 : Bxs} (hlo : ∀ (i : Nat) (o : Oper), ops[i]? = some o → ∀ j ∈ direct o, j < i) {Iv : AState → Prop} (hIv : ∀ (i : Nat) (o : Oper) (S S' : AState) (rest : List Nat), ops[i]? = some o → i ∉ rest → GStep P wr base ops o S S' → IRun P wr base ops rest S' Sf → Iv S → Iv S')
  (hsw : ∀ (i j : Nat) (o x : Oper), ops[i]? = some o → ops[j]? = some x → j < i → ((ancs ops.toList []).getD i 0).testBit j = false → ∀ S S1 S2, Iv S → GStep P wr base ops x S S1 → GStep P wr base ops o S1 S2 → ∃ S1', GStep P wr base ops o S S1' ∧ GStep P wr base ops x S1' S2) (hal : allocOk ops = true) (hdst : dstOk n ops = true) (hnb : base + n ≤ nb)
  (hQ : ∀ a' w' G', RelS n nb G' Sf a' w' → LeK base G0 w0 b0 G' w' Sf.box → Q .normal a' w') : ∀ (fuel : Nat) (listed : Array Bool) (rem : List Nat) (S : AState) (a : Act) (w : World) (G : Gh),
  listed.size = ops.size → rem = (List.range ops.size).filter (fun i => !listed.getD i true) → rem.length = fuel → (∀ i o, ops[i]? = some o → listed.getD i false = true → ∀ j ∈ direct o, listed.getD j false = true) →
  Iv S → IRun P wr base ops rem S Sf → RelS n nb G S a w → (∀ i ∈ rem, ∀ o, ops[i]? = some o → Pend P base o G S.box) → LeK base G0 w0 b0 G w S.box → wpAny P .any ops Q fuel listed a w := by
 have hd : ∀ (o : Oper) d, o ∈ ops → o.dst = some d → d < n := by
  intro o d ho hod
  have := List.all_eq_true.1 hdst o (by simpa using ho)
  rw [hod] at this
  simpa using this
 intro fuel
 induction fuel with
 | zero =>
  intro listed rem S a w G hsz hrem hlen hdown hiv hrun hr hp hle
  have h0 : rem = [] := List.eq_nil_of_length_eq_zero hlen
  rw [h0] at hrun hrem
  refine ⟨?_, ?_⟩
  ·simp only [Region.ready]
   rw [List.filter_eq_nil_iff]
   intro i hi
   have := (List.filter_eq_nil_iff.1 hrem.symm) i hi
   simp at this
   simp [this]
  ·have hS : Sf = S := hrun
   subst hS
   exact hQ a w G hr hle
 | succ fuel ih =>
  intro listed rem S a w G hsz hrem hlen hdown hiv hrun hr hp hle
  refine ⟨fun hre => ?_, fun i hi => ?_⟩
  ·-- something is ready: the first that is left
   exfalso
   cases hrem' : rem with
   | nil => rw [hrem'] at hlen; simp at hlen
   | cons i r =>
    have hmem : i ∈ rem := by rw [hrem']; simp
    have hmem' := hmem
    rw [hrem, List.mem_filter, List.mem_range] at hmem
    have ho : ops[i]? = some ops[i] := Array.getElem?_eq_getElem hmem.1
    have hsorted : rem.Pairwise (· < ·) := by rw [hrem]; exact List.pairwise_lt_range.filter _
    rw [hrem'] at hsorted
    have hfirst : ∀ j, j < i → listed.getD j false = true := by
     intro j hj
     have hjs : j < listed.size := by rw [hsz]; omega
     cases hl : listed.getD j false with
     | true => rfl
     | false =>
      have hjm : j ∈ rem := by
       rw [hrem, List.mem_filter, List.mem_range]
       refine ⟨by omega, ?_⟩
       rw [getD_any hjs true false, hl]
       rfl
      rw [hrem'] at hjm
      rcases List.mem_cons.1 hjm with e | e
      ·omega
      ·have := (List.pairwise_cons.1 hsorted).1 j e
       omega
    have hready : i ∈ Region.ready .any ops listed := by
     simp only [Region.ready, List.mem_filter, List.mem_range]
     refine ⟨hmem.1, ?_⟩
     rw [ho]
     simp only [Option.map_some, Option.getD_some, Bool.and_eq_true]
     refine ⟨hmem.2, ?_⟩
     rw [Array.all_eq_true_iff_forall_mem]
     intro e he
     by_cases hb : Region.binds .any e = true
     ·have hlt' : e.on < i := hlo i _ ho e.on (by simp only [direct, List.mem_map, List.mem_filter]; exact ⟨e, ⟨by simpa using he, hb⟩, rfl⟩)
      simp [hfirst e.on hlt']
     ·simp [hb]
    rw [hre] at hready
    simp at hready
  ·obtain ⟨o, ho, hl, hdir⟩ := mem_ready' hi
   have his : i < ops.size := (Array.getElem?_eq_some_iff.1 ho).1
   have him : i ∈ rem := by
    rw [hrem, List.mem_filter, List.mem_range]
    exact ⟨his, by simp [hl]⟩
   obtain ⟨r1, r2, hr12⟩ := List.append_of_mem him
   have hsorted : rem.Pairwise (· < ·) := by rw [hrem]; exact List.pairwise_lt_range.filter _
   rw [hr12] at hsorted
   have hs1 : ∀ j ∈ r1, j < i := fun j hj => (List.pairwise_append.1 hsorted).2.2 j hj i (by simp)
   have hs2 : ∀ j ∈ r2, i < j := fun j hj => (List.pairwise_cons.1 (List.pairwise_append.1 hsorted).2.1).1 j hj
   have hindep : ∀ j ∈ r1, ∀ x, ops[j]? = some x → ∀ S S1 S2, Iv S → GStep P wr base ops x S S1 → GStep P wr base ops o S1 S2 → ∃ S1', GStep P wr base ops o S S1' ∧ GStep P wr base ops x S1' S2 := by
    intro j hj x hx
    refine hsw i j o x ho hx (hs1 j hj) ?_
    cases h2 : ((ancs ops.toList []).getD i 0).testBit j with
    | false => rfl
    | true =>
     exfalso
     have hjr : j ∈ rem := by rw [hr12]; simp [hj]
     rw [hrem, List.mem_filter] at hjr
     have hdone := anc_done (done := fun q => listed.getD q false = true) hdown i o ho hdir j h2
     have hjs : j < listed.size := by rw [hsz]; have := hs1 j hj; omega
     rw [getD_any hjs true false, hdone] at hjr
     simp at hjr
   have hnd : (r1 ++ i :: r2).Nodup := hsorted.imp (fun h => Nat.ne_of_lt h)
   have hni : i ∉ r1 ++ r2 := fun hm => by
    rcases List.mem_append.1 hm with h | h
    ·have := hs1 i h; omega
    ·have := hs2 i h; omega
   rw [hr12] at hrun
   obtain ⟨o', S1, ho', hst, hrest⟩ := irun_front hIv ho r1 r2 S hnd hiv hindep hrun
   rw [ho] at ho'
   cases ho'
   have hiv1 := hIv i o S S1 _ ho hni hst hrest hiv
   refine gstep_sound ho hst hr hd hnb (hp i him o ho) fun a' w' G' hr' hle' hk => ?_
   have hset : ∀ j, j ≠ i → ∀ b, (listed.setIfInBounds i true).getD j b = listed.getD j b := fun j hj b => getD_set_ne b (Ne.symm hj)
   have hrem2 : r1 ++ r2 = (List.range ops.size).filter fun j => !(listed.setIfInBounds i true).getD j true := by
    have e1 : r1 ++ r2 = rem.filter (· != i) := by
     rw [hr12, List.filter_append, List.filter_cons]
     simp only [bne_self_eq_false, Bool.false_eq_true, ↓reduceIte]
     rw [List.filter_eq_self.2 (fun j hj => by have := hs1 j hj; simp; omega), List.filter_eq_self.2 (fun j hj => by have := hs2 j hj; simp; omega)]
    rw [e1, hrem, List.filter_filter]
    apply List.filter_congr
    intro j hj
    by_cases e : j = i
    ·subst e
     have : (listed.setIfInBounds j true).getD j true = true := by
      simp [Array.getD]
     simp [this]
    ·rw [hset j e]
     simp [e]
   refine ih (listed.setIfInBounds i true) (r1 ++ r2) S1 a' w' G' (by simp [hsz]) hrem2 (by rw [hr12] at hlen; simp at hlen ⊢; omega) ?_ hiv1 hrest hr' ?_ (hle.trans (hk.leK hle'))
   ·intro j x hx hlj q hq
    by_cases e : j = i
    ·subst e
     rw [ho] at hx
     cases hx
     exact getD_set_true (hdir q hq)
    ·rw [hset j e] at hlj
     exact getD_set_true (hdown j x hx hlj q hq)
   ·intro j hj x hx
    have hjr : j ∈ rem := by
     rw [hr12]
     rcases List.mem_append.1 hj with h | h
     ·exact List.mem_append.2 (.inl h)
     ·exact List.mem_append.2 (.inr (List.mem_cons_of_mem _ h))
    have hpj := hp j hjr x hx
    have hne : j ≠ i := by
     rcases List.mem_append.1 hj with h | h
     ·have := hs1 j h; omega
     ·have := hs2 j h; omega
    unfold Pend at hpj ⊢
    split at hpj
    ·rename_i T s hop hds
     obtain ⟨zs, h1, h2, h3⟩ := hpj
     have hjs : j < ops.size := (Array.getElem?_eq_some_iff.1 hx).1
     have hall := List.all_eq_true.1 (List.all_eq_true.1 hal j (by simpa using hjs)) i (by simpa using his)
     rw [hx, ho] at hall
     have hdne : x.dst ≠ o.dst := by
      simp only [Bool.or_eq_true, beq_iff_eq, hne, false_or, hop, isAlloc, Bool.not_true, Bool.false_eq_true] at hall
      simpa using hall
     have := hk (base + s) (fun e => hdne (by
      rw [hds]
      cases hod : o.dst with
      | none => rw [hod] at e; cases e
      | some d =>
       rw [hod] at e
       simp only [Option.map_some, Option.some.injEq] at e
       have : s = d := Nat.add_left_cancel e
       rw [this])) h3
     exact ⟨zs, h1, by rw [this.2]; exact h2, this.1⟩
    ·trivial
theorem any_sound {n nb base : Nat} {ops : Array Oper} {Q : Exit → Act → World → Prop} {Sf : AState} {G0 : Gh} {w0 : World} {b0 : Bxs} (hreg : regOk ops = true) (hal : allocOk ops = true) (hdst : dstOk n ops = true) (hnb : base + n ≤ nb)
  (hQ : ∀ a' w' G', RelS n nb G' Sf a' w' → LeK base G0 w0 b0 G' w' Sf.box → Q .normal a' w') (fuel : Nat) (listed : Array Bool) (rem : List Nat) (S : AState) (a : Act) (w : World) (G : Gh)
  (h1 : listed.size = ops.size) (h2 : rem = (List.range ops.size).filter (fun i => !listed.getD i true)) (h3 : rem.length = fuel) (h4 : ∀ i o, ops[i]? = some o → listed.getD i false = true → ∀ j ∈ direct o, listed.getD j false = true)
  (h5 : IRun P false base ops rem S Sf) (h6 : RelS n nb G S a w) (h7 : ∀ i ∈ rem, ∀ o, ops[i]? = some o → Pend P base o G S.box) (h8 : LeK base G0 w0 b0 G w S.box) : wpAny P .any ops Q fuel listed a w := by
 have key : ∀ (i : Nat) (o : Oper), ops[i]? = some o → (∀ j ∈ direct o, j < i) ∧ ∀ j x, ops[j]? = some x → j < i → ((ancs ops.toList []).getD i 0).testBit j = true ∨ x.apart ops o = true ∧ clash x o = false := by
  intro i o ho
  have his : i < ops.size := (Array.getElem?_eq_some_iff.1 ho).1
  have hall := List.all_eq_true.1 hreg i (by simpa using his)
  rw [ho] at hall
  simp only [Bool.and_eq_true] at hall
  refine ⟨fun j hj => by simpa using List.all_eq_true.1 hall.1 j hj, fun j x hx hj => ?_⟩
  have h2 := List.all_eq_true.1 hall.2 j (by simpa using hj)
  rw [hx] at h2
  simpa only [Bool.or_eq_true, Bool.and_eq_true, Bool.not_eq_true'] using h2
 refine any_sound' (fun i o ho => (key i o ho).1) (Iv := fun _ => True) (fun _ _ _ _ _ _ _ _ _ _ => trivial) ?_ hal hdst hnb hQ fuel listed rem S a w G h1 h2 h3 h4 trivial h5 h6 h7 h8
 intro i j o x ho hx hj hb S S1 S2 _ g1 g2
 rcases (key i o ho).2 j x hx hj with h | ⟨h, h'⟩
 ·rw [hb] at h; cases h
 ·exact gstep_swap h h' g1 g2
def dstUniq (ops : Array Oper) : Bool :=
 (List.range ops.size).all fun i => (List.range ops.size).all fun j => i == j || (match ops[i]?, ops[j]? with
  | some x, some y => x.dst == none || x.dst != y.dst
  | _, _ => true)
def isPtr (o : Op) : Bool := (ptrOp o).isSome
def regOk2 (ops : Array Oper) : Bool :=
 let an := ancs ops.toList []
 dstUniq ops && (List.range ops.size).all fun i => (match ops[i]? with | some o => (direct o).all fun j => decide (j < i) | none => true) &&
  (List.range i).all fun j => (an.getD i 0).testBit j || (match ops[j]?, ops[i]? with
   | some x, some y => Oper.apart ops x y && (!clash x y || isPtr x.op && isPtr y.op)
   | _, _ => false)
def NP (x : AV) : Prop := match x with | .ptr .. => False | _ => True
def NK (x y : AV) : Prop := match x with
 | .ptr k _ _ => match y with
  | .ptr k' _ _ => k ≠ k'
  | _ => True
 | _ => True
theorem NK.symm {x y : AV} (h : NK x y) : NK y x := by
 cases x <;> cases y <;> simp only [NK] at h ⊢
 exact Ne.symm h
def ptrs : List Oper → List (Bool × Operand)
 | [] => []
 | o :: r => match o.op with
  | .load _ p => (false, p) :: ptrs r
  | .store _ p _ => (true, p) :: ptrs r
  | _ => ptrs r
def Far1 (S : AState) (b : Bool) (p : Operand) : List (Bool × Operand) → Prop
 | [] => True
 | (c, q) :: r => (match b, c with | false, false => True | _, _ => NK (S.ev p) (S.ev q)) ∧ Far1 S b p r
def Far (S : AState) : List (Bool × Operand) → Prop
 | [] => True
 | (b, p) :: r => Far1 S b p r ∧ Far S r
theorem far1_all {S : AState} {b : Bool} {p : Operand} {l : List (Bool × Operand)} (h : Far1 S b p l) : ∀ c q, (c, q) ∈ l → (b || c) = true → NK (S.ev p) (S.ev q) := by
 induction l with
 | nil => intro c q hm; simp at hm
 | cons x r ih =>
  obtain ⟨c0, q0⟩ := x
  intro c q hm hb
  simp only [Far1] at h
  rcases List.mem_cons.1 hm with e | hm
  ·cases e
   have h1 := h.1
   cases b <;> cases c0 <;> first | exact h1 | (simp at hb)
  ·exact ih h.2 c q hm hb
theorem ptrs_mem {o : Oper} {p : Operand} (hp : ptrOp o.op = some p) {l : List Oper} (h : o ∈ l) : (match o.op with | .store .. => true | _ => false, p) ∈ ptrs l := by
 induction l with
 | nil => simp at h
 | cons x r ih =>
  rcases List.mem_cons.1 h with e | h
  ·subst e
   unfold ptrs
   cases hop : o.op <;> rw [hop] at hp <;> simp only [ptrOp, Option.some.injEq, reduceCtorEq] at hp
   ·subst hp; simp
   ·subst hp; simp
  ·have := ih h
   unfold ptrs
   split
   ·exact List.mem_cons_of_mem _ this
   ·exact List.mem_cons_of_mem _ this
   ·exact this
theorem far_spec {S : AState} : ∀ {l : List Oper} {i j : Nat} {x y : Oper} {p q : Operand}, Far S (ptrs l) → i < j → l[i]? = some x → l[j]? = some y → ptrOp x.op = some p → ptrOp y.op = some q → clash x y = true → NK (S.ev p) (S.ev q) := by
 intro l
 induction l with
 | nil => intro i j x y p q _ _ h; simp at h
 | cons o r ih =>
  intro i j x y p q hf hij hx hy hp hq hc
  cases j with
  | zero => omega
  | succ j =>
   cases i with
   | succ i =>
    refine ih (i := i) (j := j) ?_ (by omega) (by simpa using hx) (by simpa using hy) hp hq hc
    unfold ptrs at hf
    split at hf
    ·exact hf.2
    ·exact hf.2
    ·exact hf
   | zero =>
    simp at hx
    subst hx
    have hm : y ∈ r := List.mem_of_getElem? (by simpa using hy)
    have hm' := ptrs_mem hq hm
    cases hop : o.op <;> rw [hop] at hp <;> simp only [ptrOp, Option.some.injEq, reduceCtorEq] at hp
    ·subst hp
     unfold ptrs at hf
     rw [hop] at hf
     refine far1_all hf.1 _ _ hm' ?_
     cases hoq : y.op <;> rw [hoq] at hq <;> simp only [ptrOp, Option.some.injEq, reduceCtorEq] at hq
     ·simp [clash, hop, hoq, cls] at hc
     ·rfl
    ·subst hp
     unfold ptrs at hf
     rw [hop] at hf
     exact far1_all hf.1 _ _ hm' (by simp)
def Side (ops : Array Oper) (S : AState) : Prop := ∀ o ∈ ops.toList, ∀ d, o.dst = some d → NP (S.tmps d)
def Ivs (Sf S : AState) : Prop := ∀ t, S.tmps t = Sf.tmps t ∨ NP (S.tmps t)
theorem dstUniq_spec {ops : Array Oper} (h : dstUniq ops = true) {i j : Nat} {x y : Oper} {d : Tmp} (hx : ops[i]? = some x) (hy : ops[j]? = some y) (h1 : x.dst = some d) (h2 : y.dst = some d) : i = j := by
 have hi := (Array.getElem?_eq_some_iff.1 hx).1
 have hj := (Array.getElem?_eq_some_iff.1 hy).1
 have := List.all_eq_true.1 (List.all_eq_true.1 h i (by simpa using hi)) j (by simpa using hj)
 rw [hx, hy] at this
 simpa [h1, h2] using this
theorem irun_keeps {base : Nat} {ops : Array Oper} {Sf : AState} {t : Tmp} : ∀ {rest : List Nat} {S : AState}, (∀ j ∈ rest, ∀ x, ops[j]? = some x → x.dst ≠ some t) → IRun P wr base ops rest S Sf → Sf.tmps t = S.tmps t
 | [], S, _, h => by
  have : Sf = S := h
  rw [this]
 | j :: r, S, hr, ⟨x, S1, hx, h1, h2⟩ => by
  rw [irun_keeps (fun q hq => hr q (by simp [hq])) h2]
  obtain ⟨v, b, t', n', he, rfl⟩ := gstep_iff.1 h1
  have := hr j (by simp) x hx
  simp only [putT]
  cases hd : x.dst with
  | none => rfl
  | some d => exact upd_other _ _ (fun e => this (by rw [hd, e]))
theorem ivs_step {base : Nat} {ops : Array Oper} {Sf : AState} (hu : dstUniq ops = true) (i : Nat) (o : Oper) (S S' : AState) (rest : List Nat) (ho : ops[i]? = some o) (hni : i ∉ rest) (hst : GStep P wr base ops o S S') (hrun : IRun P wr base ops rest S' Sf) (hiv : Ivs Sf S) : Ivs Sf S' := by
 intro t
 by_cases hd : o.dst = some t
 ·refine .inl (irun_keeps (fun j hj x hx hxd => ?_) hrun).symm
  have := dstUniq_spec hu ho hx hd hxd
  subst this
  exact hni hj
 ·obtain ⟨v, b, t', n', he, rfl⟩ := gstep_iff.1 hst
  have : putT S.tmps o.dst v t = S.tmps t := by
   unfold putT
   cases hod : o.dst with
   | none => rfl
   | some d => exact upd_other _ _ (fun e => hd (by rw [hod, e]))
  show putT S.tmps o.dst v t = Sf.tmps t ∨ NP (putT S.tmps o.dst v t)
  rw [this]
  exact hiv t
theorem any_sound2 {n nb base : Nat} {ops : Array Oper} {Q : Exit → Act → World → Prop} {Sf : AState} {G0 : Gh} {w0 : World} {b0 : Bxs} (hreg : regOk2 ops = true) (hal : allocOk ops = true) (hdst : dstOk n ops = true) (hnb : base + n ≤ nb)
  (hfar : Far Sf (ptrs ops.toList))
  (hQ : ∀ a' w' G', RelS n nb G' Sf a' w' → LeK base G0 w0 b0 G' w' Sf.box → Q .normal a' w') (fuel : Nat) (listed : Array Bool) (rem : List Nat) (S : AState) (a : Act) (w : World) (G : Gh) (hrem : rem = List.range ops.size) (hside : Side ops S)
  (h1 : listed.size = ops.size) (h2 : rem = (List.range ops.size).filter (fun i => !listed.getD i true)) (h3 : rem.length = fuel) (h4 : ∀ i o, ops[i]? = some o → listed.getD i false = true → ∀ j ∈ direct o, listed.getD j false = true)
  (h5 : IRun P false base ops rem S Sf) (h6 : RelS n nb G S a w) (h7 : ∀ i ∈ rem, ∀ o, ops[i]? = some o → Pend P base o G S.box) (h8 : LeK base G0 w0 b0 G w S.box) : wpAny P .any ops Q fuel listed a w := by
 unfold regOk2 at hreg
 simp only [Bool.and_eq_true] at hreg
 obtain ⟨hu, hreg⟩ := hreg
 have key : ∀ (i : Nat) (o : Oper), ops[i]? = some o → (∀ j ∈ direct o, j < i) ∧ ∀ j x, ops[j]? = some x → j < i → ((ancs ops.toList []).getD i 0).testBit j = true ∨ x.apart ops o = true ∧ (clash x o = false ∨ isPtr x.op = true ∧ isPtr o.op = true) := by
  intro i o ho
  have his : i < ops.size := (Array.getElem?_eq_some_iff.1 ho).1
  have hall := List.all_eq_true.1 hreg i (by simpa using his)
  rw [ho] at hall
  simp only [Bool.and_eq_true] at hall
  refine ⟨fun j hj => by simpa using List.all_eq_true.1 hall.1 j hj, fun j x hx hj => ?_⟩
  have h2 := List.all_eq_true.1 hall.2 j (by simpa using hj)
  rw [hx] at h2
  simpa only [Bool.or_eq_true, Bool.and_eq_true, Bool.not_eq_true'] using h2
 have start : Ivs Sf S := by
  intro t
  by_cases hd : ∃ o ∈ ops.toList, o.dst = some t
  ·obtain ⟨o, ho, hd⟩ := hd
   exact .inr (hside o ho t hd)
  ·refine .inl (irun_keeps (fun j _ x hx hxd => hd ⟨x, by simpa using Array.mem_of_getElem? hx, hxd⟩) h5).symm
 refine any_sound' (fun i o ho => (key i o ho).1) (Iv := Ivs Sf) (fun i o S' S'' rest ho hni hst hrun hiv => ivs_step hu i o S' S'' rest ho hni hst hrun hiv) ?_ hal hdst hnb hQ fuel listed rem S a w G h1 h2 h3 h4 start h5 h6 h7 h8
 intro i j o x ho hx hj hb S' S1 S2 hiv g1 g2
 rcases (key i o ho).2 j x hx hj with h | ⟨h, h'⟩
 ·rw [hb] at h; cases h
 ·cases hc : clash x o with
  | false => exact gstep_swap h hc g1 g2
  | true =>
   rcases h' with h' | ⟨h1', h2'⟩
   ·rw [hc] at h'; cases h'
   ·obtain ⟨p, hp⟩ := Option.isSome_iff_exists.1 h1'
    obtain ⟨q, hq⟩ := Option.isSome_iff_exists.1 h2'
    have hnk := far_spec hfar hj (by simpa using hx) (by simpa using ho) hp hq hc
    refine gstep_swap' h (fun {c0 c1 c2 s0 s1 s2 m0 m1 m2 vx vy} e1 e2 => ?_) g1 g2
    have back : ∀ (z : Operand) k i off, S'.ev z = .ptr k i off → Sf.ev z = .ptr k i off := by
     intro z k i off hz
     cases z with
     | tmp t =>
      rcases hiv t with e | e
      ·exact e.symm.trans hz
      ·have hz' : S'.tmps t = .ptr k i off := hz
       rw [hz'] at e
       exact e.elim
     | const c => exact hz
     | global c => exact hz
     | func c => exact hz
    refine eff_far hp hq (fun k i1 off k' i2 off' hk hk' => ?_) e1 e2
    rw [back p _ _ _ hk, back q _ _ _ hk'] at hnk
    exact hnk
end Go.AM
namespace Go.AM
open Go
variable {P : Program}
structure Cx where
 base : Nat
 nb : Nat
 n : Nat
 B0 : Bxs
structure LeB (base : Nat) (G : Gh) (w : World) (G' : Gh) (w' : World) : Prop where
 os : w'.os = w.os
 tape : w'.tape = w.tape
 output : w'.output = w.output
 size : w.heap.size ≤ w'.heap.size
 whole : ∀ b, b < w.heap.size → G.kind b = .whole → G'.kind b = .whole ∧ w'.heap[b]? = w.heap[b]?
 part : ∀ b f c, G.kind b = .part f c → (∃ f', f ≤ f' ∧ G'.kind b = .part f' c) ∧ ∀ a : Addr, a.block = b → a.off < f → w'.cell? a = w.cell? a
 bx : ∀ k, k < base → G'.bx k = G.bx k
 nt : G.nt ≤ G'.nt
 tk : ∀ t, t < G.nt → G'.tk t = none ∨ (G'.tk t = G.tk t ∧ ∀ g, G.tk t = some (some g) → G'.kind g = G.kind g ∧ (G.kind g = .ex → w'.heap[g]? = w.heap[g]?))
 ty : ∀ (b : Nat) cs T f, w.heap[b]? = some (.cells cs T f) → ∃ cs' f', w'.heap[b]? = some (.cells cs' T f')
theorem LeK.leB {base : Nat} {G G' : Gh} {w w' : World} {b b' : Bxs} (h : LeK base G w b G' w' b') : LeB base G w G' w' :=
 ⟨h.1.os, h.1.tape, h.1.output, h.1.size, h.1.whole, h.1.part, fun k hk => by
  cases hg : G.bx k with
  | none => exact (h.2 k hk hg).1
  | some x => exact h.1.bx k x hg, h.1.nt, h.1.tk, h.1.ty⟩
theorem LeB.refl (base : Nat) (G : Gh) (w : World) : LeB base G w G w := (LeK.refl base G w fun _ => none).leB
theorem LeB.trans {base : Nat} {G1 G2 G3 : Gh} {w1 w2 w3 : World} (h : LeB base G1 w1 G2 w2) (k : LeB base G2 w2 G3 w3) : LeB base G1 w1 G3 w3 where
 os := k.os.trans h.os
 tape := k.tape.trans h.tape
 output := k.output.trans h.output
 size := Nat.le_trans h.size k.size
 whole b hb hk := by
  obtain ⟨h1, h2⟩ := h.whole b hb hk
  obtain ⟨k1, k2⟩ := k.whole b (Nat.lt_of_lt_of_le hb h.size) h1
  exact ⟨k1, k2.trans h2⟩
 part b f c hk := by
  obtain ⟨⟨f1, hf1, h1⟩, h2⟩ := h.part b f c hk
  obtain ⟨⟨f2, hf2, k1⟩, k2⟩ := k.part b f1 c h1
  exact ⟨⟨f2, Nat.le_trans hf1 hf2, k1⟩, fun a ha ho => (k2 a ha (Nat.lt_of_lt_of_le ho hf1)).trans (h2 a ha ho)⟩
 bx j hj := (k.bx j hj).trans (h.bx j hj)
 nt := Nat.le_trans h.nt k.nt
 tk t ht := by
  rcases k.tk t (Nat.lt_of_lt_of_le ht h.nt) with k1 | ⟨k1, k2⟩
  ·exact .inl k1
  ·rcases h.tk t ht with h1 | ⟨h1, h2⟩
   ·exact .inl (k1.trans h1)
   ·exact .inr ⟨k1.trans h1, fun g hg => by
     obtain ⟨a1, a2⟩ := h2 g hg
     obtain ⟨b1, b2⟩ := k2 g (h1.trans hg)
     exact ⟨b1.trans a1, fun he => (b2 (a1.trans he)).trans (a2 he)⟩⟩
 ty b cs T f hb := by
  obtain ⟨_, _, h1⟩ := h.ty b cs T f hb
  exact k.ty b _ T _ h1
inductive OkIn (p q : Nat → Prop) : AV → Prop
 | bot : OkIn p q .bot
 | d {x} : OkIn p q (.d x)
 | osl {sz es o} (h : ∀ t, o = .tok t → q t) : OkIn p q (.osl sz es o)
 | cptr {cs off} : OkIn p q (.cptr cs off)
 | ptr {k i off} (h : p k) : OkIn p q (.ptr k i off)
 | here {k T} (h : p k) : OkIn p q (.here k T)
 | buf {E t es} (h : q t) : OkIn p q (.buf E t es)
 | msl {k off n sz} (h : p k) : OkIn p q (.msl k off n sz)
 | fn {f caps} (h : ∀ c ∈ caps, OkIn p q c) : OkIn p q (.fn f caps)
 | agg {cs} (h : ∀ c ∈ cs, OkIn p q c) : OkIn p q (.agg cs)
 | tup {cs} (h : ∀ c ∈ cs, OkIn p q c) : OkIn p q (.tup cs)
 | ex {t sz es} (h : q t) : OkIn p q (.ex t sz es)
 | stk {t sz es} (h : q t) : OkIn p q (.stk t sz es)
inductive DSub : D → D → Prop
 | refl {x} : DSub x x
 | emp {sz sz'} : DSub (.sl sz []) (.sl sz' [])
 | sl {sz : Nat} {es es' : List (List D)} (hl : es.length = es'.length) (hs : ∀ i (h1 : i < es.length) (h2 : i < es'.length), es[i].length = es'[i].length)
   (h : ∀ i (h1 : i < es.length) (h2 : i < es'.length) j (g1 : j < es[i].length) (g2 : j < es'[i].length), DSub es[i][j] es'[i][j]) : DSub (.sl sz es) (.sl sz es')
theorem DSub.len {sz sz' : Nat} {es es' : List (List D)} (h : DSub (.sl sz es) (.sl sz' es')) : es'.length = es.length := by
 cases h with
 | refl => rfl
 | emp => rfl
 | sl hl => exact hl.symm
theorem RVd.dsub {c : Addr → Option Value} {ps : Addr → Prop} {x y : D} {v : Value} (h : DSub x y) (r : RVd c ps x v) : RVd c ps y v := by
 induction h generalizing v with
 | refl => exact r
 | emp =>
  cases r with
  | sl u hcap hmax hsz hA hc hr => exact .sl (es := []) u hcap hmax (by simp) (by simp) (fun a _ i j hi _ => by simp at hi) (fun i j hi _ => by simp at hi)
 | @sl sz es es' hl hs h ih =>
  generalize hn : es.length = n at r
  cases r with
  | sl u hcap hmax hsz hA hc hr =>
   have hsz' : ∀ e ∈ es', e.length = sz := by
    intro e he
    obtain ⟨i, hi, rfl⟩ := List.getElem_of_mem he
    have h1 : i < es.length := by omega
    rw [← hs i h1 hi]
    exact hsz _ (List.getElem_mem h1)
   rw [hl]
   refine .sl u (by omega) hmax hsz' (fun hne => hA fun e => hne ?_) (fun a ha i j hi hj => hc a ha i j (by omega) hj) (fun i j hi hj => ?_)
   ·subst e; simp at hl; exact List.eq_nil_of_length_eq_zero (by simpa using hl.symm)
   ·have h1 : i < es.length := by omega
    have g1 : j < es[i].length := by rw [hs i h1 hi]; exact hj
    exact ih i h1 hi j g1 hj (hr i j h1 g1)
def DS1 (r r' : List D) : Prop := r.length = r'.length ∧ ∀ j (g1 : j < r.length) (g2 : j < r'.length), DSub r[j] r'[j]
def DSs (es es' : List (List D)) : Prop := es.length = es'.length ∧ ∀ i (h1 : i < es.length) (h2 : i < es'.length), DS1 es[i] es'[i]
theorem DSs.sub {es es' : List (List D)} (h : DSs es es') (sz : Nat) : DSub (.sl sz es) (.sl sz es') :=
 .sl h.1 (fun i h1 h2 => (h.2 i h1 h2).1) fun i h1 h2 j g1 g2 => (h.2 i h1 h2).2 j g1 g2
@[simp] theorem dsub_refl (x : D) : DSub x x := .refl
@[simp] theorem dsub_emp (s s' : Nat) : DSub (.sl s []) (.sl s' []) := .emp
@[simp] theorem ds1_nil : DS1 [] [] := ⟨rfl, fun j h => by simp at h⟩
@[simp] theorem ds1_refl (r : List D) : DS1 r r := ⟨rfl, fun j _ _ => .refl⟩
@[simp] theorem ds1_cons {x y : D} {xs ys : List D} : DS1 (x :: xs) (y :: ys) ↔ DSub x y ∧ DS1 xs ys := by
 constructor
 ·rintro ⟨h1, h2⟩
  exact ⟨h2 0 (by simp) (by simp), by simpa using h1, fun j g1 g2 => h2 (j + 1) (by simpa using g1) (by simpa using g2)⟩
 ·rintro ⟨h1, h2, h3⟩
  refine ⟨by simp [h2], fun j g1 g2 => ?_⟩
  match j with
  | 0 => exact h1
  | j + 1 => exact h3 j (by simpa using g1) (by simpa using g2)
theorem DSs.snoc {es : List (List D)} {r r' : List D} (h : DS1 r r') : DSs (es ++ [r]) (es ++ [r']) := by
 refine ⟨by simp, fun i h1 h2 => ?_⟩
 by_cases e : i < es.length
 ·rw [List.getElem_append_left e, List.getElem_append_left e]; simp
 ·have : i = es.length := by simp at h1; omega
  subst this
  simpa using h
theorem DSs.one {r r' : List D} (h : DS1 r r') : DSs [r] [r'] := DSs.snoc (es := []) h
inductive To (p q : Nat → Prop) (fz : Option (Nat × Nat × List (List D))) : AV → AV → Prop
 | bot {x} : To p q fz x .bot
 | same {x} (h : OkIn p q x) : To p q fz x x
 | data {sz es o} : To p q fz (.osl sz es o) (.d (.sl sz es))
 | nil {sz sz' es} (hz : sz' = 0 → sz = 0) : es = [] → To p q fz (.osl sz es .full) (.osl sz' [] .full)
 | dsub {x y} (h : DSub x y) : To p q fz (.d x) (.d y)
 | odsub {sz es o y} (h : DSub (.sl sz es) y) : To p q fz (.osl sz es o) (.d y)
 | osub {sz es sz' es'} (hz : sz' = 0 → sz = 0) (h : DSub (.sl sz es) (.sl sz' es')) : To p q fz (.osl sz es .full) (.osl sz' es' .full)
 | otok {sz es es' o} (h : DSub (.sl sz es) (.sl sz es')) (ho : ∀ t, o = .tok t → q t) : To p q fz (.osl sz es o) (.osl sz es' o)
 | frz {k sz es} (h : fz = some (k, sz, es)) : To p q fz (.msl k 0 es.length sz) (.d (.sl sz es))
 | agg {cs ds : List AV} (hl : cs.length = ds.length) (h : ∀ i (h1 : i < cs.length) (h2 : i < ds.length), To p q fz cs[i] ds[i]) : To p q fz (.agg cs) (.agg ds)
 | tup {cs ds : List AV} (hl : cs.length = ds.length) (h : ∀ i (h1 : i < cs.length) (h2 : i < ds.length), To p q fz cs[i] ds[i]) : To p q fz (.tup cs) (.tup ds)
def Gh.weak (G : Gh) (p : Nat → Prop) [DecidablePred p] (b : Option Nat) (nt' : Nat) : Gh :=
 { bx := fun k => if p k then G.bx k else none, kind := fun j => if b = some j then .whole else G.kind j, tk := fun t => if t < nt' then G.tk t else none, nt := nt' }
theorem weak_ps {G : Gh} {w : World} {nt' : Nat} {p : Nat → Prop} [DecidablePred p] {b : Option Nat} (hb : ∀ j, b = some j → G.kind j = .box) (a : Addr) (u : Value) (h : G.ps a) (hc : w.cell? a = some u) : (G.weak p b nt').ps a ∧ w.cell? a = some u := by
 refine ⟨?_, hc⟩
 unfold Gh.ps at h ⊢
 simp only [Gh.weak]
 by_cases e : b = some a.block
 ·simp [e]
 ·simp only [e, ↓reduceIte]
  exact h
theorem own_weak {G : Gh} {nt' : Nat} {p : Nat → Prop} [DecidablePred p] {b : Option Nat} (hb : ∀ j, b = some j → G.kind j = .box) {sz n : Nat} {o : Own} {v : Value} (h : OwnR G sz n o v) (hq : ∀ t, o = .tok t → t < G.nt → t < nt') : OwnR (G.weak p b nt') sz n o v := by
 cases o with
 | full => exact h
 | tok t =>
  obtain ⟨h1, h2⟩ := h
  have hlt := hq t rfl h1
  refine ⟨hlt, fun x hx => ?_⟩
  simp only [Gh.weak, hlt, ↓reduceIte] at hx
  have := h2 x hx
  cases x with
  | none => exact this
  | some g =>
   obtain ⟨cap, hv, hk⟩ := this
   refine ⟨cap, hv, ?_⟩
   simp only [Gh.weak]
   by_cases e : b = some g
   ·have := hb g e
    rw [hk] at this; cases this
   ·simp only [e, ↓reduceIte]
    exact hk
theorem RV.weak {G : Gh} {w : World} {nt' : Nat} {p q : Nat → Prop} [DecidablePred p] {b : Option Nat} (hb : ∀ j, b = some j → G.kind j = .box) {x : AV} {v : Value} (h : RV G w x v) (ho : OkIn p q x) (hq : ∀ t, q t → t < G.nt → t < nt') : RV (G.weak p b nt') w x v := by
 induction h with
 | bot => exact .bot
 | d h1 => exact .d (h1.mono (weak_ps hb))
 | osl h1 h2 =>
  cases ho with
  | osl ho => exact .osl (h1.mono (weak_ps hb)) (own_weak hb h2 fun t ht => hq t (ho t ht))
 | ptr h1 =>
  cases ho with
  | ptr hp => exact .ptr (by simp only [Gh.weak, hp, ↓reduceIte]; exact h1)
 | buf h1 h2 h3 h4 =>
  cases ho with
  | buf ho => exact .buf (h1.mono (weak_ps hb)) (own_weak hb h2 fun t ht => hq t (by cases ht; exact ho)) (by simp only [Gh.weak]; split; exact h3; exact fun e => by cases e) (by simp only [Gh.weak]; split; exact h4; exact fun g e => by cases e)
 | here h1 h2 =>
  cases ho with
  | here hp => exact .here (by simp only [Gh.weak, hp, ↓reduceIte]; exact h1) h2
 | cptr a u hc hr => exact .cptr a u (fun j hj => weak_ps hb _ _ (hc j hj).1 (hc j hj).2) (fun j hj => (hr j hj).mono (weak_ps hb))
 | msl h1 h2 h3 =>
  cases ho with
  | msl hp => exact .msl (by simp only [Gh.weak, hp, ↓reduceIte]; exact h1) h2 h3
 | fn hl _ ih =>
  cases ho with
  | fn hp => exact .fn hl fun i h1 h2 => ih i h1 h2 (hp _ (List.getElem_mem h1))
 | agg hl _ hone ih =>
  cases ho with
  | agg hp => exact .agg hl (fun i h1 h2 => ih i h1 h2 (hp _ (List.getElem_mem h1))) hone
 | tup hl _ ih =>
  cases ho with
  | tup hp => exact .tup hl fun i h1 h2 => ih i h1 h2 (hp _ (List.getElem_mem h1))
 | ex h1 =>
  cases ho with
  | ex ho =>
   obtain ⟨r1, r0, r2⟩ := h1
   have hlt := hq _ ho r1
   refine .ex ⟨hlt, r0, fun x hx => ?_⟩
   simp only [Gh.weak, hlt, ↓reduceIte] at hx
   obtain ⟨g, cap, cs, e, rfl, h2, h3, h4, h5, h6, h7, h8, h9, h10⟩ := r2 x hx
   refine ⟨g, cap, cs, e, rfl, h2, h3, h4, ?_, h6, h7, h8, fun i g1 g2 => (h9 i g1 g2).mono (weak_ps hb), h10⟩
   simp only [Gh.weak]
   rw [if_neg]
   ·exact h5
   ·intro e1
    have := hb g e1
    rw [h5] at this; cases this
 | stk h1 =>
  cases ho with
  | stk ho =>
   obtain ⟨r1, A, cap, hv, hc1, hm, r2⟩ := h1
   have hlt := hq _ ho r1
   refine .stk ⟨hlt, A, cap, hv, hc1, hm, fun x hx => ?_⟩
   simp only [Gh.weak, hlt, ↓reduceIte] at hx
   have h0 := r2 x hx
   cases x with
   | none => exact h0
   | some g =>
    obtain ⟨hA, vs, sp, e, h5, h6, h7, h8, h9⟩ := h0
    refine ⟨hA, vs, sp, e, ?_, h6, h7, h8.mono (weak_ps hb), h9⟩
    simp only [Gh.weak]
    rw [if_neg]
    ·exact h5
    ·intro e1
     have := hb g e1
     rw [h5] at this; cases this
def FzOk (S : Bxs) (fz : Option (Nat × Nat × List (List D))) : Prop := ∀ k sz es, fz = some (k, sz, es) → ∃ rows, S k = some rows ∧ rows.length = es.length ∧ (∀ r ∈ rows, r.length = sz) ∧
 ∀ i (h1 : i < rows.length) (h2 : i < es.length), toDs rows[i] = some es[i]
theorem RV.to {G : Gh} {m : AMem} {w : World} {nt' : Nat} {p q : Nat → Prop} [DecidablePred p] {fz : Option (Nat × Nat × List (List D))} {b : Option Nat} (hm : RelM G m w) (hb : ∀ j, b = some j → G.kind j = .box)
  (hfz : FzOk m.box fz) (hfb : ∀ k sz es, fz = some (k, sz, es) → ∀ j s, G.bx k = some (j, s) → b = some j) {x y : AV} {v : Value} (h : RV G w x v) (ht : To p q fz x y) (hq : ∀ t, q t → t < G.nt → t < nt') : RV (G.weak p b nt') w y v := by
 induction ht generalizing v with
 | bot => exact .bot
 | same ho => exact h.weak hb ho hq
 | data =>
  cases h with
  | osl h1 h2 => exact .d (h1.mono (weak_ps hb))
 | nil hz he =>
  subst he
  cases h with
  | osl h1 h2 =>
   obtain ⟨A, rfl, hA⟩ := h2
   exact .osl (.sl (es := []) (fun _ _ => default) (Nat.le_refl _) (by decide) (by simp) (by simp) (by simp) (by simp)) ⟨A, rfl, fun e => hA (hz e)⟩
 | dsub hd =>
  cases h with
  | d h1 => exact .d ((h1.mono (weak_ps hb)).dsub hd)
 | odsub hd =>
  cases h with
  | osl h1 h2 => exact .d ((h1.mono (weak_ps hb)).dsub hd)
 | osub hz hd =>
  cases h with
  | osl h1 h2 =>
   obtain ⟨A, rfl, hA⟩ := h2
   have h3 := (h1.mono (weak_ps (nt' := nt') (p := p) hb)).dsub hd
   exact .osl h3 ⟨A, by rw [hd.len], fun e => hA (hz e)⟩
 | otok hd ho =>
  cases h with
  | osl h1 h2 => exact .osl ((h1.mono (weak_ps hb)).dsub hd) (by rw [hd.len]; exact own_weak hb h2 fun t ht => hq t (ho t ht))
 | @frz k sz es hf =>
  obtain ⟨rows, hk, hl, hrs, hds⟩ := hfz k sz es hf
  generalize hn : es.length = n0 at h
  cases h with
  | msl h1 h2 h3 =>
   rename_i bb cap
   subst hn
   obtain ⟨hkb, cells, e, hh, hs, hR, hone⟩ := hm.box k rows bb sz hk h1
   have hbb := hfb k sz es hf bb sz h1
   have hsl : ∀ e ∈ es, e.length = sz := by
    intro l hlm
    obtain ⟨i, hi, rfl⟩ := List.getElem_of_mem hlm
    have hr := hds i (by omega) hi
    have hR' : RVs G w rows[i] (cells.toList.drop (i * sz) |>.take sz) := by
     have := (hR.drop (i * sz)).take sz
     have e1 : (rows.flatten.drop (i * sz)).take sz = rows[i] := by
      have hri : rows[i]? = some rows[i] := List.getElem?_eq_getElem (by omega)
      have hlen : rows[i].length = sz := hrs _ (List.getElem_mem _)
      apply List.ext_getElem?
      intro j
      by_cases hj : j < sz
      ·rw [List.getElem?_take_of_lt hj, List.getElem?_drop, flat_get hrs hri hj]
      ·rw [List.getElem?_eq_none (by simp; omega), List.getElem?_eq_none (by omega)]
     rw [e1] at this
     exact this
    have := (toDs_spec hR' hr).1
    rw [this, ← hR'.1]
    exact hrs _ (List.getElem_mem _)
   have hflat : Flat w.cell? (G.weak p b nt').ps sz es (some ⟨bb, 0 * sz, none⟩) cells.toList := by
    constructor
    ·rw [← hR.1, flat_len hrs, hl]
    ·intro a ha q u hq
     cases ha
     rw [add_none]
     refine ⟨?_, ?_⟩
     ·simp [Gh.ps, Gh.weak, hbb]
     ·rw [cell_of_row w bb _ cells e (0, 0) hh]
      simpa using hq
    ·exact hone
    ·exact fun _ => ⟨_, rfl⟩
    ·exact hsl
    ·intro i j hi hj
     have hri : rows[i]? = some rows[i] := List.getElem?_eq_getElem (by omega)
     have hjs : j < sz := by rw [← hsl _ (List.getElem_mem hi)]; exact hj
     have hx : rows.flatten[i * sz + j]? = rows[i][j]? := flat_get hrs hri hjs
     have hjr : j < rows[i].length := by rw [hrs _ (List.getElem_mem _)]; exact hjs
     rw [List.getElem?_eq_getElem hjr] at hx
     obtain ⟨u, hu, hru⟩ := hR.get hx
     refine ⟨u, hu, ?_⟩
     have hd := hds i (by omega) hi
     have hR2 : RVs G w rows[i] (rows[i].mapIdx fun q _ => cells.toList.getD (i * sz + q) default) := by
      refine ⟨by simp, fun q g1 g2 => ?_⟩
      have hq : rows.flatten[i * sz + q]? = some rows[i][q] := by
       rw [flat_get hrs hri (by rw [← hrs _ (List.getElem_mem _)]; exact g1)]
       exact List.getElem?_eq_getElem g1
      obtain ⟨u', hu', hr'⟩ := hR.get hq
      simp only [List.getElem_mapIdx, List.getD_eq_getElem?_getD, hu', Option.getD_some]
      exact hr'
     have := (toDs_spec hR2 hd).2 j hj (by simp; exact hjr)
     simp only [List.getElem_mapIdx, List.getD_eq_getElem?_getD, hu, Option.getD_some] at this
     exact this.mono (weak_ps hb)
   exact .d (RVd.of_flat h2 h3 hflat)
 | agg hl _ ih =>
  cases h with
  | agg hl' hh hone => exact .agg (hl.symm.trans hl') (fun i h1 h2 => ih i (by omega) h1 (hh i (by omega) h2)) hone
 | tup hl _ ih =>
  cases h with
  | tup hl' hh => exact .tup (hl.symm.trans hl') (fun i h1 h2 => ih i (by omega) h1 (hh i (by omega) h2))
end Go.AM
namespace Go.AM
open Go
variable {P : Program}
def tl : List (Nat × AV) → Nat → AV
 | [], _ => .bot
 | (i, v) :: r, t => if t = i then v else tl r t
def lk {α : Type} : List (Nat × α) → Nat → Option α
 | [], _ => none
 | (i, v) :: r, t => if t = i then some v else lk r t
def lb (base : Nat) (out : Bxs) (loc : List (Nat × List (List AV))) : Bxs := fun k => if k < base then out k else lk loc (k - base)
theorem putT_tl (l : List (Nat × AV)) (d : Nat) (v : AV) : putT (tl l) (some d) v = tl ((d, v) :: l) := by
 funext t
 simp only [putT, upd, tl]
theorem putT_none (f : Nat → AV) (v : AV) : putT f none v = f := rfl
theorem tl_nil (t : Nat) : tl [] t = .bot := rfl
theorem tl_cons (i : Nat) (v : AV) (r : List (Nat × AV)) (t : Nat) : tl ((i, v) :: r) t = if t = i then v else tl r t := rfl
theorem lk_nil {α : Type} (t : Nat) : lk ([] : List (Nat × α)) t = none := rfl
theorem lk_cons {α : Type} (i : Nat) (v : α) (r : List (Nat × α)) (t : Nat) : lk ((i, v) :: r) t = if t = i then some v else lk r t := rfl
theorem lb_at (base s : Nat) (out : Bxs) (loc : List (Nat × List (List AV))) : lb base out loc (base + s) = lk loc s := by
 have h : ¬ (base + s < base) := by omega
 simp [lb, h]
theorem lb_out {base k : Nat} (h : k < base) (out : Bxs) (loc : List (Nat × List (List AV))) : lb base out loc k = out k := by
 simp [lb, h]
theorem upd_lb (base s : Nat) (out : Bxs) (loc : List (Nat × List (List AV))) (rows : List (List AV)) : upd (lb base out loc) (base + s) (some rows) = lb base out ((s, rows) :: loc) := by
 funext k
 simp only [upd, lb, lk]
 by_cases h : k = base + s
 ·subst h
  have h : ¬ (base + s < base) := by omega
  simp [h]
 ·by_cases hk : k < base
  ·simp [h, hk]
  ·have : k - base ≠ s := by omega
   simp [h, hk, this]
theorem upd_lb_out {base k : Nat} (h : k < base) (out : Bxs) (loc : List (Nat × List (List AV))) (v : Option (List (List AV))) : upd (lb base out loc) k v = lb base (upd out k v) loc := by
 funext j
 simp only [upd, lb]
 by_cases hj : j = k
 ·subst hj; simp [h]
 ·simp [hj]
def Entry (cx : Cx) (nt0 : Nat) (G0 : Gh) : Prop := ∀ k rows, k < cx.base → cx.B0 k = some rows → G0.bx k ≠ none → ∀ r ∈ rows, ∀ x ∈ r, OkIn (· < cx.base) (· < nt0) x
theorem RV.ok {G : Gh} {w : World} {x : AV} {v : Value} {p q : Nat → Prop} (h : RV G w x v) (hp : ∀ k y, G.bx k = some y → p k) (hq : ∀ t, t < G.nt → q t) : OkIn p q x := by
 induction h with
 | bot => exact .bot
 | d _ => exact .d
 | osl _ h2 => exact .osl fun t ht => by subst ht; exact hq t h2.1
 | ptr h => exact .ptr (hp _ _ h)
 | here h _ => exact .here (hp _ _ h)
 | buf _ h _ _ => exact .buf (hq _ h.1)
 | cptr a u hc hr => exact .cptr
 | msl h _ _ => exact .msl (hp _ _ h)
 | fn hl _ ih => exact .fn fun c hc => by obtain ⟨i, hi, rfl⟩ := List.getElem_of_mem hc; exact ih i hi (by omega)
 | agg hl _ _ ih => exact .agg fun c hc => by obtain ⟨i, hi, rfl⟩ := List.getElem_of_mem hc; exact ih i hi (by omega)
 | tup hl _ ih => exact .tup fun c hc => by obtain ⟨i, hi, rfl⟩ := List.getElem_of_mem hc; exact ih i hi (by omega)
 | ex h => exact .ex (hq _ h.1)
 | stk h => exact .stk (hq _ h.1)
theorem OkIn.imp {p q p' q' : Nat → Prop} {x : AV} (h : OkIn p q x) (hp : ∀ k, p k → p' k) (hq : ∀ t, q t → q' t) : OkIn p' q' x := by
 induction h with
 | bot => exact .bot
 | d => exact .d
 | osl h => exact .osl fun t ht => hq t (h t ht)
 | cptr => exact .cptr
 | ptr h => exact .ptr (hp _ h)
 | here h => exact .here (hp _ h)
 | buf h => exact .buf (hq _ h)
 | msl h => exact .msl (hp _ h)
 | fn _ ih => exact .fn ih
 | agg _ ih => exact .agg ih
 | tup _ ih => exact .tup ih
 | ex h => exact .ex (hq _ h)
 | stk h => exact .stk (hq _ h)
theorem OkIn.and {p q p' q' : Nat → Prop} {x : AV} (h : OkIn p q x) (k : OkIn p' q' x) : OkIn (fun j => p j ∧ p' j) (fun t => q t ∧ q' t) x := by
 induction h with
 | bot => exact .bot
 | d => exact .d
 | osl h => cases k with | osl k => exact .osl fun t ht => ⟨h t ht, k t ht⟩
 | cptr => exact .cptr
 | ptr h => cases k with | ptr k => exact .ptr ⟨h, k⟩
 | here h => cases k with | here k => exact .here ⟨h, k⟩
 | buf h => cases k with | buf k => exact .buf ⟨h, k⟩
 | msl h => cases k with | msl k => exact .msl ⟨h, k⟩
 | fn _ ih => cases k with | fn k => exact .fn fun c hc => ih c hc (k c hc)
 | agg _ ih => cases k with | agg k => exact .agg fun c hc => ih c hc (k c hc)
 | tup _ ih => cases k with | tup k => exact .tup fun c hc => ih c hc (k c hc)
 | ex h => cases k with | ex k => exact .ex ⟨h, k⟩
 | stk h => cases k with | stk k => exact .stk ⟨h, k⟩
def RowsTo (p q : Nat → Prop) (fz : Option (Nat × Nat × List (List D))) (rows rows' : List (List AV)) : Prop :=
 rows.length = rows'.length ∧ ∀ i (h1 : i < rows.length) (h2 : i < rows'.length), rows[i].length = rows'[i].length ∧ ∀ j (g1 : j < rows[i].length) (g2 : j < rows'[i].length), To p q fz rows[i][j] rows'[i][j]
structure Weak (cx : Cx) (nt0 : Nat) (out : Bxs) (loc loc' : List (Nat × List (List AV))) (fz : Option (Nat × Nat × List (List D))) (S S' : AState) : Prop where
 hb : S.box = lb cx.base out loc
 hb' : S'.box = lb cx.base out loc'
 nt : S'.nt ≤ S.nt
 nt0 : nt0 ≤ S'.nt
 tok : ∀ t, S'.tok t = true → S.tok t = true ∧ (S'.nt = S.nt ∨ t < S'.nt)
 tmps : ∀ t, To (fun k => lb cx.base out loc' k ≠ none) (fun t => S'.nt = S.nt ∨ t < S'.nt) (fz.map fun x => (cx.base + x.1, x.2)) (S.tmps t) (S'.tmps t)
 boxes : ∀ s rows', lk loc' s = some rows' → ∃ rows, lk loc s = some rows ∧ RowsTo (fun k => lb cx.base out loc' k ≠ none) (fun t => S'.nt = S.nt ∨ t < S'.nt) (fz.map fun x => (cx.base + x.1, x.2)) rows rows'
 fz : ∀ s sz es, fz = some (s, sz, es) → lk loc' s = none ∧ ∃ rows, lk loc s = some rows ∧ rows.length = es.length ∧ (∀ r ∈ rows, r.length = sz) ∧ ∀ i (h1 : i < rows.length) (h2 : i < es.length), toDs rows[i] = some es[i]
 out : ∀ k rows, k < cx.base → out k = some rows → cx.B0 k = some rows ∨ ∀ r ∈ rows, ∀ x ∈ r, OkIn (fun k => lb cx.base out loc' k ≠ none) (fun t => S'.nt = S.nt ∨ t < S'.nt) x
theorem flat_two {α : Type} {sz : Nat} : ∀ {rows rows' : List (List α)}, (∀ r ∈ rows, r.length = sz) → rows.length = rows'.length → (∀ i (h1 : i < rows.length) (h2 : i < rows'.length), rows[i].length = rows'[i].length) → ∀ r ∈ rows', r.length = sz := by
 intro rows rows' hs hl h r hr
 obtain ⟨i, hi, rfl⟩ := List.getElem_of_mem hr
 rw [← h i (by omega) hi]
 exact hs _ (List.getElem_mem _)
theorem Weak.sound {cx : Cx} {nt0 : Nat} {out : Bxs} {loc loc' : List (Nat × List (List AV))} {fz : Option (Nat × Nat × List (List D))} {S S' : AState} (h : Weak cx nt0 out loc loc' fz S S') {G0 G : Gh} {w0 w : World} {a : Act}
  (he : Entry cx nt0 G0) (hle : LeB cx.base G0 w0 G w) (hr : RelS cx.n cx.nb G S a w) (hnt0 : G0.nt ≤ nt0) : ∃ G', RelS cx.n cx.nb G' S' a w ∧ LeB cx.base G0 w0 G' w ∧
   ∀ {x y : AV} {v : Value}, RV G w x v → To (fun k => lb cx.base out loc' k ≠ none) (fun t => S'.nt = S.nt ∨ t < S'.nt) (fz.map fun x => (cx.base + x.1, x.2)) x y → RV G' w y v := by
 have hm := hr.mem
 let p : Nat → Prop := fun k => lb cx.base out loc' k ≠ none
 letI : DecidablePred p := fun _ => Classical.propDecidable _
 let q : Nat → Prop := fun t => S'.nt = S.nt ∨ t < S'.nt
 have hGnt : G.nt = S.nt := hm.nt
 have hq : ∀ t, q t → t < G.nt → t < S'.nt := by
  intro t ht hlt
  rcases ht with h1 | h1
  ·omega
  ·exact h1
 -- the frozen block
 let b : Option Nat := fz.bind fun x => (G.bx (cx.base + x.1)).map (·.1)
 have hb : ∀ j, b = some j → G.kind j = .box := by
  intro j hj
  obtain ⟨x, _, hj⟩ := Option.bind_eq_some_iff.1 hj
  obtain ⟨⟨j', s'⟩, h1, rfl⟩ := Option.map_eq_some_iff.1 hj
  exact (hm.blt h1).2
 have hfz : FzOk S.box (fz.map fun x => (cx.base + x.1, x.2)) := by
  intro k sz es hk
  obtain ⟨⟨s, sz', es'⟩, hf, hx⟩ := Option.map_eq_some_iff.1 hk
  simp only [Prod.mk.injEq] at hx
  obtain ⟨rfl, rfl, rfl⟩ := hx
  obtain ⟨_, rows, h1, h2⟩ := h.fz s sz' es' hf
  exact ⟨rows, by rw [h.hb, lb_at]; exact h1, h2⟩
 have hfb : ∀ k sz es, (fz.map fun x => (cx.base + x.1, x.2)) = some (k, sz, es) → ∀ j s, G.bx k = some (j, s) → b = some j := by
  intro k sz es hk j s hj
  obtain ⟨⟨s0, sz', es'⟩, hf, hx⟩ := Option.map_eq_some_iff.1 hk
  simp only [Prod.mk.injEq] at hx
  obtain ⟨rfl, rfl, rfl⟩ := hx
  simp only [b, hf, hj, Option.map_some, Option.bind_some]
 have hto : ∀ {x y : AV} {v : Value}, RV G w x v → To p q (fz.map fun x => (cx.base + x.1, x.2)) x y → RV (G.weak p b S'.nt) w y v :=
  fun hx ht => RV.to (m := ⟨S.box, cx.nb, S.tok, S.nt⟩) hm hb hfz hfb hx ht hq
 -- a box that stays is not the frozen one
 have hne : ∀ k j s, p k → G.bx k = some (j, s) → b ≠ some j := by
  intro k j s hp hk e
  obtain ⟨⟨s0, sz, es⟩, hf, e⟩ := Option.bind_eq_some_iff.1 e
  obtain ⟨⟨j', s'⟩, h1, h2⟩ := Option.map_eq_some_iff.1 e
  simp only at h2
  subst h2
  have hkk := hm.inj k (cx.base + s0) j' s s' hk h1
  subst hkk
  have := (h.fz s0 sz es hf).1
  exact hp (by rw [lb_at]; exact this)
 have hpS : ∀ k, p k → ∃ rows', S'.box k = some rows' := by
  intro k hp
  cases hk : S'.box k with
  | none => exact absurd (by rw [← h.hb']; exact hk) hp
  | some r => exact ⟨r, rfl⟩
 have hps : ∀ a u, G.ps a → w.cell? a = some u → (G.weak p b S'.nt).ps a ∧ w.cell? a = some u := fun a u h1 h2 => weak_ps hb a u h1 h2
 refine ⟨G.weak p b S'.nt, ⟨hr.defers, hr.size, fun t => hto (hr.tmps t) (h.tmps t), ?_⟩, ?_, hto⟩
 ·constructor
  case box =>
   intro k rows' j sz hk hj
   simp only [Gh.weak] at hj
   split at hj
   ·rename_i hp
    by_cases hkb : k < cx.base
    ·have hk' : out k = some rows' := by
      simp only at hk
      rw [h.hb', lb_out hkb] at hk
      exact hk
     have hkS : S.box k = some rows' := by rw [h.hb, lb_out hkb]; exact hk'
     obtain ⟨h1, cs, e, h2, h3, h4, h5⟩ := hm.box k rows' j sz hkS hj
     refine ⟨?_, cs, e, h2, h3, ?_, h5⟩
     ·simp only [Gh.weak, hne k j sz hp hj, ↓reduceIte]; exact h1
     ·refine ⟨h4.1, fun i g1 g2 => ?_⟩
      have hrv := h4.2 i g1 g2
      refine hto hrv (.same ?_)
      have hmem : rows'.flatten[i] ∈ rows'.flatten := List.getElem_mem _
      obtain ⟨r, hrm, hxm⟩ := List.mem_flatten.1 hmem
      rcases h.out k rows' hkb hk' with h6 | h6
      ·have hG0 : G0.bx k ≠ none := by rw [← hle.bx k hkb, hj]; simp
       have hk0 := he k rows' hkb h6 hG0 r hrm _ hxm
       have hk1 : OkIn (fun k => ∃ y, G.bx k = some y) (fun t => t < G.nt) rows'.flatten[i] := hrv.ok (fun k y hy => ⟨y, hy⟩) (fun t ht => ht)
       refine (hk0.and hk1).imp (fun k' hk' => ?_) (fun t ht => ?_)
       ·obtain ⟨hlt, y, hy⟩ := hk'
        intro hnone
        rw [lb_out hlt] at hnone
        have : S.box k' = none := by rw [h.hb, lb_out hlt]; exact hnone
        rw [hm.nobox k' this] at hy
        cases hy
       ·exact .inr (Nat.lt_of_lt_of_le ht.1 h.nt0)
      ·exact h6 r hrm _ hxm
    ·have hkk : k = cx.base + (k - cx.base) := by omega
     simp only at hk
     rw [h.hb', hkk, lb_at] at hk
     obtain ⟨rows, h1, h2, h3⟩ := h.boxes _ rows' hk
     have hkS : S.box k = some rows := by rw [h.hb, hkk, lb_at]; exact h1
     obtain ⟨g1, cs, e, g2, g3, g4, g5⟩ := hm.box k rows j sz hkS hj
     have hs' := flat_two g3 h2 (fun i a b => (h3 i a b).1)
     refine ⟨?_, cs, e, g2, hs', ?_, g5⟩
     ·simp only [Gh.weak, hne k j sz hp hj, ↓reduceIte]; exact g1
     ·have hlen : rows'.flatten.length = rows.flatten.length := by rw [flat_len hs', flat_len g3, h2]
      refine ⟨hlen.trans g4.1, fun i a1 a2 => ?_⟩
      have hszp : 0 < sz := by
       rcases Nat.eq_zero_or_pos sz with e0 | e0
       ·subst e0
        rw [flat_len hs'] at a1
        simp at a1
       ·exact e0
      have hi : i < rows'.length * sz := by rw [← flat_len hs']; exact a1
      have hd : i / sz < rows'.length := (Nat.div_lt_iff_lt_mul hszp).2 hi
      have hmod : i % sz < sz := Nat.mod_lt _ hszp
      have hidx : i / sz * sz + i % sz = i := by rw [Nat.mul_comm]; exact Nat.div_add_mod i sz
      have e1 : rows'.flatten[i]? = rows'[i / sz][i % sz]? := by
       have := flat_get hs' (List.getElem?_eq_getElem hd) hmod
       rw [hidx] at this
       exact this
      have e2 : rows.flatten[i]? = (rows[i / sz]'(by omega))[i % sz]? := by
       have := flat_get g3 (List.getElem?_eq_getElem (by omega : i / sz < rows.length)) hmod
       rw [hidx] at this
       exact this
      have hj1 : i % sz < rows'[i / sz].length := by rw [hs' _ (List.getElem_mem _)]; exact hmod
      have hj2 : i % sz < (rows[i / sz]'(by omega)).length := by rw [g3 _ (List.getElem_mem _)]; exact hmod
      rw [List.getElem?_eq_getElem a1, List.getElem?_eq_getElem hj1] at e1
      rw [List.getElem?_eq_getElem (by omega), List.getElem?_eq_getElem hj2] at e2
      have hx := g4.2 i (by omega) a2
      rw [Option.some.inj e2] at hx
      rw [Option.some.inj e1]
      exact hto hx ((h3 (i / sz) (by omega) hd).2 (i % sz) hj2 hj1)
   ·cases hj
  case nobox =>
   intro k hk
   simp only [Gh.weak]
   rw [if_neg]
   intro hp
   exact hp (by rw [← h.hb']; exact hk)
  case inj =>
   intro k k' j s s' hk hk'
   simp only [Gh.weak] at hk hk'
   split at hk
   ·split at hk'
    ·exact hm.inj k k' j s s' hk hk'
    ·cases hk'
   ·cases hk
  case nb =>
   intro k hk
   cases hkS : S'.box k with
   | none => exact hkS
   | some rows' =>
    exfalso
    have hS := hm.nb k hk
    simp only at hS
    rw [h.hb] at hS
    rw [h.hb'] at hkS
    by_cases hkb : k < cx.base
    ·rw [lb_out hkb] at hS hkS
     rw [hS] at hkS; cases hkS
    ·have hkk : k = cx.base + (k - cx.base) := by omega
     rw [hkk, lb_at] at hS hkS
     obtain ⟨rows, h1, _⟩ := h.boxes _ rows' hkS
     rw [hS] at h1; cases h1
  case nt => rfl
  case toks =>
   intro t ht
   obtain ⟨h1, h2⟩ := h.tok t ht
   obtain ⟨h3, x, h4⟩ := hm.toks t h1
   have hlt : t < S'.nt := by
    rcases h2 with h2 | h2
    ·simp only at h3; omega
    ·exact h2
   exact ⟨hlt, x, by simp only [Gh.weak, hlt, ↓reduceIte]; exact h4⟩
  case tokb =>
   intro t g ht
   simp only [Gh.weak] at ht
   split at ht
   ·obtain ⟨f, cur, e, h1, h2⟩ := hm.tokb t g ht
    refine ⟨f, cur, e, ?_, h2⟩
    simp only [Gh.weak]
    rw [if_neg]
    ·exact h1
    ·intro e1
     have := hb g e1
     rw [this] at h1; rcases h1 with h1 | h1 <;> cases h1
   ·cases ht
  case tinj =>
   intro t t' g ht ht'
   simp only [Gh.weak] at ht ht'
   split at ht
   ·split at ht'
    ·exact hm.tinj t t' g ht ht'
    ·cases ht'
   ·cases ht
  case tnt =>
   intro t x ht
   simp only [Gh.weak] at ht ⊢
   split at ht
   ·assumption
   ·cases ht
  case fresh =>
   intro j hj
   simp only [Gh.weak]
   split
   ·rfl
   ·exact hm.fresh j hj
 ·refine ⟨hle.os, hle.tape, hle.output, hle.size, fun j hj hk => ⟨?_, (hle.whole j hj hk).2⟩, fun j f c hk => ?_, fun k hk => ?_, Nat.le_trans hnt0 h.nt0, fun t ht => ?_, hle.ty⟩
  ·simp only [Gh.weak]
   split
   ·rfl
   ·exact (hle.whole j hj hk).1
  ·obtain ⟨⟨f', hf', h1⟩, h2⟩ := hle.part j f c hk
   refine ⟨⟨f', hf', ?_⟩, h2⟩
   simp only [Gh.weak]
   rw [if_neg]
   ·exact h1
   ·intro e
    have := hb j e
    rw [h1] at this; cases this
  ·rw [← hle.bx k hk]
   simp only [Gh.weak]
   split
   ·rfl
   ·rename_i hp
    cases hg : G.bx k with
    | none => rfl
    | some y =>
     exfalso
     apply hp
     intro hnone
     rw [lb_out hk] at hnone
     have : S.box k = none := by rw [h.hb, lb_out hk]; exact hnone
     rw [hm.nobox k this] at hg
     cases hg
  ·have hlt : t < S'.nt := Nat.lt_of_lt_of_le ht (Nat.le_trans hnt0 h.nt0)
   rcases hle.tk t ht with h1 | ⟨h1, h2⟩
   ·exact .inl (by simp only [Gh.weak, hlt, ↓reduceIte]; exact h1)
   ·refine .inr ⟨by simp only [Gh.weak, hlt, ↓reduceIte]; exact h1, fun g hg => ?_⟩
    have hgk : G.tk t = some (some g) := h1.trans hg
    obtain ⟨f, cur, e, h3, _⟩ := hm.tokb t g hgk
    simp only [Gh.weak]
    rw [if_neg]
    ·exact h2 g hg
    ·intro e1
     have := hb g e1
     rw [this] at h3; rcases h3 with h3 | h3 <;> cases h3
end Go.AM
