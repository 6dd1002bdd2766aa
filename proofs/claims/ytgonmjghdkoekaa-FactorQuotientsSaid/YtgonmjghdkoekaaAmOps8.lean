/-
  The abstract machine, ninth part: all operations that look at slots alone.
-/
import Derived.Test.YtgonmjghdkoekaaAmOps7
namespace Go.AM
open Go
set_option linter.unusedSimpArgs false
set_option linter.unusedVariables false

variable {P : Program}

theorem After.pure {o : Oper} {ρv : Operand → Value} {G : Gh} {w : World} {R : Value → Gh → World → Prop} {u : Value} (h : (execOp ρv o).run P w = .ok (.value u) w) (hr : R u G w) : After P o ρv G w R :=
  ⟨.value u, u, G, w, h, .inl rfl, Le.refl G w, hr⟩

theorem structT_spec {T f off n : Nat} {pl : List (Nat × Nat)} (h : structT P T = some pl) (hf : pl[f]? = some (off, n)) : ∃ fs x, P.underlying T = some (.struct fs) ∧ fs[f]? = some x ∧ x.offset = off ∧ szOf P x.type = some n := by
  unfold structT at h
  split at h
  · rename_i fs hfs
    split at h
    · rename_i hall
      simp only [Option.some.injEq] at h
      subst h
      simp only [List.getElem?_map] at hf
      obtain ⟨x, hx, hx2⟩ := Option.map_eq_some_iff.1 hf
      have hx' : fs[f]? = some x := by simpa using hx
      have hmem : x ∈ fs.toList := List.mem_of_getElem? hx
      obtain ⟨i, hi⟩ := Option.isSome_iff_exists.1 (List.all_eq_true.1 hall x hmem)
      simp only [Prod.mk.injEq, hi, Option.map_some, Option.getD_some] at hx2
      exact ⟨fs, x, hfs, hx', hx2.1, by simp [szOf, hi, hx2.2]⟩
    · cases h
  · cases h

theorem run_fieldAt {T f off n : Nat} {pl : List (Nat × Nat)} (h : structT P T = some pl) (hf : pl[f]? = some (off, n)) (hn : n ≠ 0) (a : Addr) (w : World) : (Instr.fieldAt T (.pointer (some a)) f).run P w = .ok (.pointer (some (a.add off))) w := by
  obtain ⟨fs, x, h1, h2, h3, h4⟩ := structT_spec h hf
  simp only [Instr.fieldAt, Sem.run_bind, run_underlying h1, Result.andThen_ok, h2, Instr.sureAddr, Sem.run_pure, fieldPlace, run_sizeOf h4, hn, ↓reduceIte, h3]

theorem cells_get {G : Gh} {w : World} {cs : List AV} {vs : List Value} (h : RVs G w cs vs) {ag : Bool} {n off : Nat} {v : AV} (hl : loadA ag n cs off = some v) (h1 : ∀ u ∈ vs, u.oneCell' = true) :
    ∃ u, (if ag then (some (.agg (vs.toArray.extract off (off + n))) : Option Value) else vs[off]?) = some u ∧ RV G w v u := by
  unfold loadA at hl
  cases ag with
  | false =>
    simp only [Bool.false_eq_true, ↓reduceIte] at hl ⊢
    obtain ⟨u, hu, hr⟩ := h.get hl
    exact ⟨u, hu, hr⟩
  | true =>
    simp only [↓reduceIte] at hl ⊢
    split at hl
    · simp only [Option.some.injEq] at hl
      subst hl
      refine ⟨_, rfl, ?_⟩
      have hs := (h.drop off).take n
      have e : vs.toArray.extract off (off + n) = ((vs.drop off).take n).toArray := by
        simp only [List.extract_toArray, List.extract_eq_take_drop, Nat.add_sub_cancel_left]
      rw [e]
      exact .agg hs.1 hs.2 (fun u hu => h1 u (List.mem_of_mem_drop (List.mem_of_mem_take hu)))
    · cases hl

theorem run_part {T off n : Nat} {ag : Bool} {cs : Array Value} {u : Value} (hag : aggT P T = some ag) (hn : szOf P T = some n) (h : (if ag then (some (.agg (cs.extract off (off + n))) : Option Value) else cs[off]?) = some u) (w : World) :
    (part T cs off).run P w = .ok u w := by
  cases ag with
  | false =>
    simp only [Bool.false_eq_true, ↓reduceIte] at h
    simp only [part, Sem.run_bind, run_isAgg hag, Result.andThen_ok, Bool.false_eq_true, ↓reduceIte, h, Sem.run_pure]
  | true =>
    simp only [↓reduceIte, Option.some.injEq] at h
    simp only [part, Sem.run_bind, run_isAgg hag, Result.andThen_ok, ↓reduceIte, run_sizeOf hn, Sem.run_pure, h]

/-- What 'alloc' finds: a box laid ahead of it, at its zero value, that is in no block yet. -/
def Pend (P : Program) (base : Nat) (o : Oper) (G : Gh) (box : Nat → Option (List (List AV))) : Prop := match o.op, o.dst with
  | .alloc T, some s => ∃ zs, zeroT P T = some zs ∧ box (base + s) = some [zs.map ofVal1] ∧ G.bx (base + s) = none
  | _, _ => True

theorem upd_self {α : Type} (f : Nat → α) (k : Nat) (v : α) (h : f k = v) : upd f k v = f := by
  funext j
  unfold upd
  split
  · rename_i e; rw [e, h]
  · rfl

theorem rawsOf_get {ρ : Operand → AV} {ρv : Operand → Value} {G : Gh} {w : World} : ∀ {xs : List Operand} {vs : List Value}, rawsOf (xs.map ρ) = some vs → (∀ x ∈ xs, RV G w (ρ x) (ρv x)) → xs.map ρv = vs := by
  intro xs vs h hρ
  exact rawsOf_spec (G := G) (w := w) h ⟨by simp, fun i h1 h2 => by simp only [List.getElem_map]; exact hρ _ (List.getElem_mem _)⟩

set_option maxHeartbeats 1000000 in
theorem effN_sound {base : Nat} {o : Oper} {ρ : Operand → AV} {ρv : Operand → Value} {G : Gh} {m : AMem} {w : World} {v : AV} (h : EffN P base o ρ v)
    (hρ : ∀ x ∈ o.op.operands, RV G w (ρ x) (ρv x)) (hm : RelM G m w) (hd : ∀ s, o.dst = some s → base + s < m.nb) (hp : Pend P base o G m.box) :
    After P o ρv G w fun u G' w' => RV G' w' v u ∧ RelM G' m w' ∧ ∀ k, some k ≠ o.dst.map (base + ·) → G.bx k = none → G'.bx k = none := by
  have keep : ∀ u, (execOp ρv o).run P w = .ok (.value u) w → RV G w v u → After P o ρv G w fun u G' w' => RV G' w' v u ∧ RelM G' m w' ∧ ∀ k, some k ≠ o.dst.map (base + ·) → G.bx k = none → G'.bx k = none :=
    fun u h1 h2 => .pure h1 ⟨h2, hm, fun _ _ h => h⟩
  unfold EffN at h
  split at h
  · rename_i x ho
    subst h
    exact keep (ρv x) (by simp only [execOp, ho, Sem.run_pure]) (hρ x (by rw [ho]; simp [Op.operands]))
  · rename_i x ho
    subst h
    exact keep (ρv x) (by simp only [execOp, ho, Sem.run_pure]) (hρ x (by rw [ho]; simp [Op.operands]))
  · rename_i c a b ho
    split at h
    · rename_i t hc
      have h1 := hρ c (by rw [ho]; simp [Op.operands])
      rw [hc] at h1
      have h2 : ρv c = .bool t := rawOf_spec rfl h1
      subst h
      cases t with
      | true => exact keep (ρv a) (by simp [execOp, ho, h2, asBool]) (hρ a (by rw [ho]; simp [Op.operands]))
      | false => exact keep (ρv b) (by simp [execOp, ho, h2, asBool]) (hρ b (by rw [ho]; simp [Op.operands]))
    · exact h.elim
  · rename_i T ho
    split at h
    · rename_i s hs
      subst h
      unfold Pend at hp
      rw [ho, hs] at hp
      obtain ⟨zs, hz, hbox, hbx⟩ := hp
      unfold zeroT at hz
      split at hz
      · rename_i z hzz
        split at hz
        · rename_i hone
          simp only [Option.some.injEq] at hz
          subst hz
          obtain ⟨i, hi, hzi⟩ := Option.bind_eq_some_iff.1 hzz
          have hzr : (zeroValue T).run P w = .ok z w := by simp [zeroValue, typeInfo, hi, hzi]
          have hrel := hm.mkbox (k := base + s) hbx (hd s hs) (sz := (z.cells.toList.map ofVal1).length) (rows := [z.cells.toList.map ofVal1]) (by simp) (cs := z.cells) T
            (by simp only [List.flatten_cons, List.flatten_nil, List.append_nil]; exact ⟨by simp, fun j g1 g2 => by simp only [List.getElem_map]; exact RV.of_ofVal1 _⟩) (fun u hu => List.all_eq_true.1 hone u hu)
          have hself : ({ m with box := upd m.box (base + s) (some [z.cells.toList.map ofVal1]) } : AMem) = m := by
            cases m
            simp only [AMem.mk.injEq, and_true]
            exact upd_self _ _ _ hbox
          rw [hself] at hrel
          refine ⟨.value (.pointer (some ⟨w.heap.size, 0, none⟩)), _, _, w.alloc (.cells z.cells T), ?_, .inl rfl, Le.mkbox hm.fresh hm.tlt hbx _ _, ?_, hrel, ?_⟩
          · simp only [execOp, ho, Instr.alloc, newVar, newRow, Sem.run_bind, hzr, Sem.run_pure, Result.andThen_ok]
            rfl
          · have : (⟨w.heap.size, 0, none⟩ : Addr) = ⟨w.heap.size, 0 * (z.cells.toList.map ofVal1).length + 0, none⟩ := by simp
            rw [this]
            exact .ptr (by simp [Gh.mkbox, upd_same])
          · intro k hk hg
            have hne : k ≠ base + s := fun e => hk (by rw [hs, e]; rfl)
            simp only [Gh.mkbox]
            rw [upd_other _ _ hne]
            exact hg
        · cases hz
      · cases hz
    · exact h.elim
  · rename_i T parts ho
    split at h
    · rename_i pl zs hpl hz
      split at h
      · rename_i cs hcs
        subst h
        obtain ⟨u, h1, h2⟩ := build_sound (ρv := ρv) hpl hz hcs (fun p hp => hρ p.2 (by rw [ho]; simp only [Op.operands]; rw [← Array.mem_toList_iff]; simpa using ⟨p.1, by simpa using hp⟩))
        exact keep u (by simp only [execOp, ho, Sem.run_bind, h1, Result.andThen_ok, Sem.run_pure]) h2
      · exact h.elim
    · exact h.elim
  · rename_i T len parts ho
    split at h
    · rename_i E sz by' rows hrow hr
      obtain ⟨h1, h2, h3, rfl⟩ := h
      obtain ⟨u, ob, h4, h5⟩ := buildSlice_sound (ρv := ρv) hrow hr h1 h2 h3 (fun p hp => hρ p.2 (by rw [ho]; simp only [Op.operands]; rw [← Array.mem_toList_iff]; simpa using ⟨p.1, by simpa using hp⟩)) hm
      exact ⟨.value u, u, G, w.alloc ob, by simp only [execOp, ho, Sem.run_bind, h4, Result.andThen_ok, Sem.run_pure], .inl rfl, Le.alloc hm.fresh ob, h5, hm.alloc ob, fun _ _ h => h⟩
    · exact h.elim
  · rename_i x ho
    have h1 := hρ x (by rw [ho]; simp [Op.operands])
    split at h
    · rename_i k i off hx
      subst h
      rw [hx] at h1
      generalize hv : ρv x = xv at h1
      have h1' := h1
      cases h1' with
      | ptr hb => exact keep _ (by simp only [execOp, ho, hv, Sem.run_pure]) h1
    · rename_i cs off hx
      subst h
      rw [hx] at h1
      generalize hv : ρv x = xv at h1
      have h1' := h1
      cases h1' with
      | cptr a u hc hr => exact keep _ (by simp only [execOp, ho, hv, Sem.run_pure]) h1
    · rename_i f caps hx
      subst h
      rw [hx] at h1
      generalize hv : ρv x = xv at h1
      have h1' := h1
      cases h1' with
      | fn hl hh => exact keep _ (by simp only [execOp, ho, hv, Sem.run_pure]) h1
    · exact h.elim
  · rename_i op T x y T2 ho
    split at h
    · rename_i a b ha hb
      obtain ⟨r, hr, rfl⟩ := h
      have h1 := rawOf_spec ha (hρ x (by rw [ho]; simp [Op.operands]))
      have h2 := rawOf_spec hb (hρ y (by rw [ho]; simp [Op.operands]))
      refine keep r ?_ (.raw hr.1)
      have := hr.2 x y w
      simp only [execOp, ho, h1, h2, Sem.run_bind, Sem.run_pure] at this ⊢
      rw [this]
      rfl
    · exact h.elim
  · rename_i op T x ho
    split at h
    · rename_i a ha
      obtain ⟨r, hr, rfl⟩ := h
      have h1 := rawOf_spec ha (hρ x (by rw [ho]; simp [Op.operands]))
      exact keep r (by simp only [execOp, ho, h1, Sem.run_bind, hr.2 w, Result.andThen_ok, Sem.run_pure]) (.raw hr.1)
    · exact h.elim
  · rename_i s t x ho
    split at h
    · rename_i a ha
      obtain ⟨r, hr, rfl⟩ := h
      have h1 := rawOf_spec ha (hρ x (by rw [ho]; simp [Op.operands]))
      exact keep r (by simp only [execOp, ho, h1, Sem.run_bind, hr.2 w, Result.andThen_ok, Sem.run_pure]) (.raw hr.1)
    · exact h.elim
  · rename_i fn first caps ho
    obtain ⟨h0, rfl⟩ := h
    have hf : first = #[] := by rw [← Array.toArray_toList (xs := first), h0]
    subst hf
    refine keep (.func fn #[] (caps.map ρv)) (by simp [execOp, ho, Instr.makeFunc]) ?_
    have := RV.fn (G := G) (w := w) (f := fn) (caps := caps.toList.map ρ) (vs := caps.toList.map ρv) (by simp) (fun i h1 h2 => by
      simp only [List.getElem_map]
      exact hρ _ (by rw [ho]; simp only [Op.operands]; rw [← Array.mem_toList_iff]; simp))
    have e : caps.map ρv = (caps.toList.map ρv).toArray := by rw [← Array.toList_map, Array.toArray_toList]
    rw [e]
    exact this
  · rename_i T x f ho
    have h1 := hρ x (by rw [ho]; simp [Op.operands])
    split at h
    · rename_i pl hpl
      split at h
      · rename_i off n cs o' hf hx
        obtain ⟨hn, rfl⟩ := h
        rw [hx] at h1
        generalize hv : ρv x = xv at h1
        cases h1 with
        | cptr a u hc hr =>
          refine keep _ (by simp only [execOp, ho, hv, Sem.run_bind, run_fieldAt hpl hf hn, Result.andThen_ok, Sem.run_pure]; rfl) ?_
          rw [add_add]
          exact .cptr a u hc hr
      · rename_i off n k i o' hf hx
        obtain ⟨hn, rfl⟩ := h
        rw [hx] at h1
        generalize hv : ρv x = xv at h1
        cases h1 with
        | ptr hb =>
          refine keep _ (by simp only [execOp, ho, hv, Sem.run_bind, run_fieldAt hpl hf hn, Result.andThen_ok, Sem.run_pure]; rfl) ?_
          rw [add_none, Nat.add_assoc]
          exact .ptr hb
      · exact h.elim
    · exact h.elim
  · rename_i T x f ho
    have h1 := hρ x (by rw [ho]; simp [Op.operands])
    split at h
    · rename_i ft off cs hf hx
      split at h
      · rename_i ag n hag hn
        rw [hx] at h1
        generalize hv : ρv x = xv at h1
        cases h1 with
        | agg hl hh hone =>
          rename_i vs
          obtain ⟨u, h2, h3⟩ := cells_get ⟨hl, hh⟩ h hone
          unfold fieldT at hf
          split at hf
          · rename_i fs hfs
            obtain ⟨fd, hfd, hfe⟩ := Option.map_eq_some_iff.1 hf
            simp only [Prod.mk.injEq] at hfe
            obtain ⟨rfl, rfl⟩ := hfe
            refine keep u ?_ h3
            have hpr : (part fd.type vs.toArray fd.offset).run P w = .ok u w := run_part hag hn (by simpa using h2) w
            simp only [execOp, ho, hv, Instr.field, Sem.run_bind, run_underlying hfs, Result.andThen_ok, hfd, asAgg, Sem.run_pure, hpr]
          · cases hf
      · exact h.elim
    · exact h.elim
  · rename_i T x i ho
    split at h
    · rename_i k n hi
      have h1 := hρ x (by rw [ho]; simp [Op.operands])
      have h2 := hρ i (by rw [ho]; simp [Op.operands])
      rw [hi] at h2
      have h3 : ρv i = .int k n := rawOf_spec rfl h2
      obtain ⟨u, h4, h5⟩ := idxOf_sound (k := k) h h1
      exact keep u (by simp only [execOp, ho, h3, Sem.run_bind, h4, Result.andThen_ok, Sem.run_pure]) h5
    · exact h.elim
  · rename_i T x i ho
    split at h
    · rename_i s k n hx hi
      obtain ⟨hT, h0, b, hb, rfl⟩ := h
      have h1 := hρ x (by rw [ho]; simp [Op.operands])
      have h2 := hρ i (by rw [ho]; simp [Op.operands])
      rw [hx] at h1
      rw [hi] at h2
      have h3 : ρv x = .string s := rawOf_spec rfl h1
      have h4 : ρv i = .int k n := rawOf_spec rfl h2
      refine keep (.int .u8 b.toNat) ?_ (.raw rfl)
      simp only [execOp, ho, h3, h4, Instr.index, Sem.run_bind, run_asIntOf, Result.andThen_ok, run_underlying (strT_spec hT), h0, ↓reduceIte, hb, Sem.run_pure]
    · exact h.elim
  · rename_i t i ho
    split at h
    · rename_i vs ht
      have h1 := hρ t (by rw [ho]; simp [Op.operands])
      rw [ht] at h1
      generalize hv : ρv t = tv at h1
      cases h1 with
      | tup hl hh =>
        rename_i us
        obtain ⟨u, hu, hr⟩ := RVs.get ⟨hl, hh⟩ h
        refine keep u ?_ hr
        have hu' : us.toArray[i]? = some u := by simpa using hu
        simp only [execOp, ho, hv, Instr.extract, hu', Sem.run_bind, Sem.run_pure, Result.andThen_ok]
    · exact h.elim
  · rename_i T x lo hi mx ho
    have h1 := hρ x (by rw [ho]; simp [Op.operands])
    obtain ⟨u, h2, h3⟩ := sliceOf_sound (ρv := ρv) h h1 (fun y hy => hρ y (by rw [ho]; simp [Op.operands, hy])) (fun y hy => hρ y (by rw [ho]; simp [Op.operands, hy])) (fun y hy => hρ y (by rw [ho]; simp [Op.operands, hy]))
    exact keep u (by simp only [execOp, ho, Sem.run_bind, h2, Result.andThen_ok, Sem.run_pure]) h3
  · rename_i c ho
    split at h
    · rename_i xa T hcal hargs htys
      obtain ⟨x, hargs2, rfl⟩ := List.map_eq_singleton_iff.1 hargs
      have ha : c.args = #[x] := by rw [← Array.toArray_toList (xs := c.args), hargs2]
      have hb : c.argTypes = #[T] := by rw [← Array.toArray_toList (xs := c.argTypes), htys]
      have h1 := hρ x (by rw [ho]; simp [Op.operands, Call.operands, hcal, ha])
      obtain ⟨u, h2, h3⟩ := lenOf_sound (ty := o.type) h h1
      refine keep u ?_ h3
      simp only [execOp, ho, resolve, hcal, ha, hb, List.map_toArray, List.map_cons, List.map_nil, Sem.run_bind, Sem.run_pure, Result.andThen_ok, invoke, builtin, h2]
    · exact h.elim
    · rename_i args tys b hn1 hcal hn2
      split at h
      · rename_i vs hvs
        obtain ⟨r, hr, rfl⟩ := h
        have hmap : (c.args.map ρv) = vs.toArray := by
          have := rawsOf_get (ρv := ρv) (G := G) (w := w) hvs (fun x hx => hρ x (by rw [ho]; simp only [Op.operands, Call.operands, hcal]; rw [← Array.mem_toList_iff]; simpa using hx))
          rw [← this, ← Array.toList_map, Array.toArray_toList]
        refine keep r ?_ (.raw hr.1)
        simp only [execOp, ho, resolve, hcal, Sem.run_bind, Sem.run_pure, Result.andThen_ok, invoke, hmap, hr.2]
      · exact h.elim
    · exact h.elim
  · exact h.elim

end Go.AM
