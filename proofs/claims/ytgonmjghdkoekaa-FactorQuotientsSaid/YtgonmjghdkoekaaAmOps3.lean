/-
  The abstract machine, fourth part: what each operation does, and that the model's operation does it: loads, stores, new boxes, append.
-/
import Derived.Test.YtgonmjghdkoekaaAmOps2
namespace Go.AM
open Go

variable {P : Program}

theorem run_sizeOf {T n : Nat} (h : szOf P T = some n) (w : World) : (sizeOf T).run P w = .ok n w := by
  unfold szOf at h
  obtain ⟨i, hi, rfl⟩ := Option.map_eq_some_iff.1 h
  simp [sizeOf, typeInfo, hi]

theorem run_isAgg {T : Nat} {t : Bool} (h : aggT P T = some t) (w : World) : (isAgg T).run P w = .ok t w := by
  unfold aggT at h
  obtain ⟨d, hd, rfl⟩ := Option.map_eq_some_iff.1 h
  simp only [isAgg, Sem.run_bind, run_underlying hd, Result.andThen_ok]
  cases d <;> rfl

theorem add_add (a : Addr) (i j : Nat) : (a.add i).add j = a.add (i + j) := by
  unfold Addr.add
  by_cases hi : i = 0 <;> by_cases hj : j = 0 <;> simp [hi, hj, Nat.add_assoc]

theorem add_none (b o j : Nat) : (⟨b, o, none⟩ : Addr).add j = ⟨b, o + j, none⟩ := by
  unfold Addr.add
  split <;> simp_all

theorem RVd.one {c : Addr → Option Value} {ps : Addr → Prop} {x : D} {v : Value} (h : RVd c ps x v) : v.oneCell' = true := by
  cases h with
  | raw h => exact h
  | sl => rfl

def loadA (ag : Bool) (n : Nat) (r : List AV) (off : Nat) : Option AV := if ag then (if off + n ≤ r.length then some (.agg ((r.drop off).take n)) else none) else r[off]?
def loadD (ag : Bool) (n : Nat) (cs : List D) (off : Nat) : Option AV := if ag then (if off + n ≤ cs.length then some (.agg (((cs.drop off).take n).map .d)) else none) else (cs[off]?).map .d

def EffR (P : Program) (o : Oper) (ρ : Operand → AV) (box : Nat → Option (List (List AV))) (v : AV) : Prop := match o.op with
  | .load T p => match aggT P T, szOf P T with
    | some ag, some n => match ρ p with
      | .cptr cs off => loadD ag n cs off = some v
      | .ptr k i off => match box k with
        | some rows => match rows[i]? with
          | some r => loadA ag n r off = some v
          | none => False
        | none => False
      | _ => False
    | _, _ => False
  | _ => False

theorem run_loadVar_one {T : Nat} {a : Addr} {u : Value} {w : World} (hag : aggT P T = some false) (hc : w.cell? a = some u) : (loadVar T a).run P w = .ok u w := by
  simp [loadVar, run_isAgg hag, load, Sem.run, hc]

theorem run_loadVar_agg {T n : Nat} {a : Addr} {us : List Value} {w : World} (hag : aggT P T = some true) (hn : szOf P T = some n) (hl : us.length = n) (hc : ∀ j u, us[j]? = some u → w.cell? (a.add j) = some u) :
    (loadVar T a).run P w = .ok (.agg us.toArray) w := by
  simp only [loadVar, Sem.run_bind, run_isAgg hag, Result.andThen_ok, ↓reduceIte, run_sizeOf hn]
  rw [← hl, run_loadCells_list w a us hc]
  rfl

theorem effR_sound {o : Oper} {ρ : Operand → AV} {ρv : Operand → Value} {G : Gh} {m : AMem} {w : World} {v : AV} (h : EffR P o ρ m.box v)
    (hρ : ∀ x ∈ o.op.operands, RV G w (ρ x) (ρv x)) (hm : RelM G m w) : ∃ u, (execOp ρv o).run P w = .ok (.value u) w ∧ RV G w v u := by
  unfold EffR at h
  split at h
  · rename_i T p ho
    have hp := hρ p (by rw [ho]; simp [Op.operands])
    split at h
    · rename_i ag n hag hn
      have fin : ∀ (a : Addr) (u : Value), ρv p = .pointer (some a) → (loadVar T a).run P w = .ok u w → RV G w v u → ∃ u, (execOp ρv o).run P w = .ok (.value u) w ∧ RV G w v u := by
        intro a u ha hr hv
        refine ⟨u, ?_, hv⟩
        simp only [execOp, ho, Instr.loadAt, ha, Instr.sureAddr, Sem.run_bind, Sem.run_pure, Result.andThen_ok, hr]
      split at h
      · rename_i cs off hx
        rw [hx] at hp
        generalize hpv : ρv p = pv at hp
        cases hp with
        | cptr a u hc hr =>
          unfold loadD at h
          cases ag with
          | false =>
            simp only [Bool.false_eq_true, ↓reduceIte] at h
            obtain ⟨d, hd, rfl⟩ := Option.map_eq_some_iff.1 h
            obtain ⟨hlt, rfl⟩ := List.getElem?_eq_some_iff.1 hd
            exact fin _ _ hpv (run_loadVar_one hag (hc off hlt).2) (.d (hr off hlt))
          | true =>
            simp only [↓reduceIte] at h
            split at h
            · rename_i hle
              simp only [Option.some.injEq] at h
              subst h
              refine fin _ _ hpv (run_loadVar_agg (us := (List.range n).map fun j => u (off + j)) hag hn (by simp) ?_) (.agg (by simp; omega) ?_ ?_)
              · intro j x hj
                simp only [List.getElem?_map] at hj
                obtain ⟨j', hj', rfl⟩ := Option.map_eq_some_iff.1 hj
                obtain ⟨hlt, rfl⟩ := List.getElem?_eq_some_iff.1 hj'
                simp at hlt
                rw [add_add]
                simpa using (hc (off + j) (by omega)).2
              · intro i h1 h2
                simp at h1 h2
                simp only [List.getElem_map, List.getElem_take, List.getElem_drop, List.getElem_range]
                exact .d (hr (off + i) (by omega))
              · intro x hx
                simp at hx
                obtain ⟨j, hj, rfl⟩ := hx
                exact (hr (off + j) (by omega)).one
            · cases h
      · rename_i k i off hx
        rw [hx] at hp
        generalize hpv : ρv p = pv at hp
        cases hp with
        | ptr hb =>
          rename_i b sz
          split at h
          · rename_i rows hbox
            split at h
            · rename_i r hrow
              obtain ⟨_, cells, e, hh, hs, hR, h1⟩ := hm.box k rows b sz hbox hb
              have hrl : r.length = sz := hs r (List.mem_of_getElem? hrow)
              have hcell : ∀ j x, off + j < sz → r[off + j]? = some x → ∃ u, w.cell? ⟨b, i * sz + off + j, none⟩ = some u ∧ RV G w x u ∧ u.oneCell' = true := by
                intro j x hlt hx
                have hfl := flat_get hs hrow hlt
                rw [hx] at hfl
                obtain ⟨u, hu, hru⟩ := hR.get hfl
                refine ⟨u, ?_, hru, h1 u (List.mem_of_getElem? hu)⟩
                rw [cell_of_row w b _ cells e (0, 0) hh, Nat.add_assoc]
                simpa using hu
              unfold loadA at h
              cases ag with
              | false =>
                simp only [Bool.false_eq_true, ↓reduceIte] at h
                have hlt : off < sz := by rw [← hrl]; exact (List.getElem?_eq_some_iff.1 h).1
                obtain ⟨u, hu, hru, _⟩ := hcell 0 v hlt h
                exact fin _ _ hpv (run_loadVar_one hag hu) hru
              | true =>
                simp only [↓reduceIte] at h
                split at h
                · rename_i hle
                  simp only [Option.some.injEq] at h
                  subst h
                  have hex : ∀ j, ∃ u, j < n → w.cell? ⟨b, i * sz + off + j, none⟩ = some u ∧ (∀ x, r[off + j]? = some x → RV G w x u) ∧ u.oneCell' = true := by
                    intro j
                    by_cases hj : j < n
                    · have hg : r[off + j]? = some (r[off + j]'(by omega)) := List.getElem?_eq_getElem _
                      obtain ⟨u, h2, h3, h4⟩ := hcell j _ (by omega) hg
                      exact ⟨u, fun _ => ⟨h2, fun x hx => by rw [hg] at hx; cases hx; exact h3, h4⟩⟩
                    · exact ⟨default, fun h => absurd h hj⟩
                  obtain ⟨u, hu⟩ := Classical.axiomOfChoice hex
                  refine fin _ _ hpv (run_loadVar_agg (us := (List.range n).map u) hag hn (by simp) ?_) (.agg (by simp; omega) ?_ ?_)
                  · intro j x hj
                    simp only [List.getElem?_map] at hj
                    obtain ⟨j', hj', rfl⟩ := Option.map_eq_some_iff.1 hj
                    obtain ⟨hlt, rfl⟩ := List.getElem?_eq_some_iff.1 hj'
                    simp at hlt
                    rw [add_none]
                    simpa using (hu j hlt).1
                  · intro j h1 h2
                    simp at h1 h2
                    simp only [List.getElem_map, List.getElem_take, List.getElem_drop, List.getElem_range]
                    exact (hu j (by omega)).2.1 _ (List.getElem?_eq_getElem _)
                  · intro x hx
                    simp at hx
                    obtain ⟨j, hj, rfl⟩ := hx
                    exact (hu j (by omega)).2.2
                · cases h
            · exact h.elim
          · exact h.elim
      · exact h.elim
    · exact h.elim
  · exact h.elim

end Go.AM
