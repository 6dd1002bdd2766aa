/-
  The abstract machine, third part: the operations, one by one, in the model.
-/
import Derived.Test.YtgonmjghdkoekaaAmOps
namespace Go.AM
open Go

/-! ### Lists -/
theorem length_setCells {α : Type} : ∀ (cs r : List α) (off : Nat), (setCells r off cs).length = r.length
  | [], r, off => rfl
  | c :: cs, r, off => by rw [setCells, length_setCells]; simp

theorem setCells_eq {α : Type} : ∀ (cs r : List α) (off : Nat), off + cs.length ≤ r.length → setCells r off cs = r.take off ++ cs ++ r.drop (off + cs.length)
  | [], r, off, h => by simp [setCells]
  | c :: cs, r, off, h => by
    simp only [List.length_cons] at h
    rw [setCells, setCells_eq cs (r.set off c) (off + 1) (by simp; omega)]
    have h1 : (r.set off c).take (off + 1) = r.take off ++ [c] := by
      rw [List.take_succ_eq_append_getElem (by simp; omega)]
      simp [List.take_set_of_le]
    have h2 : (r.set off c).drop (off + 1 + cs.length) = r.drop (off + (c :: cs).length) := by
      rw [List.drop_set_of_lt (by omega)]
      congr 1
      simp only [List.length_cons]; omega
    rw [h1, h2]
    simp

theorem RVs.set {G : Gh} {w : World} {xs : List AV} {vs : List Value} (h : RVs G w xs vs) (i : Nat) {x : AV} {v : Value} (hx : RV G w x v) : RVs G w (xs.set i x) (vs.set i v) :=
  ⟨by simp [h.1], fun j h1 h2 => by
    simp only [List.getElem_set]
    by_cases hij : i = j
    · simp [hij, hx]
    · simp only [hij, ↓reduceIte]
      exact h.2 j (by simpa using h1) (by simpa using h2)⟩

theorem RVs.uncons {G : Gh} {w : World} {x : AV} {xs : List AV} {vs : List Value} (h : RVs G w (x :: xs) vs) : ∃ v us, vs = v :: us ∧ RV G w x v ∧ RVs G w xs us := by
  cases vs with
  | nil => simp [RVs] at h
  | cons v us => exact ⟨v, us, rfl, h.2 0 (by simp) (by simp), ⟨by simpa using h.1, fun i h1 h2 => h.2 (i + 1) (by simpa using h1) (by simpa using h2)⟩⟩

theorem RVs.setCells {G : Gh} {w : World} : ∀ {cs : List AV} {us : List Value} {xs : List AV} {vs : List Value} {off : Nat}, RVs G w xs vs → RVs G w cs us → RVs G w (setCells xs off cs) (setCells vs off us)
  | [], us, xs, vs, off, h, k => by
    have : us = [] := List.eq_nil_of_length_eq_zero (by simpa using k.1.symm)
    subst this
    exact h
  | c :: cs, us, xs, vs, off, h, k => by
    obtain ⟨v, us', rfl, h1, h2⟩ := k.uncons
    rw [AM.setCells, AM.setCells]
    exact RVs.setCells (cs := cs) (us := us') (xs := xs.set off c) (vs := vs.set off v) (off := off + 1) (h.set off h1) h2

theorem mem_setCells {α : Type} {p : α → Prop} : ∀ (cs r : List α) (off : Nat), (∀ v ∈ r, p v) → (∀ v ∈ cs, p v) → ∀ v ∈ AM.setCells r off cs, p v
  | [], r, off, h, k => h
  | c :: cs, r, off, h, k => by
    rw [AM.setCells]
    refine mem_setCells cs (r.set off c) (off + 1) (fun v hv => ?_) (fun v hv => k v (by simp [hv]))
    rcases List.mem_or_eq_of_mem_set hv with h1 | h1
    · exact h v h1
    · subst h1; exact k v (by simp)

theorem flat_len {α : Type} {sz : Nat} : ∀ {rows : List (List α)}, (∀ r ∈ rows, r.length = sz) → rows.flatten.length = rows.length * sz
  | [], _ => by simp
  | r :: rows, h => by
    rw [List.flatten_cons, List.length_append, flat_len (fun r hr => h r (by simp [hr])), h r (by simp), List.length_cons, Nat.add_mul]
    omega

theorem flat_at {α : Type} {sz : Nat} : ∀ {rows : List (List α)} {i : Nat} {r : List α}, (∀ r ∈ rows, r.length = sz) → rows[i]? = some r →
    rows.flatten = (rows.flatten).take (i * sz) ++ r ++ (rows.flatten).drop (i * sz + sz)
  | [], i, r, _, h => by simp at h
  | r0 :: rows, 0, r, hs, h => by
    simp at h
    subst h
    have hl := hs r0 (by simp)
    simp only [Nat.zero_mul, List.take_zero, List.nil_append, Nat.zero_add, List.flatten_cons]
    rw [← hl]
    simp
  | r0 :: rows, i + 1, r, hs, h => by
    have hl := hs r0 (by simp)
    have ih := flat_at (sz := sz) (rows := rows) (i := i) (r := r) (fun r hr => hs r (by simp [hr])) (by simpa using h)
    have e1 : (i + 1) * sz = r0.length + i * sz := by rw [hl, Nat.add_mul]; omega
    rw [List.flatten_cons, e1]
    rw [List.take_length_add_append, Nat.add_assoc, List.drop_length_add_append]
    rw [List.append_assoc, List.append_assoc, ← List.append_assoc (List.take _ _), ← ih]

theorem flat_get {α : Type} {sz : Nat} {rows : List (List α)} {i : Nat} {r : List α} (hs : ∀ r ∈ rows, r.length = sz) (h : rows[i]? = some r) {j : Nat} (hj : j < sz) : rows.flatten[i * sz + j]? = r[j]? := by
  have hi : i < rows.length := (List.getElem?_eq_some_iff.1 h).1
  have hr : r.length = sz := hs r (List.mem_of_getElem? h)
  have hle : i * sz ≤ rows.flatten.length := by rw [flat_len hs]; exact Nat.mul_le_mul_right _ (by omega)
  have l1 : (List.take (i * sz) rows.flatten).length = i * sz := by rw [List.length_take]; omega
  rw [flat_at hs h, List.append_assoc, List.getElem?_append_right (by rw [l1]; omega), l1, Nat.add_sub_cancel_left, List.getElem?_append_left (by omega)]

theorem flat_set {α : Type} {sz : Nat} : ∀ {rows : List (List α)} {i : Nat} {r : List α} (r' : List α), (∀ r ∈ rows, r.length = sz) → r'.length = sz → rows[i]? = some r →
    (rows.set i r').flatten = (rows.flatten).take (i * sz) ++ r' ++ (rows.flatten).drop (i * sz + sz)
  | [], i, r, r', _, _, h => by simp at h
  | r0 :: rows, 0, r, r', hs, h', h => by
    have hl := hs r0 (by simp)
    simp only [List.set_cons_zero, Nat.zero_mul, List.take_zero, List.nil_append, Nat.zero_add, List.flatten_cons]
    rw [← hl]
    simp
  | r0 :: rows, i + 1, r, r', hs, h', h => by
    have hl := hs r0 (by simp)
    have ih := flat_set (sz := sz) (rows := rows) (i := i) (r := r) r' (fun r hr => hs r (by simp [hr])) h' (by simpa using h)
    have e1 : (i + 1) * sz = r0.length + i * sz := by rw [hl, Nat.add_mul]; omega
    rw [List.set_cons_succ, List.flatten_cons, List.flatten_cons, e1]
    rw [List.take_length_add_append, Nat.add_assoc, List.drop_length_add_append, ih]
    simp

/-- A store inside one row of a box, in the flat list. -/
theorem flat_store {α : Type} {sz : Nat} {rows : List (List α)} {i off : Nat} {r : List α} (cs : List α) (hs : ∀ r ∈ rows, r.length = sz) (h : rows[i]? = some r) (hoff : off + cs.length ≤ sz) :
    (rows.set i (setCells r off cs)).flatten = setCells rows.flatten (i * sz + off) cs := by
  have hi : i < rows.length := (List.getElem?_eq_some_iff.1 h).1
  have hr : r.length = sz := hs r (List.mem_of_getElem? h)
  have hle : i * sz + sz ≤ rows.flatten.length := by
    rw [flat_len hs, ← Nat.succ_mul]
    exact Nat.mul_le_mul_right _ (by omega)
  rw [flat_set _ hs (by rw [length_setCells, hr]) h, setCells_eq _ _ _ (by omega), setCells_eq _ _ _ (by omega)]
  have e := flat_at hs h
  have t1 : List.take (i * sz + off) rows.flatten = List.take (i * sz) rows.flatten ++ r.take off := by
    conv => lhs; rw [e]
    rw [List.append_assoc, List.take_append]
    have l1 : (List.take (i * sz) rows.flatten).length = i * sz := by rw [List.length_take]; omega
    rw [l1, List.take_of_length_le (by rw [l1]; omega), Nat.add_sub_cancel_left, List.take_append_of_le_length (by omega)]
  have t2 : List.drop (i * sz + off + cs.length) rows.flatten = r.drop (off + cs.length) ++ List.drop (i * sz + sz) rows.flatten := by
    conv => lhs; rw [e]
    have l1 : (List.take (i * sz) rows.flatten).length = i * sz := by rw [List.length_take]; omega
    rw [List.append_assoc, List.drop_append, l1, List.drop_of_length_le (by rw [l1]; omega), List.nil_append, List.drop_append_of_le_length (by omega)]
    congr 2
    omega
  rw [t1, t2]
  simp

end Go.AM
