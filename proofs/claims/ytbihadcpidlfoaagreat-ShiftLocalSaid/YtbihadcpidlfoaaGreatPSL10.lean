import Derived.Test.YtbihadcpidlfoaaGreatPSL9
import Derived.WalkKit
import Derived.ProofKit
import Derived.OpenShut
import Derived.ChangeStays
import Derived.SizedLaws
/-
  The abstract machine, twenty-second part: from a statement's reading of the arguments to slots, and from a contract to the statement.
-/
namespace Go.AM
open Go Go.ChangeShapes
set_option linter.unusedSimpArgs false
set_option linter.unusedVariables false

variable {P : Program}

/-- Cells that read as data. -/
def Rd (w : World) (cs : List Value) (ds : List D) : Prop := cs.length = ds.length ∧ ∀ i (h1 : i < cs.length) (h2 : i < ds.length), RVd w.cell? (fun _ => True) ds[i] cs[i]

theorem Rd.append {w : World} {cs cs' : List Value} {ds ds' : List D} (h : Rd w cs ds) (k : Rd w cs' ds') : Rd w (cs ++ cs') (ds ++ ds') := by
  refine ⟨by simp [h.1, k.1], fun i h1 h2 => ?_⟩
  by_cases hi : i < cs.length
  · rw [List.getElem_append_left hi, List.getElem_append_left (by rw [← h.1]; exact hi)]
    exact h.2 i hi _
  · have hl := h.1
    rw [List.getElem_append_right (by omega), List.getElem_append_right (by omega)]
    have := k.2 (i - cs.length) (by simp at h1; omega) (by have := k.1; simp at h1; omega)
    simpa [hl] using this
theorem Rd.one {w : World} {c : Value} {d : D} (h : RVd w.cell? (fun _ => True) d c) : Rd w [c] [d] := ⟨rfl, fun i h1 h2 => by
  have : i = 0 := by simpa using h1
  subst this
  exact h⟩

/-- What it takes is within reach. -/
def Light {H : Type} (P : Program) (T : TypeId) (d : DataW H) : Prop := (d.weights P T).all (· ≤ reachBytes) = true

/-- How the cells of a type read as data: as the images of values of a Lean type. -/
structure Rdr (P : Program) (T : TypeId) (α : Type) where
  enc : α → List D
  ok : α → Prop
  len : ∀ x, (enc x).length = P.cellsOf T
  sound : ∀ {H : Type} (e : TypeId × Value → H) (w : World) (base : Nat) (spare : Nat → Bool) (held : Bool) (fuel : Nat) (cs : List Value) (x : DataW H × List MemPlace),
    DataW.trod e P w base spare held fuel T cs = some x → ∃ y, Rd w cs (enc y) ∧ (Light P T x.1 → ok y)

def Rdr.int {T : TypeId} {k : IntKind} (h : P.underlying T = some (.int k)) (hc : P.cellsOf T = 1) : Rdr P T Int where
  enc n := [.raw (.int k n)]
  ok n := (Lit.int k n).wf = true
  len _ := by simp [hc]
  sound e w base spare held fuel cs x hx := by
    cases fuel with
    | zero => simp [DataW.trod] at hx
    | succ n =>
      unfold DataW.trod at hx
      rw [h] at hx
      split at hx <;> simp_all
      rename_i k' n' _
      exact ⟨n', Rd.one (.raw rfl), fun _ => hx.1.2⟩

theorem cells_spec {w : World} {base : Nat} {a : Addr} {n : Nat} {l : List Value} (h : w.cells? base a n = some l) : l.length = n ∧ ∀ i (hi : i < l.length), w.cell? (a.add i) = some l[i] := by
  unfold World.cells? at h
  split at h
  · have h1 : l.length = n := by have := mapM_some_length h; simpa using this
    refine ⟨h1, fun i hi => ?_⟩
    have hin : i < n := by omega
    have := mapM_some_get h i i (by simp [hin])
    rw [this]
    exact List.getElem?_eq_getElem hi
  · cases h

theorem light_slice {H : Type} {T E : TypeId} (h : P.underlying T = some (.slice E)) {elems rest : List (DataW H)} (hl : Light P T (.slice elems rest)) : elems.length * P.bytesOf E ≤ reachBytes ∧ ∀ d ∈ elems, Light P E d := by
  unfold Light at hl ⊢
  simp only [DataW.weights, h, List.all_cons, List.all_append, Bool.and_eq_true, decide_eq_true_eq] at hl
  refine ⟨Nat.le_trans (Nat.mul_le_mul_right _ (Nat.le_add_right _ _)) hl.1, ?_⟩
  have key : ∀ l : List (DataW H), (DataW.weightsAll P E l).all (· ≤ reachBytes) = true → ∀ d ∈ l, (d.weights P E).all (· ≤ reachBytes) = true := by
    intro l
    induction l with
    | nil => intro _ d hd; simp at hd
    | cons x l ih =>
      intro hx d hd
      simp only [DataW.weightsAll, List.all_append, Bool.and_eq_true] at hx
      rcases List.mem_cons.1 hd with rfl | hd
      · exact hx.1
      · exact ih hx.2 d hd
  exact key elems hl.2.1

def Rdr.slice {T E : TypeId} {α : Type} (r : Rdr P E α) (h : P.underlying T = some (.slice E)) (hc : P.cellsOf T = 1) : Rdr P T (List α) where
  enc l := [.sl (P.cellsOf E) (l.map r.enc)]
  ok l := (∀ x ∈ l, r.ok x) ∧ l.length * P.bytesOf E ≤ reachBytes
  len _ := by simp [hc]
  sound e w base spare held fuel cs x hx := by
    rcases DataW.trod_slice h hx with ⟨rfl, rfl⟩ | ⟨a, len, cap, elems, rest, n, rfl, rfl, rfl, hb, hl, hm, hel, hat, _⟩
    · exact ⟨[], Rd.one (.sl (es := []) (fun _ _ => default) (Nat.le_refl _) (by decide) (by simp) (by simp) (by simp) (by simp)), fun _ => ⟨by simp, by simp⟩⟩
    · have key : ∀ i (hi : i < elems.length), ∃ cs y, cs.length = P.cellsOf E ∧ (∀ j (hj : j < cs.length), w.cell? (a.add (i * P.cellsOf E + j)) = some cs[j]) ∧ Rd w cs (r.enc y) ∧ (Light P E elems[i].1 → r.ok y) := by
        intro i hi
        have h1 := hat i (by omega)
        have h2 : elems[i]? = some elems[i] := List.getElem?_eq_getElem hi
        rw [h2, Option.bind_eq_some_iff] at h1
        obtain ⟨cs, hcs, htr⟩ := h1
        obtain ⟨hcl, hcc⟩ := cells_spec hcs
        obtain ⟨y, hy, hok⟩ := r.sound e w base spare held n cs _ htr
        refine ⟨cs, y, hcl, fun j hj => ?_, hy, hok⟩
        rw [← Addr.add_add]
        exact hcc j hj
      have pick : ∀ m, m ≤ elems.length → ∃ ys : List α, ys.length = m ∧ (∀ i (hi : i < ys.length) (hi2 : i < elems.length), ∃ cs, cs.length = P.cellsOf E ∧ (∀ j (hj : j < cs.length), w.cell? (a.add (i * P.cellsOf E + j)) = some cs[j]) ∧ Rd w cs (r.enc ys[i]) ∧ (Light P E elems[i].1 → r.ok ys[i])) := by
        intro m
        induction m with
        | zero => intro _; exact ⟨[], rfl, fun i hi => by simp at hi⟩
        | succ m ih =>
          intro hm'
          obtain ⟨ys, hys, hall⟩ := ih (by omega)
          obtain ⟨cs, y, g1, g2, g3, g4⟩ := key m (by omega)
          refine ⟨ys ++ [y], by simp [hys], fun i hi hi2 => ?_⟩
          by_cases him : i < ys.length
          · rw [List.getElem_append_left him]
            exact hall i him hi2
          · have : i = m := by simp at hi; omega
            subst this
            have e1 : (ys ++ [y])[i] = y := by
              rw [List.getElem_append_right (by omega)]
              simp
            rw [e1]
            exact ⟨cs, g1, g2, g3, g4⟩
      obtain ⟨ys, hys, hall⟩ := pick elems.length (Nat.le_refl _)
      refine ⟨ys, Rd.one ?_, fun hli => ?_⟩
      · have hlen : len = ys.length := by omega
        subst hlen
        have hml : ys.length = (ys.map r.enc).length := by simp
        rw [hml]
        refine .sl (fun i j => (w.cell? (a.add (i * P.cellsOf E + j))).getD default) (by simpa using hl) hm (fun e he => ?_) (fun _ => ⟨a, rfl⟩) (fun a' ha' i j hi hj => ?_) (fun i j hi hj => ?_)
        · obtain ⟨y, _, rfl⟩ := List.mem_map.1 he
          exact r.len y
        · cases ha'
          obtain ⟨cs, g1, g2, _⟩ := hall i (by simpa using hi) (by simp at hi; omega)
          rw [g2 j (by omega)]
          exact ⟨trivial, rfl⟩
        · obtain ⟨cs, g1, g2, g3, _⟩ := hall i (by simpa using hi) (by simp at hi; omega)
          simp only [List.getElem_map] at hj ⊢
          have hjc : j < cs.length := by rw [g3.1]; exact hj
          rw [g2 j hjc]
          exact g3.2 j hjc hj
      · obtain ⟨w1, w2⟩ := light_slice h hli
        refine ⟨fun y hy => ?_, by simpa [hys] using w1⟩
        obtain ⟨i, hi, rfl⟩ := List.getElem_of_mem hy
        obtain ⟨_, _, _, _, h4⟩ := hall i hi (by omega)
        exact h4 (w2 _ (List.mem_map.2 ⟨_, List.getElem_mem _, rfl⟩))

def Rdr.map {T : TypeId} {α β : Type} (r : Rdr P T α) (f : α → β) (enc : β → List D) (ok : β → Prop) (he : ∀ x, enc (f x) = r.enc x) (hok : ∀ x, r.ok x → ok (f x)) (hl : ∀ y, (enc y).length = P.cellsOf T) : Rdr P T β where
  enc := enc
  ok := ok
  len := hl
  sound e w base spare held fuel cs x hx := by
    obtain ⟨y, h1, h2⟩ := r.sound e w base spare held fuel cs x hx
    exact ⟨f y, by rw [he]; exact h1, fun hl => hok y (h2 hl)⟩

/-- A slice, its elements' size named. -/
def Rdr.sliceN {T E : TypeId} {α : Type} (r : Rdr P E α) (n : Nat) (h : P.underlying T = some (.slice E)) (hc : P.cellsOf T = 1) (hn : P.cellsOf E = n) : Rdr P T (List α) where
  enc l := [.sl n (l.map r.enc)]
  ok l := (∀ x ∈ l, r.ok x) ∧ l.length * P.bytesOf E ≤ reachBytes
  len _ := by simp [hc]
  sound := by
    subst hn
    exact (Rdr.slice r h hc).sound

theorem list2 {α : Type} {l : List α} (h : l.length = 2) : l = [l[0]'(by omega), l[1]'(by omega)] := by
  match l, h with
  | [p, q], _ => rfl
theorem list3 {α : Type} {l : List α} (h : l.length = 3) : l = [l[0]'(by omega), l[1]'(by omega), l[2]'(by omega)] := by
  match l, h with
  | [p, q, r], _ => rfl

def Rdr.struct2 {T A B : TypeId} {α β : Type} (r : Rdr P A α) (s : Rdr P B β) {f0 f1 : Field} (h : P.underlying T = some (.struct #[f0, f1])) (hA : f0.type = A) (hB : f1.type = B) (h0 : f0.offset = 0) (h1 : f1.offset = P.cellsOf A)
    (hc : P.cellsOf T = P.cellsOf A + P.cellsOf B) : Rdr P T (α × β) where
  enc x := r.enc x.1 ++ s.enc x.2
  ok x := r.ok x.1 ∧ s.ok x.2
  len x := by simp [r.len, s.len, hc]
  sound e w base spare held fuel cs x hx := by
    obtain ⟨xs, n, rfl, rfl, hl, hxs, hat⟩ := DataW.trod_struct h hx
    have hxs' : xs.length = 2 := hxs
    have g0 := hat 0 f0 rfl
    have g1 := hat 1 f1 rfl
    have e0 : xs[0]? = some (xs[0]'(by omega)) := List.getElem?_eq_getElem (by omega)
    have e1 : xs[1]? = some (xs[1]'(by omega)) := List.getElem?_eq_getElem (by omega)
    rw [e0, h0, hA] at g0
    rw [e1, h1, hB] at g1
    obtain ⟨y, k1, k2⟩ := r.sound e w base spare held n _ _ g0
    obtain ⟨z, m1, m2⟩ := s.sound e w base spare held n _ _ g1
    refine ⟨(y, z), ?_, fun hli => ?_⟩
    rotate_left
    · unfold Light at hli k2 m2
      have e2 : xs = [xs[0]'(by omega), xs[1]'(by omega)] := list2 hxs'
      rw [e2] at hli
      simp only [List.map_cons, List.map_nil, DataW.weights, h, DataW.weightsEach, hA, hB, List.all_append, Bool.and_eq_true] at hli
      exact ⟨k2 hli.1, m2 hli.2.1⟩
    have hcs : cs = (cs.drop 0).take (P.cellsOf A) ++ (cs.drop (P.cellsOf A)).take (P.cellsOf B) := by
      have : (cs.drop (P.cellsOf A)).take (P.cellsOf B) = cs.drop (P.cellsOf A) := List.take_of_length_le (by simp; omega)
      rw [this, List.drop_zero, List.take_append_drop]
    rw [hcs]
    exact k1.append m1

def Rdr.struct3 {T A B C : TypeId} {α β γ : Type} (r : Rdr P A α) (s : Rdr P B β) (t : Rdr P C γ) {f0 f1 f2 : Field} (h : P.underlying T = some (.struct #[f0, f1, f2])) (hA : f0.type = A) (hB : f1.type = B) (hC : f2.type = C)
    (h0 : f0.offset = 0) (h1 : f1.offset = P.cellsOf A) (h2 : f2.offset = P.cellsOf A + P.cellsOf B) (hc : P.cellsOf T = P.cellsOf A + P.cellsOf B + P.cellsOf C) : Rdr P T (α × β × γ) where
  enc x := r.enc x.1 ++ (s.enc x.2.1 ++ t.enc x.2.2)
  ok x := r.ok x.1 ∧ s.ok x.2.1 ∧ t.ok x.2.2
  len x := by simp [r.len, s.len, t.len, hc]; omega
  sound e w base spare held fuel cs x hx := by
    obtain ⟨xs, n, rfl, rfl, hl, hxs, hat⟩ := DataW.trod_struct h hx
    have hxs' : xs.length = 3 := hxs
    have g0 := hat 0 f0 rfl
    have g1 := hat 1 f1 rfl
    have g2 := hat 2 f2 rfl
    have e0 : xs[0]? = some (xs[0]'(by omega)) := List.getElem?_eq_getElem (by omega)
    have e1 : xs[1]? = some (xs[1]'(by omega)) := List.getElem?_eq_getElem (by omega)
    have e2 : xs[2]? = some (xs[2]'(by omega)) := List.getElem?_eq_getElem (by omega)
    rw [e0, h0, hA] at g0
    rw [e1, h1, hB] at g1
    rw [e2, h2, hC] at g2
    obtain ⟨y, k1, k2⟩ := r.sound e w base spare held n _ _ g0
    obtain ⟨z, m1, m2⟩ := s.sound e w base spare held n _ _ g1
    obtain ⟨q, p1, p2⟩ := t.sound e w base spare held n _ _ g2
    refine ⟨(y, z, q), ?_, fun hli => ?_⟩
    rotate_left
    · unfold Light at hli k2 m2 p2
      have e2 : xs = [xs[0]'(by omega), xs[1]'(by omega), xs[2]'(by omega)] := list3 hxs'
      rw [e2] at hli
      simp only [List.map_cons, List.map_nil, DataW.weights, h, DataW.weightsEach, hA, hB, hC, List.all_append, Bool.and_eq_true] at hli
      exact ⟨k2 hli.1, m2 hli.2.1, p2 hli.2.2.1⟩
    have hcs : cs = (cs.drop 0).take (P.cellsOf A) ++ ((cs.drop (P.cellsOf A)).take (P.cellsOf B) ++ (cs.drop (P.cellsOf A + P.cellsOf B)).take (P.cellsOf C)) := by
      have : (cs.drop (P.cellsOf A + P.cellsOf B)).take (P.cellsOf C) = cs.drop (P.cellsOf A + P.cellsOf B) := List.take_of_length_le (by simp; omega)
      rw [this, ← List.drop_drop, List.take_append_drop, List.drop_zero, List.take_append_drop]
    rw [hcs]
    exact k1.append (m1.append p1)

/-! ### The start -/
def G0 : Gh := ⟨fun _ => none, fun _ => none, fun _ => .whole, 0⟩
def m0 : AMem := ⟨fun _ => none, 0, fun _ => false, 0⟩
theorem G0_ps (a : Addr) : G0.ps a := trivial
theorem relM_start (W : World) : RelM G0 m0 W := by
  constructor
  case box => intro k rows b sz h; cases h
  case nobox => intro k _; rfl
  case inj => intro k k' b sz sz' h; cases h
  case nb => intro k _; rfl
  case nt => rfl
  case toks => intro t h; cases h
  case tokb => intro t g h; cases h
  case tinj => intro t t' g h; cases h
  case tnt => intro t x h; cases h
  case fresh => intro b _; rfl

theorem RVd.start {W : World} {d : D} {v : Value} (h : RVd W.cell? (fun _ => True) d v) : RVd W.cell? G0.ps d v := h.mono fun a u _ hc => ⟨G0_ps a, hc⟩

/-- A struct that came in. -/
theorem Rdr.agg {T : TypeId} {α : Type} (r : Rdr P T α) {W : World} {base base' : Nat} {sp : Nat → Bool} {held : Bool} {H : Type} {enc : TypeId × Value → H} {v : Value} {d : DataW H} {p : List MemPlace}
    (hs : aggT P T = some true) (hv : Value.okWide P W .any base T v) (h : DataW.Trod enc P W base' sp held T v d p) (hli : Light P T d) : ∃ y, r.ok y ∧ RV G0 W (.agg ((r.enc y).map .d)) v := by
  have hcs : ∃ cs, v = .agg cs := by
    unfold aggT at hs
    unfold Value.okWide at hv
    cases hu : P.underlying T with
    | none => rw [hu] at hs; simp at hs
    | some u =>
      rw [hu] at hs hv
      cases u <;> simp at hs hv <;> exact ⟨_, hv.choose_spec.1⟩
  obtain ⟨cs, rfl⟩ := hcs
  obtain ⟨fuel, h⟩ := h
  obtain ⟨y, ⟨h1, h2⟩, hok⟩ := r.sound enc W base' sp held fuel _ _ h
  refine ⟨y, hok hli, ?_⟩
  simp only [Value.cells] at h1 h2
  have := RV.agg (G := G0) (w := W) (cs := (r.enc y).map .d) (vs := cs.toList) (by simp [h1]) (fun i g1 g2 => by
    simp only [List.getElem_map]
    exact .d (h2 i g2 (by simpa using g1)).start) (fun v hv => by
    obtain ⟨i, hi, rfl⟩ := List.getElem_of_mem hv
    exact (h2 i hi (by omega)).one)
  simpa using this

theorem light_arg {H : Type} {ts : List TypeId} {ds : List (DataW H)} (hz : (DataW.weightsEach P ts ds).all (· ≤ reachBytes) = true) {j : Nat} {T : TypeId} {d : DataW H} (ht : ts[j]? = some T) (hd : ds[j]? = some d) : Light P T d :=
  List.all_eq_true.2 fun x hx => List.all_eq_true.1 hz x (DataW.weights_mem_each ht hd x hx)

theorem arg_agg {ps : Array TypeId} {args : Array Value} {W : World} {base base' : Nat} {sp : Nat → Bool} {held : Bool} {H : Type} {enc : TypeId × Value → H} (hval : ∀ (j : Nat) t v, ps[j]? = some t → args[j]? = some v → Value.okWide P W .any base t v)
    (j : Nat) (T : TypeId) (v : Value) (hp : ps[j]? = some T) (ha : args[j]? = some v) {α : Type} (r : Rdr P T α) {d : DataW H} {p : List MemPlace} (hs : aggT P T = some true) (h : DataW.Trod enc P W base' sp held T v d p) (hli : Light P T d) :
    ∃ y, r.ok y ∧ RV G0 W (.agg ((r.enc y).map .d)) v := r.agg hs (hval j T v hp ha) h hli
/-! ### The end -/
theorem le_old {W W' : World} {G' : Gh} (h : Le G0 W G' W') (b : Nat) (hb : b < W.heap.size) : W'.heap[b]? = W.heap[b]? := (h.whole b hb rfl).2
theorem le_kept {W W' : World} {G' : Gh} (h : Le G0 W G' W') (may : MemPlace → Prop) : W.keptBut W' may := by
  refine ⟨h.os, h.output, fun i hi => ?_⟩
  rw [le_old h i hi]
  split
  · rename_i c t fr c' t' fr' e1 e2
    rw [e1] at e2
    cases e2
    exact ⟨rfl, rfl, rfl, fun _ _ => rfl⟩
  · rename_i e1 e2
    rw [e1] at e2
    cases e2
    exact .inr ⟨rfl, rfl⟩
  · rfl
theorem le_same {W W' : World} {G' : Gh} (h : Le G0 W G' W') {p : MemPlace} (hp : p.block < W.heap.size) : W.sameAt W' p := by
  cases p with
  | cell b off => exact World.cell?_of_block (w := W) (a := ⟨b, off, none⟩) (le_old h b hp)
  | map b => exact le_old h b hp
theorem trodAll_stays {H : Type} {enc : TypeId × Value → H} {W W' : World} {T : TypeId → Prop} {sp' : Nat → Bool} (K : Kids P T) (hsz : ∀ {t e : TypeId}, T t → P.underlying t = some (.slice e) → 0 < P.cellsOf e) :
    ∀ {ts : List TypeId} {vs : List Value} {ds : List (DataW H)} {ps : List MemPlace}, (∀ t ∈ ts, T t) → DataW.TrodAll enc P W 0 (fun _ => true) true ts vs ds ps → (∀ p ∈ ps, W.sameAt W' p) → (∀ p ∈ ps, sp' p.block = true) →
    DataW.TrodAll enc P W' 0 sp' true ts vs ds ps
  | [], [], [], _, _, h, _, _ => h
  | t :: ts, v :: vs, d :: ds, _, hT, ⟨p, q, ⟨n, hn⟩, h2, e⟩, h3, h4 => by
    subst e
    exact ⟨p, q, ⟨n, DataW.trod_stays K hsz (fun h => by cases h) (hT t (by simp)) hn (fun x hx => h3 x (by simp [hx])) (fun x hx => h4 x (by simp [hx]))⟩,
      trodAll_stays K hsz (fun t ht => hT t (by simp [ht])) h2 (fun x hx => h3 x (by simp [hx])) (fun x hx => h4 x (by simp [hx])), rfl⟩

/-- A law: its contract says that it returns true. -/
theorem law_of {f : FuncId} {fn : Func} {s : ChangeSpec} {H : Type} {enc : TypeId × Value → H} {W : World} {args : Array Value} {ds : List (DataW H)} {before : List MemPlace} {avs : List AV} {tok' : Nat → Bool} {nt' : Nat}
    (hl : laidOutB P = true) (hm : mapsRowed P = true) (hz : ((List.range P.types.size).all fun t => match P.underlying t with | some (.slice e) => decide (0 < P.cellsOf e) | _ => true) = true)
    (hpar : fn.params.all (· < P.types.size) = true) {tb : TypeId} (hres : fn.resultTypes = #[tb]) (hb : P.underlying tb = some .bool)
    (hvars : s.vars = []) (hfn : s.fn H ds = { results := [.lit (.bool true)], args := ds })
    (hW : DataW.Whole enc P fn.params.toList s.vars false W args.toList ds [] before) (hr : RVs G0 W avs args.toList) (hc : DCall P f avs (fun _ => false) 0 (B true) tok' nt') :
    Calls P f args W fun e W' => ∃ v, e = .returned v ∧ s.post enc P fn false true false false W args v W' := by
  have hcall := (hc (fun _ => none) 0).2 G0 W args.toList (relM_start W) hr
  simp only [Array.toArray_toList] at hcall
  refine hcall.mono ?_
  rintro e W' ⟨v, av, m', G', rfl, ⟨rfl, rfl⟩, _, _, hv, hle, _⟩
  cases hv with
  | d hv =>
    cases hv with
    | raw =>
      refine ⟨_, rfl, ?_⟩
      have hlt := hW.lt
      have hWW := hW
      obtain ⟨p, q, hA, hV, rfl, hfz, hnd⟩ := hW
      rw [hvars] at hV
      obtain ⟨_, rfl⟩ := trodVars_none hV
      simp only [List.append_nil] at hlt hfz hWW ⊢
      have hT : ∀ t ∈ fn.params.toList, t < P.types.size := fun t ht => by
        have := Array.all_eq_true_iff_forall_mem.1 hpar t (by simpa using ht)
        simpa using this
      have hsz : ∀ {t e : TypeId}, t < P.types.size → P.underlying t = some (.slice e) → 0 < P.cellsOf e := by
        intro t e ht hu
        have := List.all_eq_true.1 hz t (List.mem_range.2 ht)
        rw [hu] at this
        simpa using this
      have hargs : ∀ sp : Nat → Bool, (∀ x ∈ p, sp x.block = true) → DataW.TrodAll enc P W' 0 sp true fn.params.toList args.toList ds p := fun sp hsp =>
        trodAll_stays (kids_rows hl hm) hsz hT hA (fun x hx => le_same hle (hlt x hx)) hsp
      have hnat : (Value.bool true).resultList fn.resultTypes.size = [.bool true] := by rw [hres]; rfl
      have hresb : ∀ (b : Nat) (sp : Nat → Bool) (hd : Bool), DataW.TrodAll enc P W' b sp hd fn.resultTypes.toList ((Value.bool true).resultList fn.resultTypes.size) [.lit (.bool true)] [] := fun b sp hd => by
        rw [hnat, hres]
        exact trodAll_mk1 ⟨1, by simp [DataW.trod, hb, Value.cells]⟩
      have hfn' : s.fn H (ds ++ []) = { results := [.lit (.bool true)], args := ds } := by rw [List.append_nil]; exact hfn
      refine ⟨ds, [], p, [], p, [], hWW, ?_, ?_, ?_, World.keptBut_mono (fun _ f => f.elim) (le_kept hle fun _ => False), fun h => by cases h⟩
      · rw [hfn']; exact hresb _ _ _
      · rw [hfn']; exact hargs _ fun x hx => by simpa using hlt x hx
      · rw [hfn', hvars]; exact rfl
end Go.AM
/-
  What the arguments of this chapter's statements read as: graphs, morphisms, overlaps.
-/
namespace Go.AM
open Go Go.Proofs

theorem own0 : ownKnob Tryz.prog.godebug = none := by kernel_rfl
theorem laidOut0 : laidOutB Tryz.prog = true := by kernel_rfl
theorem mapsRowed0 : mapsRowed Tryz.prog = true := by kernel_rfl
theorem slices0 : ((List.range Tryz.prog.types.size).all fun t => match Tryz.prog.underlying t with | some (.slice e) => decide (0 < Tryz.prog.cellsOf e) | _ => true) = true := by kernel_rfl

def rdInt : Rdr Tryz.prog 3 Int := Rdr.int (k := .i64) Tryz.underlying3 (by kernel_rfl)
def rdInts : Rdr Tryz.prog 22 (List Int) := rdInt.sliceN 1 Tryz.underlying22 (by kernel_rfl) (by kernel_rfl)
def rdEdge0 : Rdr Tryz.prog 62 (Int × Int × Int) := Rdr.struct3 rdInt rdInt rdInt Tryz.underlying62 rfl rfl rfl rfl (by kernel_rfl) (by kernel_rfl) (by kernel_rfl)
def rdEdge : Rdr Tryz.prog 62 E := rdEdge0.map (fun x => ⟨x.1, x.2.1, x.2.2⟩) E.cells (fun _ => True) (fun _ => rfl) (fun _ _ => trivial) (fun _ => by kernel_rfl)
def rdEdges : Rdr Tryz.prog 23 (List E) := rdEdge.sliceN 3 Tryz.underlying23 (by kernel_rfl) (by kernel_rfl)
def rdGraph0 : Rdr Tryz.prog 25 (List Int × List E) := Rdr.struct2 rdInts rdEdges Tryz.underlying25 rfl rfl rfl (by kernel_rfl) (by kernel_rfl)
def rdGraph : Rdr Tryz.prog 25 Gr := rdGraph0.map (fun x => ⟨x.1, x.2⟩) (fun g => [ints g.nodes, AM.edges g.edges]) (fun _ => True) (fun _ => rfl) (fun _ _ => trivial) (fun _ => by kernel_rfl)

set_option maxRecDepth 100000 in
theorem arg_graph {ps : Array TypeId} {args : Array Value} {W : World} {base base' : Nat} {sp : Nat → Bool} {held : Bool} {H : Type} {enc : TypeId × Value → H} (hval : ∀ (j : Nat) t v, ps[j]? = some t → args[j]? = some v → Value.okWide Tryz.prog W .any base t v)
    (j : Nat) (v : Value) (hp : ps[j]? = some 25) (ha : args[j]? = some v) {d : DataW H} {p : List MemPlace} (h : DataW.Trod enc Tryz.prog W base' sp held 25 v d p) (hli : Light Tryz.prog 25 d) : ∃ g : Gr, RV G0 W g.av v := by
  refine Exists.elim (arg_agg hval j 25 v hp ha rdGraph aggT_25 h hli) fun g hg => ⟨g, ?_⟩
  exact hg.2
end Go.AM
/-
  What a condition reads as.
-/
namespace Go.AM
open Go Go.Proofs Go.ChangeShapes
set_option linter.unusedSimpArgs false
set_option linter.unusedVariables false

/-- How the cells of a type read as data, where the reading may go so deep. -/
structure RdF (P : Program) (T : TypeId) {α : Type} (en : α → List D) (ok : α → Prop) (n : Nat) : Prop where
  sound : ∀ {H : Type} (e : TypeId × Value → H) (w : World) (base : Nat) (spare : Nat → Bool) (held : Bool) (cs : List Value) (x : DataW H × List MemPlace),
    DataW.trod e P w base spare held n T cs = some x → ∃ y, Rd w cs (en y) ∧ (Light P T x.1 → ok y)
theorem Rdr.f {P : Program} {T : TypeId} {α : Type} (r : Rdr P T α) (n : Nat) : RdF P T r.enc r.ok n := ⟨fun e w base spare held cs x hx => r.sound e w base spare held n cs x hx⟩
theorem RdF.zero {P : Program} {T : TypeId} {α : Type} {en : α → List D} {ok : α → Prop} : RdF P T en ok 0 := ⟨fun e w base spare held cs x hx => by simp [DataW.trod] at hx⟩
def Rdr.ofF {P : Program} {T : TypeId} {α : Type} (en : α → List D) (ok : α → Prop) (len : ∀ x, (en x).length = P.cellsOf T) (h : ∀ n, RdF P T en ok n) : Rdr P T α := ⟨en, ok, len, fun e w base spare held n cs x hx => (h n).sound e w base spare held cs x hx⟩

theorem RdF.slice {P : Program} {T E : TypeId} {α : Type} {en : α → List D} {ok : α → Prop} {n : Nat} (r : RdF P E en ok n) (k : Nat) (hk : P.cellsOf E = k) (hlen : ∀ x, (en x).length = k) (h : P.underlying T = some (.slice E)) :
    RdF P T (fun l : List α => [.sl k (l.map en)]) (fun l => (∀ x ∈ l, ok x) ∧ l.length * P.bytesOf E ≤ reachBytes) (n + 1) := by
  subst hk
  constructor
  intro H e w base spare held cs x hx
  rcases DataW.trod_slice h hx with ⟨rfl, rfl⟩ | ⟨a, len, cap, elems, rest, n', hn', rfl, rfl, hb, hl, hm, hel, hat, _⟩
  · exact ⟨[], Rd.one (.sl (es := []) (fun _ _ => default) (Nat.le_refl _) (by decide) (by simp) (by simp) (by simp) (by simp)), fun _ => ⟨by simp, by simp⟩⟩
  · obtain rfl : n' = n := by omega
    have key : ∀ i (hi : i < elems.length), ∃ cs y, cs.length = P.cellsOf E ∧ (∀ j (hj : j < cs.length), w.cell? (a.add (i * P.cellsOf E + j)) = some cs[j]) ∧ Rd w cs (en y) ∧ (Light P E elems[i].1 → ok y) := by
      intro i hi
      have h1 := hat i (by omega)
      have h2 : elems[i]? = some elems[i] := List.getElem?_eq_getElem hi
      rw [h2, Option.bind_eq_some_iff] at h1
      obtain ⟨cs, hcs, htr⟩ := h1
      obtain ⟨hcl, hcc⟩ := cells_spec hcs
      obtain ⟨y, hy, hok⟩ := r.sound e w base spare held cs _ htr
      refine ⟨cs, y, hcl, fun j hj => ?_, hy, hok⟩
      rw [← Addr.add_add]
      exact hcc j hj
    have pick : ∀ m, m ≤ elems.length → ∃ ys : List α, ys.length = m ∧ (∀ i (hi : i < ys.length) (hi2 : i < elems.length), ∃ cs, cs.length = P.cellsOf E ∧ (∀ j (hj : j < cs.length), w.cell? (a.add (i * P.cellsOf E + j)) = some cs[j]) ∧ Rd w cs (en ys[i]) ∧ (Light P E elems[i].1 → ok ys[i])) := by
      intro m
      induction m with
      | zero => intro _; exact ⟨[], rfl, fun i hi => by simp at hi⟩
      | succ m ih =>
        intro hm'
        obtain ⟨ys, hys, hall⟩ := ih (by omega)
        obtain ⟨cs, y, g1, g2, g3, g4⟩ := key m (by omega)
        refine ⟨ys ++ [y], by simp [hys], fun i hi hi2 => ?_⟩
        by_cases him : i < ys.length
        · rw [List.getElem_append_left him]
          exact hall i him hi2
        · have : i = m := by simp at hi; omega
          subst this
          have e1 : (ys ++ [y])[i] = y := by
            rw [List.getElem_append_right (by omega)]
            simp
          rw [e1]
          exact ⟨cs, g1, g2, g3, g4⟩
    obtain ⟨ys, hys, hall⟩ := pick elems.length (Nat.le_refl _)
    refine ⟨ys, Rd.one ?_, fun hli => ?_⟩
    · have hlen' : len = ys.length := by omega
      subst hlen'
      have hml : ys.length = (ys.map en).length := by simp
      rw [hml]
      refine .sl (fun i j => (w.cell? (a.add (i * P.cellsOf E + j))).getD default) (by simpa using hl) hm (fun e he => ?_) (fun _ => ⟨a, rfl⟩) (fun a' ha' i j hi hj => ?_) (fun i j hi hj => ?_)
      · obtain ⟨y, _, rfl⟩ := List.mem_map.1 he
        exact hlen y
      · cases ha'
        obtain ⟨cs, g1, g2, _⟩ := hall i (by simpa using hi) (by simp at hi; omega)
        rw [g2 j (by omega)]
        exact ⟨trivial, rfl⟩
      · obtain ⟨cs, g1, g2, g3, _⟩ := hall i (by simpa using hi) (by simp at hi; omega)
        simp only [List.getElem_map] at hj ⊢
        have hjc : j < cs.length := by rw [g3.1]; exact hj
        rw [g2 j hjc]
        exact g3.2 j hjc hj
    · obtain ⟨w1, w2⟩ := light_slice h hli
      refine ⟨fun y hy => ?_, by simpa [hys] using w1⟩
      obtain ⟨i, hi, rfl⟩ := List.getElem_of_mem hy
      obtain ⟨_, _, _, _, h4⟩ := hall i hi (by omega)
      exact h4 (w2 _ (List.mem_map.2 ⟨_, List.getElem_mem _, rfl⟩))

theorem list4 {α : Type} {l : List α} (h : l.length = 4) : l = [l[0]'(by omega), l[1]'(by omega), l[2]'(by omega), l[3]'(by omega)] := by
  match l, h with
  | [p, q, r, s], _ => rfl

theorem RdF.struct4 {P : Program} {T A B C E : TypeId} {α β γ δ : Type} {ea : α → List D} {eb : β → List D} {ec : γ → List D} {ed : δ → List D} {oa : α → Prop} {ob : β → Prop} {oc : γ → Prop} {od : δ → Prop} {n : Nat}
    (r : RdF P A ea oa n) (s : RdF P B eb ob n) (t : RdF P C ec oc n) (u : RdF P E ed od n) {f0 f1 f2 f3 : Field} (h : P.underlying T = some (.struct #[f0, f1, f2, f3])) (hA : f0.type = A) (hB : f1.type = B) (hC : f2.type = C) (hE : f3.type = E)
    (h0 : f0.offset = 0) (h1 : f1.offset = P.cellsOf A) (h2 : f2.offset = P.cellsOf A + P.cellsOf B) (h3 : f3.offset = P.cellsOf A + P.cellsOf B + P.cellsOf C) (hc : P.cellsOf T = P.cellsOf A + P.cellsOf B + P.cellsOf C + P.cellsOf E) :
    RdF P T (fun x : α × β × γ × δ => ea x.1 ++ (eb x.2.1 ++ (ec x.2.2.1 ++ ed x.2.2.2))) (fun x => oa x.1 ∧ ob x.2.1 ∧ oc x.2.2.1 ∧ od x.2.2.2) (n + 1) := by
  constructor
  intro H e w base spare held cs x hx
  obtain ⟨xs, n', hn', rfl, hl, hxs, hat⟩ := DataW.trod_struct h hx
  obtain rfl : n' = n := by omega
  have hxs' : xs.length = 4 := hxs
  have g0 := hat 0 f0 rfl
  have g1 := hat 1 f1 rfl
  have g2 := hat 2 f2 rfl
  have g3 := hat 3 f3 rfl
  have e0 : xs[0]? = some (xs[0]'(by omega)) := List.getElem?_eq_getElem (by omega)
  have e1 : xs[1]? = some (xs[1]'(by omega)) := List.getElem?_eq_getElem (by omega)
  have e2 : xs[2]? = some (xs[2]'(by omega)) := List.getElem?_eq_getElem (by omega)
  have e3 : xs[3]? = some (xs[3]'(by omega)) := List.getElem?_eq_getElem (by omega)
  rw [e0, h0, hA] at g0
  rw [e1, h1, hB] at g1
  rw [e2, h2, hC] at g2
  rw [e3, h3, hE] at g3
  obtain ⟨y, k1, k2⟩ := r.sound e w base spare held _ _ g0
  obtain ⟨z, m1, m2⟩ := s.sound e w base spare held _ _ g1
  obtain ⟨q, p1, p2⟩ := t.sound e w base spare held _ _ g2
  obtain ⟨v, q1, q2⟩ := u.sound e w base spare held _ _ g3
  refine ⟨(y, z, q, v), ?_, fun hli => ?_⟩
  rotate_left
  · unfold Light at hli k2 m2 p2 q2
    have e2 : xs = [xs[0]'(by omega), xs[1]'(by omega), xs[2]'(by omega), xs[3]'(by omega)] := list4 hxs'
    rw [e2] at hli
    simp only [List.map_cons, List.map_nil, DataW.weights, h, DataW.weightsEach, hA, hB, hC, hE, List.all_append, Bool.and_eq_true] at hli
    exact ⟨k2 hli.1, m2 hli.2.1, p2 hli.2.2.1, q2 hli.2.2.2.1⟩
  have hcs : cs = (cs.drop 0).take (P.cellsOf A) ++ ((cs.drop (P.cellsOf A)).take (P.cellsOf B) ++ ((cs.drop (P.cellsOf A + P.cellsOf B)).take (P.cellsOf C) ++ (cs.drop (P.cellsOf A + P.cellsOf B + P.cellsOf C)).take (P.cellsOf E))) := by
    have : (cs.drop (P.cellsOf A + P.cellsOf B + P.cellsOf C)).take (P.cellsOf E) = cs.drop (P.cellsOf A + P.cellsOf B + P.cellsOf C) := List.take_of_length_le (by simp; omega)
    rw [this]
    have e3 := List.take_append_drop (P.cellsOf C) (cs.drop (P.cellsOf A + P.cellsOf B))
    have e2 := List.take_append_drop (P.cellsOf B) (cs.drop (P.cellsOf A))
    rw [List.drop_drop] at e3 e2
    rw [e3, e2, List.drop_zero, List.take_append_drop]
  rw [hcs]
  exact k1.append (m1.append (p1.append q1))

theorem by_int : Tryz.prog.bytesOf 3 = 8 := by kernel_rfl
theorem by_edge : Tryz.prog.bytesOf 62 = 24 := by kernel_rfl
theorem by_slot : Tryz.prog.bytesOf 76 = 32 := by kernel_rfl
theorem by_test : Tryz.prog.bytesOf 78 = 40 := by kernel_rfl
theorem by_cond : Tryz.prog.bytesOf 34 = 184 := by kernel_rfl
theorem rdInts_ok {l : List Int} (h : rdInts.ok l) : l.length ≤ bigN := by
  have h2 : l.length * Tryz.prog.bytesOf 3 ≤ reachBytes := h.2
  rw [by_int] at h2; unfold reachBytes at h2; rw [bigN_eq]; omega
theorem rdEdges_ok {l : List E} (h : rdEdges.ok l) : l.length ≤ bigN := by
  have h2 : l.length * Tryz.prog.bytesOf 62 ≤ reachBytes := h.2
  rw [by_edge] at h2; unfold reachBytes at h2; rw [bigN_eq]; omega
structure Gr.Big (g : Gr) : Prop where
  n : g.nodes.length ≤ bigN
  e : g.edges.length ≤ bigN
def rdGraphB : Rdr Tryz.prog 25 Gr := rdGraph0.map (fun x => ⟨x.1, x.2⟩) (fun g => [ints g.nodes, AM.edges g.edges]) Gr.Big (fun _ => rfl) (fun _ h => ⟨rdInts_ok h.1, rdEdges_ok h.2⟩) (fun _ => by kernel_rfl)
def rdMorph0 : Rdr Tryz.prog 28 (List Int × List Int) := Rdr.struct2 rdInts rdInts Tryz.underlying28 rfl rfl rfl (by kernel_rfl) (by kernel_rfl)
def rdTerm : Rdr Tryz.prog 74 (Int × Int) := Rdr.struct2 rdInt rdInt Tryz.underlying74 rfl rfl rfl (by kernel_rfl) (by kernel_rfl)
def rdSlot0 : Rdr Tryz.prog 76 (Int × Int × Int × Int) := Rdr.struct3 rdInt rdInt rdTerm Tryz.underlying76 rfl rfl rfl rfl (by kernel_rfl) (by kernel_rfl) (by kernel_rfl)
def rdSlot : Rdr Tryz.prog 76 Sl := rdSlot0.map (fun x => ⟨x.1, x.2.1, x.2.2.1, x.2.2.2⟩) Sl.cells (fun _ => True) (fun _ => rfl) (fun _ _ => trivial) (fun _ => by kernel_rfl)
def rdSlots : Rdr Tryz.prog 29 (List Sl) := rdSlot.sliceN 4 Tryz.underlying29 (by kernel_rfl) (by kernel_rfl)
def rdTest0 : Rdr Tryz.prog 78 (Int × (Int × Int) × (Int × Int)) := Rdr.struct3 rdInt rdTerm rdTerm Tryz.underlying78 rfl rfl rfl rfl (by kernel_rfl) (by kernel_rfl) (by kernel_rfl)
def rdTest : Rdr Tryz.prog 78 Te := rdTest0.map (fun x => ⟨x.1, x.2.1.1, x.2.1.2, x.2.2.1, x.2.2.2⟩) Te.cells (fun _ => True) (fun _ => rfl) (fun _ _ => trivial) (fun _ => by kernel_rfl)
def rdTests : Rdr Tryz.prog 30 (List Te) := rdTest.sliceN 5 Tryz.underlying30 (by kernel_rfl) (by kernel_rfl)
theorem rdPat_n (n : Nat) : RdF Tryz.prog 32 (fun x : Gr × List Sl × Int × List Te => rdGraphB.enc x.1 ++ (rdSlots.enc x.2.1 ++ (rdInt.enc x.2.2.1 ++ rdTests.enc x.2.2.2))) (fun x => rdGraphB.ok x.1 ∧ rdSlots.ok x.2.1 ∧ rdInt.ok x.2.2.1 ∧ rdTests.ok x.2.2.2) n := by
  cases n with
  | zero => exact .zero
  | succ n => exact RdF.struct4 (rdGraphB.f n) (rdSlots.f n) (rdInt.f n) (rdTests.f n) Tryz.underlying32 rfl rfl rfl rfl rfl (by kernel_rfl) (by kernel_rfl) (by kernel_rfl) (by kernel_rfl)
def rdPat : Rdr Tryz.prog 32 (Gr × List Sl × Int × List Te) := Rdr.ofF _ _ (fun x => by simp [rdGraphB.len, rdSlots.len, rdInt.len, rdTests.len]; kernel_rfl) rdPat_n

theorem rdCd_n : ∀ n, RdF Tryz.prog 34 Cd.cells Cd.Big n
  | 0 => .zero
  | 1 => by
    constructor
    intro H e w base spare held cs x hx
    obtain ⟨xs, n', hn', rfl, hl, hxs, hat⟩ := DataW.trod_struct Tryz.underlying34 hx
    obtain rfl : n' = 0 := by omega
    have g0 := hat 0 _ rfl
    simp [DataW.trod] at g0
    subst g0
    simp at hxs
  | n + 2 => by
    have ih := rdCd_n n
    have hk := ih.slice 9 (by kernel_rfl) (fun c => by rw [c.cells_eq]; rfl) (T := 26) Tryz.underlying26
    have hs := RdF.struct4 (rdInt.f (n + 1)) hk (rdMorph0.f (n + 1)) (rdPat.f (n + 1)) Tryz.underlying34 rfl rfl rfl rfl rfl (by kernel_rfl) (by kernel_rfl) (by kernel_rfl) (by kernel_rfl)
    constructor
    intro H e w base spare held cs x hx
    obtain ⟨y, h1, h2⟩ := hs.sound e w base spare held cs x hx
    refine ⟨.mk y.1 y.2.1 ⟨y.2.2.1.1, y.2.2.1.2⟩ y.2.2.2.1 y.2.2.2.2.1 y.2.2.2.2.2.1 y.2.2.2.2.2.2, ?_, fun hli => ?_⟩
    · rw [Cd.cells_eq]
      exact h1
    · obtain ⟨_, ⟨k1, k2⟩, ⟨m1, m2⟩, g1, s1, _, t1⟩ := h2 hli
      have g2 : y.2.2.2.1.Big := g1
      have s2 : y.2.2.2.2.1.length * Tryz.prog.bytesOf 76 ≤ reachBytes := s1.2
      have t2 : y.2.2.2.2.2.2.length * Tryz.prog.bytesOf 78 ≤ reachBytes := t1.2
      rw [by_slot] at s2
      rw [by_test] at t2
      rw [by_cond] at k2
      unfold reachBytes at s2 t2 k2
      exact .mk (by rw [kidN_eq]; simp only [Cd.kids]; omega) (rdInts_ok m1) (rdInts_ok m2) g2.n g2.e (by rw [bigN_eq]; simp only [Cd.sl]; omega) (by rw [bigN_eq]; simp only [Cd.te]; omega) k1
theorem rdCd_len (c : Cd) : c.cells.length = Tryz.prog.cellsOf 34 := by rw [c.cells_eq]; kernel_rfl
def rdCd : Rdr Tryz.prog 34 Cd := Rdr.ofF Cd.cells Cd.Big rdCd_len rdCd_n

set_option maxRecDepth 100000 in
theorem arg_cond {ps : Array TypeId} {args : Array Value} {W : World} {base base' : Nat} {sp : Nat → Bool} {held : Bool} {H : Type} {enc : TypeId × Value → H} (hval : ∀ (j : Nat) t v, ps[j]? = some t → args[j]? = some v → Value.okWide Tryz.prog W .any base t v)
    (j : Nat) (v : Value) (hp : ps[j]? = some 34) (ha : args[j]? = some v) {d : DataW H} {p : List MemPlace} (h : DataW.Trod enc Tryz.prog W base' sp held 34 v d p) (hli : Light Tryz.prog 34 d) : ∃ c : Cd, c.Big ∧ RV G0 W c.av v := by
  refine Exists.elim (arg_agg hval j 34 v hp ha rdCd aggT_34 h hli) fun c hc => ⟨c, hc.1, ?_⟩
  have h2 : RV G0 W (.agg (c.cells.map .d)) v := hc.2
  rw [c.cells_eq] at h2
  exact h2
end Go.AM
/-
  Readers of arrows.
-/
namespace Go.AM
open Go Go.Proofs Go.ChangeShapes
set_option linter.unusedSimpArgs false
set_option linter.unusedVariables false

end Go.AM
