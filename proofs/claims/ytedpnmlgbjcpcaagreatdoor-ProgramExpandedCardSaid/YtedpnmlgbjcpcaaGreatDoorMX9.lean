/-
  Parts of the proof, as merged from many texts: a machine over data, what the functions compute, plain laws.
-/
import Derived.Test.YtedpnmlgbjcpcaaGreatDoorMX8
import Derived.WalkKit
import Derived.ProofKit
import Derived.OpenShut
import Derived.ChangeStays
import Derived.SizedLaws
import Derived.LaidMore
import Derived.Sort.Walk0
import Derived.Shelf.RegionOpenPlain
import Derived.Deep.RegionWith
set_option linter.unusedSimpArgs false
set_option linter.unusedVariables false
namespace Go.AM
open Go Go.Proofs
theorem aw_uses : usesR exP [nMerge, nPay] nMain = ([nMerge, nPay], 0) := by kernel_rfl
theorem aw_exp : expandR exP nMain = (.mk 2 ⟨#[]⟩ 0 [cApply nPay, exLoop], 0) := by kernel_rfl
theorem aw_fmt : fmtR exP = (fmPs exP, 0) := by kernel_rfl
def awText : ByteArray := ⟨#[112, 114, 111, 99, 101, 100, 117, 114, 101, 32, 116, 105, 100, 121, 32, 123, 32, 108, 111, 111, 112, 32, 123, 32, 97, 112, 112, 108, 121, 32, 109, 101, 114, 103, 101, 32, 59, 32, 125, 32, 125, 32, 112, 114, 111, 99, 101, 100, 117, 114, 101, 32, 109, 97, 105, 110, 32, 123, 32, 97, 112, 112, 108, 121, 32, 112, 97, 121, 32, 59, 32, 99, 97, 108, 108, 32, 116, 105, 100, 121, 32, 59, 32, 125]⟩
def awPre : ByteArray := ⟨#[112, 114, 111, 99, 101, 100, 117, 114, 101, 32, 116, 105, 100, 121, 32, 123, 10, 32, 32, 108, 111, 111, 112, 32, 123, 10, 32, 32, 32, 32, 97, 112, 112, 108, 121, 32, 109, 101, 114, 103, 101, 32, 59, 10]⟩
theorem aw_parse : parseR awText = (exP, 0, 0) := by kernel_rfl
theorem aw_pre : Lib.hasPrefix (fmPs exP).data.toList awPre.data.toList = true := by kernel_rfl
theorem exP_ok : PrsOk exP := by
  refine ⟨by decide, ?_, ?_, ?_⟩
  · intro q hq
    simp only [exP, List.mem_cons, List.not_mem_nil, or_false] at hq
    rcases hq with rfl | rfl <;> decide
  · have h1 : ∀ s : ByteArray, s.size ≤ 200000000000000 → (cApply s).Sm := fun s h => .mk h (by show 0 ≤ _; omega) (fun x hx => by simp [cApply, Cm.kids] at hx)
    have h2 : (Cm.mk 10 nTidy 0 []).Sm := .mk (by decide) (by decide) (fun x hx => by simp [Cm.kids] at hx)
    intro q hq
    simp only [exP, List.mem_cons, List.not_mem_nil, or_false] at hq
    rcases hq with rfl | rfl
    · exact .mk (by decide) (by decide) (fun x hx => by simp [exLoop, Cm.kids] at hx; subst hx; exact h1 _ (by decide))
    · exact .mk (by decide) (by decide) (fun x hx => by
        simp [exMain, Cm.kids] at hx
        rcases hx with rfl | rfl
        · exact h1 _ (by decide)
        · exact h2)
  · intro q hq
    simp only [exP, List.mem_cons, List.not_mem_nil, or_false] at hq
    rcases hq with rfl | rfl <;> decide
theorem exLoop_cells : exLoop.cells = [lInt 5, lStr ⟨#[]⟩, lInt 0, cms [cApply nMerge]] := by rw [Cm.cells_eq]; rfl
set_option maxRecDepth 100000 in
theorem awake_c (tok : Nat → Bool) (nt : Nat) : DCall Tryz.prog 11 [] tok nt (B true) tok nt := by
  intro box nb
  refine sB Tryz.func11 Tryz.ntmps11 ?_
  intro hbox htok
  simp only at hbox htok
  apply AL.start
  try (simp)
  repeat (first | (refine sR ?_; simp) | (refine sC ?_; simp) | (refine sX ?_; simp only [AU, ↓reduceIte]))
  refine Stop.of_d (example_c _ _) ?_
  simp
  refine ⟨rfl, ?_⟩
  refine Stop.data ?_
  refine Stop.of_d (named_c [nMerge, nPay] (by decide) _ _) ?_
  simp
  have hu := uses_c exP [nMerge, nPay] nMain exP_ok (by decide)
  rw [aw_uses] at hu
  refine Stop.of_d (hu _ _) ?_
  simp
  try (simp)
  repeat (first | (refine sR ?_; simp) | (refine sC ?_; simp) | (refine sX ?_; simp only [AU, ↓reduceIte]))
  refine Stop.of_d (example_c _ _) ?_
  simp
  have he := expand_c exP nMain exP_ok
  rw [aw_exp] at he
  refine Stop.of_d (he _ _) ?_
  simp
  try (simp [Cm.kind, Cm.name, Cm.num, Cm.kids])
  repeat (first | (refine sR ?_; simp [Cm.kind, Cm.name, Cm.num, Cm.kids]) | (refine sC ?_; simp [Cm.kind, Cm.name, Cm.num, Cm.kids]) | (refine sX ?_; simp only [AU, ↓reduceIte]))
  refine Stop.of_d (example_c _ _) ?_
  simp
  have hf := format_c exP exP_ok
  rw [aw_fmt] at hf
  refine Stop.of_d (hf _ _) ?_
  simp
  try (simp)
  repeat (first | (refine sR ?_; simp) | (refine sC ?_; simp) | (refine sX ?_; simp only [AU, ↓reduceIte]))
  have hp := parse_c awText (by decide)
  rw [aw_parse] at hp
  refine Stop.of_d (hp _ _) ?_
  simp
  try (simp)
  repeat (first | (refine sR ?_; simp) | (refine sC ?_; simp) | (refine sX ?_; simp only [AU, ↓reduceIte]))
  refine ⟨rfl, ?_⟩
  refine Stop.data ?_
  refine Stop.of_d (equalS_c [nMerge, nPay] [nMerge, nPay] (by decide) (by decide) _ _) ?_
  simp
  try (simp [exLoop_cells])
  repeat (first | (refine sR ?_; simp [exLoop_cells]) | (refine sC ?_; simp [exLoop_cells]) | (refine sX ?_; simp only [AU, ↓reduceIte]))
  have hx := hasPrefix_c (fmPs exP) awPre
  rw [aw_pre] at hx
  refine Stop.of_d (hx _ _) ?_
  simp
  refine Stop.of_d (example_c _ _) ?_
  simp
  have hsm := same_c exP (by decide) exP_ok.bd
  refine Stop.of_d (hsm _ _) ?_
  simp
  try (simp)
  repeat (first | (refine sR ?_; simp) | (refine sC ?_; simp) | (refine sX ?_; simp only [AU, ↓reduceIte]))
  refine sT ?_
  try simp only [AU]
  refine ⟨by simp, sF hbox htok (fun _ h => h) (Nat.le_refl _) ?_⟩
  simp [packA]
end Go.AM
namespace Go.AM
open Go Go.Proofs
theorem fm_sm : ∀ (n : Nat) (c : Cm), c.size < n → c.size ≤ 1000000 → c.Fm → c.Sm
  | 0, c, h, _, _ => absurd h (Nat.not_lt_zero _)
  | n + 1, c, h, hz, hf => .mk (by have := hf.name; omega) (by have := c.kids_len; omega) fun x hx => fm_sm n x (by have := Cm.kid_size hx; omega) (by have := Cm.kid_size hx; omega) (hf.kid x hx)
theorem fault_ok {p : List Pr} {rs : List ByteArray} {asked : Bool} (h : (faultR p rs asked).2 = 0) : PrsOk p := by
  obtain ⟨hv, h20, h1, hpe⟩ := fault_valid h
  have hd := fault_depth hpe
  have hf := valid_fm hpe
  refine ⟨by omega, fun q hq => ?_, fun q hq => fm_sm _ _ (Nat.lt_succ_self _) (by have := (hd q hq).2.1; omega) (hf q hq), fun q hq => by have := (hd q hq).2.1; omega⟩
  have := nameB_size (hd q hq).2.2
  omega
end Go.AM
namespace Go.AM
open Go Go.ChangeShapes
variable {P : Program}
def Rd (w : World) (cs : List Value) (ds : List D) : Prop := cs.length = ds.length ∧ ∀ i (h1 : i < cs.length) (h2 : i < ds.length), RVd w.cell? (fun _ => True) ds[i] cs[i]
theorem Rd.append {w : World} {cs cs' : List Value} {ds ds' : List D} (h : Rd w cs ds) (k : Rd w cs' ds') : Rd w (cs ++ cs') (ds ++ ds') := by
  refine ⟨by simp [h.1, k.1], fun i h1 h2 => ?_⟩
  by_cases hi : i < cs.length
  · rw [List.getElem_append_left hi, List.getElem_append_left (by rw [← h.1]; exact hi)]
    exact h.2 i hi _
  · have hl := h.1
    rw [List.getElem_append_right (by omega), List.getElem_append_right (by omega)]
    have := k.2 (i - cs.length) (by simp at h1; omega) (by have := k.1; simp at h1; omega)
    simpa [hl] using this
theorem Rd.one {w : World} {c : Value} {d : D} (h : RVd w.cell? (fun _ => True) d c) : Rd w [c] [d] := ⟨rfl, fun i h1 h2 => by
  have : i = 0 := by simpa using h1
  subst this
  exact h⟩
def Light {H : Type} (P : Program) (T : TypeId) (d : DataW H) : Prop := (d.weights P T).all (· ≤ reachBytes) = true
structure Rdr (P : Program) (T : TypeId) (α : Type) where
  enc : α → List D
  ok : α → Prop
  len : ∀ x, (enc x).length = P.cellsOf T
  sound : ∀ {H : Type} (e : TypeId × Value → H) (w : World) (base : Nat) (spare : Nat → Bool) (held : Bool) (fuel : Nat) (cs : List Value) (x : DataW H × List MemPlace),
    DataW.trod e P w base spare held fuel T cs = some x → ∃ y, Rd w cs (enc y) ∧ (Light P T x.1 → ok y)
def Rdr.int {T : TypeId} {k : IntKind} (h : P.underlying T = some (.int k)) (hc : P.cellsOf T = 1) : Rdr P T Int where
  enc n := [.raw (.int k n)]
  ok n := (Lit.int k n).wf = true
  len _ := by simp [hc]
  sound e w base spare held fuel cs x hx := by
    cases fuel with
    | zero => simp [DataW.trod] at hx
    | succ n =>
      unfold DataW.trod at hx
      rw [h] at hx
      split at hx <;> simp_all
      rename_i k' n' _
      exact ⟨n', Rd.one (.raw rfl), fun _ => hx.1.2⟩
theorem cells_spec {w : World} {base : Nat} {a : Addr} {n : Nat} {l : List Value} (h : w.cells? base a n = some l) : l.length = n ∧ ∀ i (hi : i < l.length), w.cell? (a.add i) = some l[i] := by
  unfold World.cells? at h
  split at h
  · have h1 : l.length = n := by have := mapM_some_length h; simpa using this
    refine ⟨h1, fun i hi => ?_⟩
    have hin : i < n := by omega
    have := mapM_some_get h i i (by simp [hin])
    rw [this]
    exact List.getElem?_eq_getElem hi
  · cases h
theorem light_slice {H : Type} {T E : TypeId} (h : P.underlying T = some (.slice E)) {elems rest : List (DataW H)} (hl : Light P T (.slice elems rest)) : elems.length * P.bytesOf E ≤ reachBytes ∧ ∀ d ∈ elems, Light P E d := by
  unfold Light at hl ⊢
  simp only [DataW.weights, h, List.all_cons, List.all_append, Bool.and_eq_true, decide_eq_true_eq] at hl
  refine ⟨Nat.le_trans (Nat.mul_le_mul_right _ (Nat.le_add_right _ _)) hl.1, ?_⟩
  have key : ∀ l : List (DataW H), (DataW.weightsAll P E l).all (· ≤ reachBytes) = true → ∀ d ∈ l, (d.weights P E).all (· ≤ reachBytes) = true := by
    intro l
    induction l with
    | nil => intro _ d hd; simp at hd
    | cons x l ih =>
      intro hx d hd
      simp only [DataW.weightsAll, List.all_append, Bool.and_eq_true] at hx
      rcases List.mem_cons.1 hd with rfl | hd
      · exact hx.1
      · exact ih hx.2 d hd
  exact key elems hl.2.1
def Rdr.slice {T E : TypeId} {α : Type} (r : Rdr P E α) (h : P.underlying T = some (.slice E)) (hc : P.cellsOf T = 1) : Rdr P T (List α) where
  enc l := [.sl (P.cellsOf E) (l.map r.enc)]
  ok l := (∀ x ∈ l, r.ok x) ∧ l.length * P.bytesOf E ≤ reachBytes
  len _ := by simp [hc]
  sound e w base spare held fuel cs x hx := by
    rcases DataW.trod_slice h hx with ⟨rfl, rfl⟩ | ⟨a, len, cap, elems, rest, n, rfl, rfl, rfl, hb, hl, hm, hel, hat, _⟩
    · exact ⟨[], Rd.one (.sl (es := []) (fun _ _ => default) (Nat.le_refl _) (by decide) (by simp) (by simp) (by simp) (by simp)), fun _ => ⟨by simp, by simp⟩⟩
    · have key : ∀ i (hi : i < elems.length), ∃ cs y, cs.length = P.cellsOf E ∧ (∀ j (hj : j < cs.length), w.cell? (a.add (i * P.cellsOf E + j)) = some cs[j]) ∧ Rd w cs (r.enc y) ∧ (Light P E elems[i].1 → r.ok y) := by
        intro i hi
        have h1 := hat i (by omega)
        have h2 : elems[i]? = some elems[i] := List.getElem?_eq_getElem hi
        rw [h2, Option.bind_eq_some_iff] at h1
        obtain ⟨cs, hcs, htr⟩ := h1
        obtain ⟨hcl, hcc⟩ := cells_spec hcs
        obtain ⟨y, hy, hok⟩ := r.sound e w base spare held n cs _ htr
        refine ⟨cs, y, hcl, fun j hj => ?_, hy, hok⟩
        rw [← Addr.add_add]
        exact hcc j hj
      have pick : ∀ m, m ≤ elems.length → ∃ ys : List α, ys.length = m ∧ (∀ i (hi : i < ys.length) (hi2 : i < elems.length), ∃ cs, cs.length = P.cellsOf E ∧ (∀ j (hj : j < cs.length), w.cell? (a.add (i * P.cellsOf E + j)) = some cs[j]) ∧ Rd w cs (r.enc ys[i]) ∧ (Light P E elems[i].1 → r.ok ys[i])) := by
        intro m
        induction m with
        | zero => intro _; exact ⟨[], rfl, fun i hi => by simp at hi⟩
        | succ m ih =>
          intro hm'
          obtain ⟨ys, hys, hall⟩ := ih (by omega)
          obtain ⟨cs, y, g1, g2, g3, g4⟩ := key m (by omega)
          refine ⟨ys ++ [y], by simp [hys], fun i hi hi2 => ?_⟩
          by_cases him : i < ys.length
          · rw [List.getElem_append_left him]
            exact hall i him hi2
          · have : i = m := by simp at hi; omega
            subst this
            have e1 : (ys ++ [y])[i] = y := by
              rw [List.getElem_append_right (by omega)]
              simp
            rw [e1]
            exact ⟨cs, g1, g2, g3, g4⟩
      obtain ⟨ys, hys, hall⟩ := pick elems.length (Nat.le_refl _)
      refine ⟨ys, Rd.one ?_, fun hli => ?_⟩
      · have hlen : len = ys.length := by omega
        subst hlen
        have hml : ys.length = (ys.map r.enc).length := by simp
        rw [hml]
        refine .sl (fun i j => (w.cell? (a.add (i * P.cellsOf E + j))).getD default) (by simpa using hl) hm (fun e he => ?_) (fun _ => ⟨a, rfl⟩) (fun a' ha' i j hi hj => ?_) (fun i j hi hj => ?_)
        · obtain ⟨y, _, rfl⟩ := List.mem_map.1 he
          exact r.len y
        · cases ha'
          obtain ⟨cs, g1, g2, _⟩ := hall i (by simpa using hi) (by simp at hi; omega)
          rw [g2 j (by omega)]
          exact ⟨trivial, rfl⟩
        · obtain ⟨cs, g1, g2, g3, _⟩ := hall i (by simpa using hi) (by simp at hi; omega)
          simp only [List.getElem_map] at hj ⊢
          have hjc : j < cs.length := by rw [g3.1]; exact hj
          rw [g2 j hjc]
          exact g3.2 j hjc hj
      · obtain ⟨w1, w2⟩ := light_slice h hli
        refine ⟨fun y hy => ?_, by simpa [hys] using w1⟩
        obtain ⟨i, hi, rfl⟩ := List.getElem_of_mem hy
        obtain ⟨_, _, _, _, h4⟩ := hall i hi (by omega)
        exact h4 (w2 _ (List.mem_map.2 ⟨_, List.getElem_mem _, rfl⟩))
def Rdr.map {T : TypeId} {α β : Type} (r : Rdr P T α) (f : α → β) (enc : β → List D) (ok : β → Prop) (he : ∀ x, enc (f x) = r.enc x) (hok : ∀ x, r.ok x → ok (f x)) (hl : ∀ y, (enc y).length = P.cellsOf T) : Rdr P T β where
  enc := enc
  ok := ok
  len := hl
  sound e w base spare held fuel cs x hx := by
    obtain ⟨y, h1, h2⟩ := r.sound e w base spare held fuel cs x hx
    exact ⟨f y, by rw [he]; exact h1, fun hl => hok y (h2 hl)⟩
def Rdr.sliceN {T E : TypeId} {α : Type} (r : Rdr P E α) (n : Nat) (h : P.underlying T = some (.slice E)) (hc : P.cellsOf T = 1) (hn : P.cellsOf E = n) : Rdr P T (List α) where
  enc l := [.sl n (l.map r.enc)]
  ok l := (∀ x ∈ l, r.ok x) ∧ l.length * P.bytesOf E ≤ reachBytes
  len _ := by simp [hc]
  sound := by
    subst hn
    exact (Rdr.slice r h hc).sound
def G0 : Gh := ⟨fun _ => none, fun _ => none, fun _ => .whole, 0⟩
def m0 : AMem := ⟨fun _ => none, 0, fun _ => false, 0⟩
theorem G0_ps (a : Addr) : G0.ps a := trivial
theorem relM_start (W : World) : RelM G0 m0 W := by
  constructor
  case box => intro k rows b sz h; cases h
  case nobox => intro k _; rfl
  case inj => intro k k' b sz sz' h; cases h
  case nb => intro k _; rfl
  case nt => rfl
  case toks => intro t h; cases h
  case tokb => intro t g h; cases h
  case tinj => intro t t' g h; cases h
  case tnt => intro t x h; cases h
  case fresh => intro b _; rfl
theorem RVd.start {W : World} {d : D} {v : Value} (h : RVd W.cell? (fun _ => True) d v) : RVd W.cell? G0.ps d v := h.mono fun a u _ hc => ⟨G0_ps a, hc⟩
theorem Rdr.agg {T : TypeId} {α : Type} (r : Rdr P T α) {W : World} {base base' : Nat} {sp : Nat → Bool} {held : Bool} {H : Type} {enc : TypeId × Value → H} {v : Value} {d : DataW H} {p : List MemPlace}
    (hs : aggT P T = some true) (hv : Value.okWide P W .any base T v) (h : DataW.Trod enc P W base' sp held T v d p) (hli : Light P T d) : ∃ y, r.ok y ∧ RV G0 W (.agg ((r.enc y).map .d)) v := by
  have hcs : ∃ cs, v = .agg cs := by
    unfold aggT at hs
    unfold Value.okWide at hv
    cases hu : P.underlying T with
    | none => rw [hu] at hs; simp at hs
    | some u =>
      rw [hu] at hs hv
      cases u <;> simp at hs hv <;> exact ⟨_, hv.choose_spec.1⟩
  obtain ⟨cs, rfl⟩ := hcs
  obtain ⟨fuel, h⟩ := h
  obtain ⟨y, ⟨h1, h2⟩, hok⟩ := r.sound enc W base' sp held fuel _ _ h
  refine ⟨y, hok hli, ?_⟩
  simp only [Value.cells] at h1 h2
  have := RV.agg (G := G0) (w := W) (cs := (r.enc y).map .d) (vs := cs.toList) (by simp [h1]) (fun i g1 g2 => by
    simp only [List.getElem_map]
    exact .d (h2 i g2 (by simpa using g1)).start) (fun v hv => by
    obtain ⟨i, hi, rfl⟩ := List.getElem_of_mem hv
    exact (h2 i hi (by omega)).one)
  simpa using this
theorem Rdr.cell {T : TypeId} {α : Type} (r : Rdr P T α) {W : World} {base base' : Nat} {sp : Nat → Bool} {held : Bool} {H : Type} {enc : TypeId × Value → H} {v : Value} {d : DataW H} {p : List MemPlace} (f : α → D)
    (hs : aggT P T = some false) (hf : ∀ y, r.enc y = [f y]) (hv : Value.okWide P W .any base T v) (h : DataW.Trod enc P W base' sp held T v d p) (hli : Light P T d) : ∃ y, r.ok y ∧ RV G0 W (.d (f y)) v := by
  obtain ⟨fuel, h⟩ := h
  obtain ⟨y, ⟨h1, h2⟩, hok⟩ := r.sound enc W base' sp held fuel _ _ h
  refine ⟨y, hok hli, ?_⟩
  rw [hf] at h1
  have hcs : v.cells.toList = [v] := by
    cases v with
    | agg cs =>
      exfalso
      unfold aggT at hs
      unfold Value.okWide Cell.okWide Cell.ok at hv
      cases hu : P.underlying T with
      | none => rw [hu] at hs; simp at hs
      | some u =>
        rw [hu] at hs hv
        cases u <;> simp_all
    | _ => rfl
  have := h2 0 (by rw [h1]; simp) (by rw [hf]; simp)
  simp only [hf, List.getElem_cons_zero] at this
  have e : v.cells.toList[0]'(by rw [h1]; simp) = v := by simp [hcs]
  rw [e] at this
  exact .d this.start
theorem light_arg {H : Type} {ts : List TypeId} {ds : List (DataW H)} (hz : (DataW.weightsEach P ts ds).all (· ≤ reachBytes) = true) {j : Nat} {T : TypeId} {d : DataW H} (ht : ts[j]? = some T) (hd : ds[j]? = some d) : Light P T d :=
  List.all_eq_true.2 fun x hx => List.all_eq_true.1 hz x (DataW.weights_mem_each ht hd x hx)
theorem arg_cell {ps : Array TypeId} {args : Array Value} {W : World} {base base' : Nat} {sp : Nat → Bool} {held : Bool} {H : Type} {enc : TypeId × Value → H} (hval : ∀ (j : Nat) t v, ps[j]? = some t → args[j]? = some v → Value.okWide P W .any base t v)
    (j : Nat) (T : TypeId) (v : Value) (hp : ps[j]? = some T) (ha : args[j]? = some v) {α : Type} (r : Rdr P T α) (f : α → D) {d : DataW H} {p : List MemPlace} (hs : aggT P T = some false) (hf : ∀ y, r.enc y = [f y]) (h : DataW.Trod enc P W base' sp held T v d p) (hli : Light P T d) :
    ∃ y, r.ok y ∧ RV G0 W (.d (f y)) v := r.cell f hs hf (hval j T v hp ha) h hli
theorem le_old {W W' : World} {G' : Gh} (h : Le G0 W G' W') (b : Nat) (hb : b < W.heap.size) : W'.heap[b]? = W.heap[b]? := (h.whole b hb rfl).2
theorem le_kept {W W' : World} {G' : Gh} (h : Le G0 W G' W') (may : MemPlace → Prop) : W.keptBut W' may := by
  refine ⟨h.os, h.output, fun i hi => ?_⟩
  rw [le_old h i hi]
  split
  · rename_i c t fr c' t' fr' e1 e2
    rw [e1] at e2
    cases e2
    exact ⟨rfl, rfl, rfl, fun _ _ => rfl⟩
  · rename_i e1 e2
    rw [e1] at e2
    cases e2
    exact .inr ⟨rfl, rfl⟩
  · rfl
theorem le_same {W W' : World} {G' : Gh} (h : Le G0 W G' W') {p : MemPlace} (hp : p.block < W.heap.size) : W.sameAt W' p := by
  cases p with
  | cell b off => exact World.cell?_of_block (w := W) (a := ⟨b, off, none⟩) (le_old h b hp)
  | map b => exact le_old h b hp
theorem trodAll_stays {H : Type} {enc : TypeId × Value → H} {W W' : World} {T : TypeId → Prop} {sp' : Nat → Bool} (K : Kids P T) (hsz : ∀ {t e : TypeId}, T t → P.underlying t = some (.slice e) → 0 < P.cellsOf e) :
    ∀ {ts : List TypeId} {vs : List Value} {ds : List (DataW H)} {ps : List MemPlace}, (∀ t ∈ ts, T t) → DataW.TrodAll enc P W 0 (fun _ => true) true ts vs ds ps → (∀ p ∈ ps, W.sameAt W' p) → (∀ p ∈ ps, sp' p.block = true) →
    DataW.TrodAll enc P W' 0 sp' true ts vs ds ps
  | [], [], [], _, _, h, _, _ => h
  | t :: ts, v :: vs, d :: ds, _, hT, ⟨p, q, ⟨n, hn⟩, h2, e⟩, h3, h4 => by
    subst e
    exact ⟨p, q, ⟨n, DataW.trod_stays K hsz (fun h => by cases h) (hT t (by simp)) hn (fun x hx => h3 x (by simp [hx])) (fun x hx => h4 x (by simp [hx]))⟩,
      trodAll_stays K hsz (fun t ht => hT t (by simp [ht])) h2 (fun x hx => h3 x (by simp [hx])) (fun x hx => h4 x (by simp [hx])), rfl⟩
theorem law_of {f : FuncId} {fn : Func} {s : ChangeSpec} {H : Type} {enc : TypeId × Value → H} {W : World} {args : Array Value} {ds : List (DataW H)} {before : List MemPlace} {avs : List AV} {tok' : Nat → Bool} {nt' : Nat}
    (hl : laidOutB P = true) (hm : mapsRowed P = true) (hz : ((List.range P.types.size).all fun t => match P.underlying t with | some (.slice e) => decide (0 < P.cellsOf e) | _ => true) = true)
    (hpar : fn.params.all (· < P.types.size) = true) {tb : TypeId} (hres : fn.resultTypes = #[tb]) (hb : P.underlying tb = some .bool)
    (hvars : s.vars = []) (hfn : s.fn H ds = { results := [.lit (.bool true)], args := ds })
    (hW : DataW.Whole enc P fn.params.toList s.vars false W args.toList ds [] before) (hr : RVs G0 W avs args.toList) (hc : DCall P f avs (fun _ => false) 0 (B true) tok' nt') :
    Calls P f args W fun e W' => ∃ v, e = .returned v ∧ s.post enc P fn false true false false W args v W' := by
  have hcall := (hc (fun _ => none) 0).2 G0 W args.toList (relM_start W) hr
  simp only [Array.toArray_toList] at hcall
  refine hcall.mono ?_
  rintro e W' ⟨v, av, m', G', rfl, ⟨rfl, rfl⟩, _, _, hv, hle, _⟩
  cases hv with
  | d hv =>
    cases hv with
    | raw =>
      refine ⟨_, rfl, ?_⟩
      have hlt := hW.lt
      have hWW := hW
      obtain ⟨p, q, hA, hV, rfl, hfz, hnd⟩ := hW
      rw [hvars] at hV
      obtain ⟨_, rfl⟩ := trodVars_none hV
      simp only [List.append_nil] at hlt hfz hWW ⊢
      have hT : ∀ t ∈ fn.params.toList, t < P.types.size := fun t ht => by
        have := Array.all_eq_true_iff_forall_mem.1 hpar t (by simpa using ht)
        simpa using this
      have hsz : ∀ {t e : TypeId}, t < P.types.size → P.underlying t = some (.slice e) → 0 < P.cellsOf e := by
        intro t e ht hu
        have := List.all_eq_true.1 hz t (List.mem_range.2 ht)
        rw [hu] at this
        simpa using this
      have hargs : ∀ sp : Nat → Bool, (∀ x ∈ p, sp x.block = true) → DataW.TrodAll enc P W' 0 sp true fn.params.toList args.toList ds p := fun sp hsp =>
        trodAll_stays (kids_rows hl hm) hsz hT hA (fun x hx => le_same hle (hlt x hx)) hsp
      have hnat : (Value.bool true).resultList fn.resultTypes.size = [.bool true] := by rw [hres]; rfl
      have hresb : ∀ (b : Nat) (sp : Nat → Bool) (hd : Bool), DataW.TrodAll enc P W' b sp hd fn.resultTypes.toList ((Value.bool true).resultList fn.resultTypes.size) [.lit (.bool true)] [] := fun b sp hd => by
        rw [hnat, hres]
        exact trodAll_mk1 ⟨1, by simp [DataW.trod, hb, Value.cells]⟩
      have hfn' : s.fn H (ds ++ []) = { results := [.lit (.bool true)], args := ds } := by rw [List.append_nil]; exact hfn
      refine ⟨ds, [], p, [], p, [], hWW, ?_, ?_, ?_, World.keptBut_mono (fun _ f => f.elim) (le_kept hle fun _ => False), fun h => by cases h⟩
      · rw [hfn']; exact hresb _ _ _
      · rw [hfn']; exact hargs _ fun x hx => by simpa using hlt x hx
      · rw [hfn', hvars]; exact rfl
end Go.AM
namespace Go.AM
open Go Go.ChangeShapes
structure RdF (P : Program) (T : TypeId) {α : Type} (en : α → List D) (ok : α → Prop) (n : Nat) : Prop where
  sound : ∀ {H : Type} (e : TypeId × Value → H) (w : World) (base : Nat) (spare : Nat → Bool) (held : Bool) (cs : List Value) (x : DataW H × List MemPlace),
    DataW.trod e P w base spare held n T cs = some x → ∃ y, Rd w cs (en y) ∧ (Light P T x.1 → ok y)
theorem Rdr.f {P : Program} {T : TypeId} {α : Type} (r : Rdr P T α) (n : Nat) : RdF P T r.enc r.ok n := ⟨fun e w base spare held cs x hx => r.sound e w base spare held n cs x hx⟩
theorem RdF.zero {P : Program} {T : TypeId} {α : Type} {en : α → List D} {ok : α → Prop} : RdF P T en ok 0 := ⟨fun e w base spare held cs x hx => by simp [DataW.trod] at hx⟩
theorem RdF.slice {P : Program} {T E : TypeId} {α : Type} {en : α → List D} {ok : α → Prop} {n : Nat} (r : RdF P E en ok n) (k : Nat) (hk : P.cellsOf E = k) (hlen : ∀ x, (en x).length = k) (h : P.underlying T = some (.slice E)) :
    RdF P T (fun l : List α => [.sl k (l.map en)]) (fun l => (∀ x ∈ l, ok x) ∧ l.length * P.bytesOf E ≤ reachBytes) (n + 1) := by
  subst hk
  constructor
  intro H e w base spare held cs x hx
  rcases DataW.trod_slice h hx with ⟨rfl, rfl⟩ | ⟨a, len, cap, elems, rest, n', hn', rfl, rfl, hb, hl, hm, hel, hat, _⟩
  · exact ⟨[], Rd.one (.sl (es := []) (fun _ _ => default) (Nat.le_refl _) (by decide) (by simp) (by simp) (by simp) (by simp)), fun _ => ⟨by simp, by simp⟩⟩
  · obtain rfl : n' = n := by omega
    have key : ∀ i (hi : i < elems.length), ∃ cs y, cs.length = P.cellsOf E ∧ (∀ j (hj : j < cs.length), w.cell? (a.add (i * P.cellsOf E + j)) = some cs[j]) ∧ Rd w cs (en y) ∧ (Light P E elems[i].1 → ok y) := by
      intro i hi
      have h1 := hat i (by omega)
      have h2 : elems[i]? = some elems[i] := List.getElem?_eq_getElem hi
      rw [h2, Option.bind_eq_some_iff] at h1
      obtain ⟨cs, hcs, htr⟩ := h1
      obtain ⟨hcl, hcc⟩ := cells_spec hcs
      obtain ⟨y, hy, hok⟩ := r.sound e w base spare held cs _ htr
      refine ⟨cs, y, hcl, fun j hj => ?_, hy, hok⟩
      rw [← Addr.add_add]
      exact hcc j hj
    have pick : ∀ m, m ≤ elems.length → ∃ ys : List α, ys.length = m ∧ (∀ i (hi : i < ys.length) (hi2 : i < elems.length), ∃ cs, cs.length = P.cellsOf E ∧ (∀ j (hj : j < cs.length), w.cell? (a.add (i * P.cellsOf E + j)) = some cs[j]) ∧ Rd w cs (en ys[i]) ∧ (Light P E elems[i].1 → ok ys[i])) := by
      intro m
      induction m with
      | zero => intro _; exact ⟨[], rfl, fun i hi => by simp at hi⟩
      | succ m ih =>
        intro hm'
        obtain ⟨ys, hys, hall⟩ := ih (by omega)
        obtain ⟨cs, y, g1, g2, g3, g4⟩ := key m (by omega)
        refine ⟨ys ++ [y], by simp [hys], fun i hi hi2 => ?_⟩
        by_cases him : i < ys.length
        · rw [List.getElem_append_left him]
          exact hall i him hi2
        · have : i = m := by simp at hi; omega
          subst this
          have e1 : (ys ++ [y])[i] = y := by
            rw [List.getElem_append_right (by omega)]
            simp
          rw [e1]
          exact ⟨cs, g1, g2, g3, g4⟩
    obtain ⟨ys, hys, hall⟩ := pick elems.length (Nat.le_refl _)
    refine ⟨ys, Rd.one ?_, fun hli => ?_⟩
    · have hlen' : len = ys.length := by omega
      subst hlen'
      have hml : ys.length = (ys.map en).length := by simp
      rw [hml]
      refine .sl (fun i j => (w.cell? (a.add (i * P.cellsOf E + j))).getD default) (by simpa using hl) hm (fun e he => ?_) (fun _ => ⟨a, rfl⟩) (fun a' ha' i j hi hj => ?_) (fun i j hi hj => ?_)
      · obtain ⟨y, _, rfl⟩ := List.mem_map.1 he
        exact hlen y
      · cases ha'
        obtain ⟨cs, g1, g2, _⟩ := hall i (by simpa using hi) (by simp at hi; omega)
        rw [g2 j (by omega)]
        exact ⟨trivial, rfl⟩
      · obtain ⟨cs, g1, g2, g3, _⟩ := hall i (by simpa using hi) (by simp at hi; omega)
        simp only [List.getElem_map] at hj ⊢
        have hjc : j < cs.length := by rw [g3.1]; exact hj
        rw [g2 j hjc]
        exact g3.2 j hjc hj
    · obtain ⟨w1, w2⟩ := light_slice h hli
      refine ⟨fun y hy => ?_, by simpa [hys] using w1⟩
      obtain ⟨i, hi, rfl⟩ := List.getElem_of_mem hy
      obtain ⟨_, _, _, _, h4⟩ := hall i hi (by omega)
      exact h4 (w2 _ (List.mem_map.2 ⟨_, List.getElem_mem _, rfl⟩))
end Go.AM
namespace Go.AM
open Go Go.Proofs Go.ChangeShapes
theorem own0 : ownKnob Tryz.prog.godebug = none := by kernel_rfl
theorem laidOut0 : laidOutB Tryz.prog = true := by kernel_rfl
theorem mapsRowed0 : mapsRowed Tryz.prog = true := by kernel_rfl
theorem slices0 : ((List.range Tryz.prog.types.size).all fun t => match Tryz.prog.underlying t with | some (.slice e) => decide (0 < Tryz.prog.cellsOf e) | _ => true) = true := by kernel_rfl
def Rdr.str {P : Program} {T : TypeId} (h : P.underlying T = some .string) (hc : P.cellsOf T = 1) : Rdr P T ByteArray where
  enc n := [.raw (.string n)]
  ok n := n.size ≤ reachBytes
  len _ := by simp [hc]
  sound e w base spare held fuel cs x hx := by
    cases fuel with
    | zero => simp [DataW.trod] at hx
    | succ n =>
      unfold DataW.trod at hx
      rw [h] at hx
      split at hx <;> simp_all
      refine ⟨_, Rd.one (.raw rfl), fun hli => ?_⟩
      obtain ⟨_, rfl⟩ := hx
      have := hli
      simp [Light, DataW.weights] at this
      exact this
def rdInt : Rdr Tryz.prog 3 Int := Rdr.int (k := .i64) Tryz.underlying3 (by kernel_rfl)
def rdU8 : Rdr Tryz.prog 5 Int := Rdr.int (k := .u8) Tryz.underlying5 (by kernel_rfl)
def rdU8s : Rdr Tryz.prog 60 (List Int) := rdU8.sliceN 1 Tryz.underlying60 (by kernel_rfl) (by kernel_rfl)
def rdU8ss : Rdr Tryz.prog 49 (List (List Int)) := rdU8s.sliceN 1 Tryz.underlying49 (by kernel_rfl) (by kernel_rfl)
theorem rch : reachBytes = 140737488351232 := rfl
end Go.AM
namespace Go.AM
open Go Go.Proofs
theorem expand_sm {p : List Pr} (s : ByteArray) (hp : PrsOk p) : (expandR p s).1.Sm := by
  unfold expandR
  split
  · exact zC_sm
  · split
    · exact zC_sm
    · split
      · exact zC_sm
      · rename_i h1 h2 _
        have hv := (fault_valid (Decidable.not_not.1 h1)).1
        have hrg := placeR_lt p s
        have hk := knR_ok hp hv ((placeR p s).toNat + 1) (by omega)
        exact hk.2.m _ (hk.2.get (by rw [hk.1]; omega))
end Go.AM
namespace Go.AM
open Go Go.Proofs
end Go.AM
namespace Go.AM
open Go Go.Proofs
end Go.AM
namespace Go.AM
open Go Go.Proofs
theorem usesR_len (p : List Pr) (rs : List ByteArray) (s : ByteArray) : (usesR p rs s).1.length ≤ rs.length := by
  unfold usesR
  split
  · simp
  · split
    · simp
    · rename_i h1 h2
      obtain ⟨hv, h20, h1p, hpe⟩ := fault_valid (Decidable.not_not.1 h1)
      have hir := valid_rules hpe
      have hrg := placeR_lt p s
      have hk := knU_ok hir ((placeR p s).toNat + 1) (by omega)
      have hl := knU_len (p := p) (n := (placeR p s).toNat + 1) (by omega)
      refine hk.len _ ?_
      rw [List.getD_eq_getElem?_getD, List.getElem?_eq_getElem (by omega)]
      exact List.getElem_mem _
end Go.AM
namespace Go.AM
open Go Go.Proofs
abbrev u8d (n : Int) : D := .raw (.int .u8 n)
abbrev byE (e : Nat) (l : List Int) : D := .sl e (l.map fun n => [u8d n])
def B8s (l : List Int) : Prop := ∀ c ∈ l, 0 ≤ c ∧ c < 256
abbrev mkRow (e : Nat) (cs : List Int) (rs : List ByteArray) (pr : Nat) : List AV := [.d (byE e cs), .d (strs rs), I pr]
theorem hd46_rng {cs : List Int} (h : B8s cs) : hd46 cs < 256 := by
  cases cs with
  | nil => decide
  | cons c r =>
    have := h c (by simp)
    show c.toNat < 256
    omega
theorem B8s.tail {cs : List Int} (h : B8s cs) : B8s cs.tail := fun c hc => h c (List.mem_of_mem_tail hc)
theorem next46_c (e : Nat) (cs : List Int) (he : cs = [] ∨ e = 1) (hc : B8s cs) (hl : cs.length ≤ 200000000000000) (rs : List ByteArray) (pr ks : Nat) (box : Nat → Option (List (List AV))) (hk : box ks = some [mkRow e cs rs pr]) (nb : Nat) (tok : Nat → Bool) (nt : Nat) :
    ACalls Tryz.prog 96 [.ptr ks 0 0] ⟨box, nb, tok, nt⟩ (QRd (I (hd46 cs)) (mkRow e cs.tail rs pr) ks box nb tok nt) := by
  cases cs with
  | nil =>
    refine sB Tryz.func96 Tryz.ntmps96 ?_
    intro hbox htok
    simp only at hbox htok
    apply AL.start
    have kn := key_lt hbox hk
    try (simp [lb_out kn, hk, upd_lb_out kn, upd_same])
    repeat (first | (refine sR ?_; simp [lb_out kn, hk, upd_lb_out kn, upd_same]) | (refine sC ?_; simp [lb_out kn, hk, upd_lb_out kn, upd_same]) | (refine sX ?_; simp only [AU, ↓reduceIte]))
    refine sT ?_
    try simp only [AU]
    refine ⟨by simp, (Fin.gen (av := I 0) (tok' := tok) (nt' := nt) (by simp [resAs, resA, lk]; rfl) hbox (Nat.le_refl _) (Nat.le_refl _) (fun t ht => ⟨ht, .inl rfl⟩) (fun k rows _ h => .inl h) (by simp [packA])).mono fun v m hq => ?_⟩
    exact ⟨hq.1, hq.2.trans (congrArg (fun b => (⟨b, nb, tok, nt⟩ : AMem)) (upd_keep hk).symm)⟩
  | cons c r =>
    have e1 : e = 1 := he.resolve_left (by simp)
    subst e1
    obtain ⟨c0, c1⟩ := hc c (by simp)
    have hw : IntKind.i64.wrap c = c := wrap_in (by omega) (by omega)
    have hh : ((hd46 (c :: r) : Nat) : Int) = c := by show ((c.toNat : Nat) : Int) = c; omega
    have hln : ((r.length : Int) + 1 == 0) = false := by rw [beq_eq_false_iff_ne]; omega
    have hln2 : ¬ ((r.length : Int) + 1 = 0) := by omega
    refine sB Tryz.func96 Tryz.ntmps96 ?_
    intro hbox htok
    simp only at hbox htok
    apply AL.start
    have kn := key_lt hbox hk
    try (simp [lb_out kn, hk, upd_lb_out kn, upd_same, hw, hln, hln2])
    repeat (first | (refine sR ?_; simp [lb_out kn, hk, upd_lb_out kn, upd_same, hw, hln, hln2]) | (refine sC ?_; simp [lb_out kn, hk, upd_lb_out kn, upd_same, hw, hln, hln2]) | (refine sX ?_; simp only [AU, ↓reduceIte]))
    refine sT ?_
    try simp only [AU]
    refine ⟨by simp, (Fin.gen (av := I c) (tok' := tok) (nt' := nt) (by simp [resAs, resA, lk]; rfl) (by rw [← upd_lb_out kn, hbox]) (Nat.le_refl _) (Nat.le_refl _) (fun t ht => ⟨ht, .inl rfl⟩) (outG (by simp)) (by simp [packA])).mono fun v m hq => ?_⟩
    have e2 : List.take r.length (r.map fun n => [u8d n]) = r.map fun n => [u8d n] := List.take_of_length_le (by simp)
    rw [e2] at hq
    exact ⟨by rw [hh]; exact hq.1, hq.2⟩
end Go.AM
namespace Go.AM
open Go Go.Proofs
def stMk1 (cs : List Int) (rs : List ByteArray) (pr e lev : Nat) (wi : Bool) (n : Nat) (k : Int) (ks nb : Nat) (box : Nat → Option (List (List AV))) (tok : Nat → Bool) (nt : Nat) : AState :=
  ⟨tl [(7, I n), (8, I k), (6, .ptr (nb + 6) 0 0), (0, .ptr ks 0 0), (1, I lev), (2, B wi)], lb nb (upd box ks (some [mkRow e cs.tail rs pr])) [(6, [[I 0, Sb ⟨#[]⟩, I 0, nilS]])], tok, nt⟩
def stMk2 (cs : List Int) (rs : List ByteArray) (pr e lev : Nat) (wi : Bool) (n : Nat) (k : Int) (nm : ByteArray) (nu : Int) (ks nb : Nat) (box : Nat → Option (List (List AV))) (tok : Nat → Bool) (nt : Nat) : AState :=
  ⟨tl [(7, I n), (8, I k), (9, .ptr (nb + 9) 0 0), (6, .ptr (nb + 6) 0 0), (0, .ptr ks 0 0), (1, I lev), (2, B wi)], lb nb (upd box ks (some [mkRow e cs.tail rs pr])) [(9, [[I k, Sb nm, I nu, nilS]]), (6, [[I 0, Sb ⟨#[]⟩, I 0, nilS]])], tok, nt⟩
structure AccMk where
  i : Nat
  cs : List Int
  l : List Cm
  own : Own
  tok : Nat → Bool
  nt : Nat
structure MkInv (F : List Int → Cm × List Int) (ct : Nat) (R : List Cm × List Int) (e : Nat) (mtok : Nat → Bool) (nt0 : Nat) (x : AccMk) : Prop where
  i : x.i ≤ ct
  q : mkF F (ct - x.i) x.cs x.l = R
  he : x.cs = [] ∨ e = 1
  hc : B8s x.cs
  hl : x.cs.length ≤ 200000000000000
  ln : x.l.length = x.i
  k : TK mtok nt0 x.tok x.nt [x.own]
theorem MkInv.of {F : List Int → Cm × List Int} {ct : Nat} {R : List Cm × List Int} {e : Nat} {mtok : Nat → Bool} {nt0 : Nat} {i : Nat} {cs : List Int} {l : List Cm} {own : Own} {tok : Nat → Bool} {nt : Nat} (h1 : i ≤ ct) (h2 : mkF F (ct - i) cs l = R) (h3 : cs = [] ∨ e = 1) (h4 : B8s cs) (h5 : cs.length ≤ 200000000000000) (h6 : l.length = i) (h7 : TK mtok nt0 tok nt [own]) :
    MkInv F ct R e mtok nt0 ⟨i, cs, l, own, tok, nt⟩ := ⟨h1, h2, h3, h4, h5, h6, h7⟩
def stMk3 (rs : List ByteArray) (pr e lev : Nat) (wi : Bool) (n : Nat) (k : Int) (nm : ByteArray) (nu : Int) (ct ks nb : Nat) (box : Nat → Option (List (List AV))) (x : AccMk) : AState :=
  ⟨tl [(10, I ct), (11, I x.i), (7, I n), (8, I k), (9, .ptr (nb + 9) 0 0), (6, .ptr (nb + 6) 0 0), (0, .ptr ks 0 0), (1, I lev), (2, B wi)], lb nb (upd box ks (some [mkRow e x.cs rs pr])) [(9, [[I k, Sb nm, I nu, .osl 4 (x.l.map Cm.cells) x.own]]), (6, [[I 0, Sb ⟨#[]⟩, I 0, nilS]])], x.tok, x.nt⟩
theorem mk46_rest (rs : List ByteArray) (pr : Nat) : ∀ (lev : Nat) (wi : Bool) (cs : List Int), (mk46 rs pr lev wi cs).2.length ≤ cs.length ∧ (B8s cs → B8s (mk46 rs pr lev wi cs).2) ∧ (cs = [] → (mk46 rs pr lev wi cs).2 = [])
  | 0, wi, cs => ⟨Nat.le_refl _, id, id⟩
  | lev + 1, wi, cs => by
    have key : ∀ (sq : Bool) (n : Nat) (cs : List Int) (acc : List Cm), (mkF (mk46 rs pr lev sq) n cs acc).2.length ≤ cs.length ∧ (B8s cs → B8s (mkF (mk46 rs pr lev sq) n cs acc).2) ∧ (cs = [] → (mkF (mk46 rs pr lev sq) n cs acc).2 = []) := by
      intro sq n
      induction n with
      | zero => intro cs acc; rw [mkF]; exact ⟨Nat.le_refl _, id, id⟩
      | succ n ih =>
        intro cs acc
        obtain ⟨a1, a2, a3⟩ := mk46_rest rs pr lev sq cs
        obtain ⟨b1, b2, b3⟩ := ih (mk46 rs pr lev sq cs).2 (acc ++ [(mk46 rs pr lev sq cs).1])
        rw [mkF]
        exact ⟨Nat.le_trans b1 a1, fun h => b2 (a2 h), fun h => b3 (a3 h)⟩
    rw [mk46_succ rs pr lev wi cs rfl rfl]
    obtain ⟨k1, k2, k3⟩ := key (kdM rs pr (lev + 1) wi (hd46 cs) == 2) (ctM (kdM rs pr (lev + 1) wi (hd46 cs)) (hd46 cs)) cs.tail []
    refine ⟨?_, fun h => k2 h.tail, fun h => k3 (by rw [h]; rfl)⟩
    have : cs.tail.length ≤ cs.length := by rw [List.length_tail]; omega
    simp only
    omega
theorem kd46_at (n : Nat) : kd14[n % 14]? = some (kd46 n) := by
  have h : n % 14 < kd14.length := Nat.mod_lt _ (by decide)
  rw [kd46, List.getD_eq_getElem?_getD, List.getElem?_eq_getElem h]
  rfl
set_option maxHeartbeats 4000000 in
set_option maxRecDepth 100000 in
theorem make46_c (rs : List ByteArray) (hrs : rs.length ≤ 20) (pr : Nat) (hpr : pr ≤ 9) : ∀ (N lev : Nat), lev < N → lev ≤ 10 → ∀ (wi : Bool) (e : Nat) (cs : List Int), (cs = [] ∨ e = 1) → B8s cs → cs.length ≤ 200000000000000 →
    ∀ (ks : Nat) (box : Nat → Option (List (List AV))), box ks = some [mkRow e cs rs pr] → ∀ (nb : Nat) (tok : Nat → Bool) (nt : Nat),
    ACalls Tryz.prog 63 [.ptr ks 0 0, I ((lev + 1 : Nat) : Int), B wi] ⟨box, nb, tok, nt⟩ (QRd (mk46 rs pr (lev + 1) wi cs).1.av (mkRow e (mk46 rs pr (lev + 1) wi cs).2 rs pr) ks box nb tok nt) := by
  intro N
  induction N with
  | zero => intro lev h; exact absurd h (Nat.not_lt_zero _)
  | succ N IH =>
  intro lev hlN h10 wi e cs he hc hl ks box hk nb tok nt
  obtain ⟨L, hLe⟩ : ∃ L, L = lev + 1 := ⟨_, rfl⟩
  rw [← hLe]
  have hnx := next46_c e cs he hc hl rs pr ks
  have hn := hd46_rng hc
  obtain ⟨n, hne⟩ : ∃ n, n = hd46 cs := ⟨_, rfl⟩
  rw [← hne] at hnx hn
  obtain ⟨m14, hme⟩ : ∃ m, m = n % 14 := ⟨_, rfl⟩
  obtain ⟨d, hde⟩ : ∃ d, d = n / 14 := ⟨_, rfl⟩
  have t14 : (n : Int).tmod 14 = (m14 : Int) := by rw [Int.tmod_eq_emod_of_nonneg (by omega)]; omega
  have d14 : (n : Int).tdiv 14 = (d : Int) := by rw [Int.tdiv_eq_ediv_of_nonneg (by omega)]; omega
  have hm14 : (m14 : Int) < 14 := by omega
  have hm14' : m14 < 14 := by omega
  have hka := kd46_at n
  obtain ⟨k, hK0⟩ : ∃ k, kdM rs pr L wi n = k := ⟨_, rfl⟩
  have hkg := kdM_rng rs pr L wi n
  rw [hK0] at hkg
  have hK := hK0
  unfold kdM at hK
  rw [← hme] at hka
  have hkr := kd46_rng n
  generalize kd46 n = k0 at *
  have hkb : ([[D.raw (.int .i64 1)], [D.raw (.int .i64 1)], [D.raw (.int .i64 2)], [D.raw (.int .i64 2)], [D.raw (.int .i64 3)], [D.raw (.int .i64 4)], [D.raw (.int .i64 5)], [D.raw (.int .i64 6)], [D.raw (.int .i64 7)], [D.raw (.int .i64 8)], [D.raw (.int .i64 9)], [D.raw (.int .i64 10)], [D.raw (.int .i64 10)], [D.raw (.int .i64 1)]] : List (List D))[m14]? = some [.raw (.int .i64 k0)] := by
    have h := congrArg (Option.map fun k => [D.raw (.int .i64 k)]) hka
    rw [← List.getElem?_map] at h
    exact h
  obtain ⟨_, hkc⟩ := List.getElem?_eq_some_iff.1 hkb
  refine sB Tryz.func63 Tryz.ntmps63 ?_
  intro hbox htok
  simp only at hbox htok
  apply AL.start
  have kn := key_lt hbox hk
  try (simp [lb_out kn, hk])
  repeat (first | (refine sR ?_; simp [lb_out kn, hk]) | (refine sC ?_; simp [lb_out kn, hk]) | (refine sX ?_; simp only [AU, ↓reduceIte]))
  refine Stop.of_a (hnx _ (by simp only; rw [lb_out kn]; exact hk) _ _ _) ?_
  rintro v m' ⟨rfl, rfl⟩
  simp [upd_lb_out kn]
  refine sR ?_
  simp [upd_lb_out kn, t14, hm14, hm14', hkc]
  refine ⟨rfl, ?_⟩
  refine sN ?_
  refine AL.cutP (l := [_, _]) (stMk1 cs rs pr e L wi n k ks nb box tok nt) True ?_ fun _ => ?_
  · have hk10 : k0 = 1 ∨ k0 = 10 ∨ k0 = 2 ∨ k0 = 3 ∨ k0 = 4 ∨ k0 = 5 ∨ k0 = 6 ∨ k0 = 7 ∨ k0 = 8 ∨ k0 = 9 := by omega
    clear hka hkb hkc
    have hA' : ((L : Int) ≤ 1) = (L ≤ 1) := propext (by omega)
    have hFb : ((pr : Int) == 0) = decide (pr = 0) := by rw [Bool.eq_iff_iff]; simp
    rcases hk10 with rfl | rfl | hrest
    · by_cases hH : rs.length = 0
      · by_cases hA : L ≤ 1
        · cases wi
          · simp [hH, hA] at hK
            subst hK
            try (simp [lb_out kn, upd_same, hH, hA, hA', hFb])
            repeat (first | (refine sR ?_; simp [lb_out kn, upd_same, hH, hA, hA', hFb]) | (refine sC ?_; simp [lb_out kn, upd_same, hH, hA, hA', hFb]) | (refine sX ?_; simp only [AU, ↓reduceIte]))
            refine sE ?_
            exact Weaks.mk' (Nat.le_refl _) (by simp [ToL, lk]; exact to_ptr (by rw [lb_out kn, upd_same]; simp)) (by simp [BoxL, lk]) (outG (by simp))
          · simp [hH, hA] at hK
            subst hK
            try (simp [lb_out kn, upd_same, hH, hA, hA', hFb])
            repeat (first | (refine sR ?_; simp [lb_out kn, upd_same, hH, hA, hA', hFb]) | (refine sC ?_; simp [lb_out kn, upd_same, hH, hA, hA', hFb]) | (refine sX ?_; simp only [AU, ↓reduceIte]))
            refine sE ?_
            exact Weaks.mk' (Nat.le_refl _) (by simp [ToL, lk]; exact to_ptr (by rw [lb_out kn, upd_same]; simp)) (by simp [BoxL, lk]) (outG (by simp))
        · cases wi
          · simp [hH, hA] at hK
            subst hK
            try (simp [lb_out kn, upd_same, hH, hA, hA', hFb])
            repeat (first | (refine sR ?_; simp [lb_out kn, upd_same, hH, hA, hA', hFb]) | (refine sC ?_; simp [lb_out kn, upd_same, hH, hA, hA', hFb]) | (refine sX ?_; simp only [AU, ↓reduceIte]))
            refine sE ?_
            exact Weaks.mk' (Nat.le_refl _) (by simp [ToL, lk]; exact to_ptr (by rw [lb_out kn, upd_same]; simp)) (by simp [BoxL, lk]) (outG (by simp))
          · simp [hH, hA] at hK
            subst hK
            try (simp [lb_out kn, upd_same, hH, hA, hA', hFb])
            repeat (first | (refine sR ?_; simp [lb_out kn, upd_same, hH, hA, hA', hFb]) | (refine sC ?_; simp [lb_out kn, upd_same, hH, hA, hA', hFb]) | (refine sX ?_; simp only [AU, ↓reduceIte]))
            refine sE ?_
            exact Weaks.mk' (Nat.le_refl _) (by simp [ToL, lk]; exact to_ptr (by rw [lb_out kn, upd_same]; simp)) (by simp [BoxL, lk]) (outG (by simp))
      · by_cases hA : L ≤ 1
        · cases wi
          · simp [hH, hA] at hK
            subst hK
            try (simp [lb_out kn, upd_same, hH, hA, hA', hFb])
            repeat (first | (refine sR ?_; simp [lb_out kn, upd_same, hH, hA, hA', hFb]) | (refine sC ?_; simp [lb_out kn, upd_same, hH, hA, hA', hFb]) | (refine sX ?_; simp only [AU, ↓reduceIte]))
            refine sE ?_
            exact Weaks.mk' (Nat.le_refl _) (by simp [ToL, lk]; exact to_ptr (by rw [lb_out kn, upd_same]; simp)) (by simp [BoxL, lk]) (outG (by simp))
          · simp [hH, hA] at hK
            subst hK
            try (simp [lb_out kn, upd_same, hH, hA, hA', hFb])
            repeat (first | (refine sR ?_; simp [lb_out kn, upd_same, hH, hA, hA', hFb]) | (refine sC ?_; simp [lb_out kn, upd_same, hH, hA, hA', hFb]) | (refine sX ?_; simp only [AU, ↓reduceIte]))
            refine sE ?_
            exact Weaks.mk' (Nat.le_refl _) (by simp [ToL, lk]; exact to_ptr (by rw [lb_out kn, upd_same]; simp)) (by simp [BoxL, lk]) (outG (by simp))
        · cases wi
          · simp [hH, hA] at hK
            subst hK
            try (simp [lb_out kn, upd_same, hH, hA, hA', hFb])
            repeat (first | (refine sR ?_; simp [lb_out kn, upd_same, hH, hA, hA', hFb]) | (refine sC ?_; simp [lb_out kn, upd_same, hH, hA, hA', hFb]) | (refine sX ?_; simp only [AU, ↓reduceIte]))
            refine sE ?_
            exact Weaks.mk' (Nat.le_refl _) (by simp [ToL, lk]; exact to_ptr (by rw [lb_out kn, upd_same]; simp)) (by simp [BoxL, lk]) (outG (by simp))
          · simp [hH, hA] at hK
            subst hK
            try (simp [lb_out kn, upd_same, hH, hA, hA', hFb])
            repeat (first | (refine sR ?_; simp [lb_out kn, upd_same, hH, hA, hA', hFb]) | (refine sC ?_; simp [lb_out kn, upd_same, hH, hA, hA', hFb]) | (refine sX ?_; simp only [AU, ↓reduceIte]))
            refine sE ?_
            exact Weaks.mk' (Nat.le_refl _) (by simp [ToL, lk]; exact to_ptr (by rw [lb_out kn, upd_same]; simp)) (by simp [BoxL, lk]) (outG (by simp))
    · by_cases hF : pr = 0
      · by_cases hA : L ≤ 1
        · cases wi
          · simp [hF, hA] at hK
            subst hK
            try (simp [lb_out kn, upd_same, hF, hA, hA', hFb])
            repeat (first | (refine sR ?_; simp [lb_out kn, upd_same, hF, hA, hA', hFb]) | (refine sC ?_; simp [lb_out kn, upd_same, hF, hA, hA', hFb]) | (refine sX ?_; simp only [AU, ↓reduceIte]))
            refine sE ?_
            exact Weaks.mk' (Nat.le_refl _) (by simp [ToL, lk]; exact to_ptr (by rw [lb_out kn, upd_same]; simp)) (by simp [BoxL, lk]) (outG (by simp))
          · simp [hF, hA] at hK
            subst hK
            try (simp [lb_out kn, upd_same, hF, hA, hA', hFb])
            repeat (first | (refine sR ?_; simp [lb_out kn, upd_same, hF, hA, hA', hFb]) | (refine sC ?_; simp [lb_out kn, upd_same, hF, hA, hA', hFb]) | (refine sX ?_; simp only [AU, ↓reduceIte]))
            refine sE ?_
            exact Weaks.mk' (Nat.le_refl _) (by simp [ToL, lk]; exact to_ptr (by rw [lb_out kn, upd_same]; simp)) (by simp [BoxL, lk]) (outG (by simp))
        · cases wi
          · simp [hF, hA] at hK
            subst hK
            try (simp [lb_out kn, upd_same, hF, hA, hA', hFb])
            repeat (first | (refine sR ?_; simp [lb_out kn, upd_same, hF, hA, hA', hFb]) | (refine sC ?_; simp [lb_out kn, upd_same, hF, hA, hA', hFb]) | (refine sX ?_; simp only [AU, ↓reduceIte]))
            refine sE ?_
            exact Weaks.mk' (Nat.le_refl _) (by simp [ToL, lk]; exact to_ptr (by rw [lb_out kn, upd_same]; simp)) (by simp [BoxL, lk]) (outG (by simp))
          · simp [hF, hA] at hK
            subst hK
            try (simp [lb_out kn, upd_same, hF, hA, hA', hFb])
            repeat (first | (refine sR ?_; simp [lb_out kn, upd_same, hF, hA, hA', hFb]) | (refine sC ?_; simp [lb_out kn, upd_same, hF, hA, hA', hFb]) | (refine sX ?_; simp only [AU, ↓reduceIte]))
            refine sE ?_
            exact Weaks.mk' (Nat.le_refl _) (by simp [ToL, lk]; exact to_ptr (by rw [lb_out kn, upd_same]; simp)) (by simp [BoxL, lk]) (outG (by simp))
      · by_cases hA : L ≤ 1
        · cases wi
          · simp [hF, hA] at hK
            subst hK
            try (simp [lb_out kn, upd_same, hF, hA, hA', hFb])
            repeat (first | (refine sR ?_; simp [lb_out kn, upd_same, hF, hA, hA', hFb]) | (refine sC ?_; simp [lb_out kn, upd_same, hF, hA, hA', hFb]) | (refine sX ?_; simp only [AU, ↓reduceIte]))
            refine sE ?_
            exact Weaks.mk' (Nat.le_refl _) (by simp [ToL, lk]; exact to_ptr (by rw [lb_out kn, upd_same]; simp)) (by simp [BoxL, lk]) (outG (by simp))
          · simp [hF, hA] at hK
            subst hK
            try (simp [lb_out kn, upd_same, hF, hA, hA', hFb])
            repeat (first | (refine sR ?_; simp [lb_out kn, upd_same, hF, hA, hA', hFb]) | (refine sC ?_; simp [lb_out kn, upd_same, hF, hA, hA', hFb]) | (refine sX ?_; simp only [AU, ↓reduceIte]))
            refine sE ?_
            exact Weaks.mk' (Nat.le_refl _) (by simp [ToL, lk]; exact to_ptr (by rw [lb_out kn, upd_same]; simp)) (by simp [BoxL, lk]) (outG (by simp))
        · cases wi
          · simp [hF, hA] at hK
            subst hK
            try (simp [lb_out kn, upd_same, hF, hA, hA', hFb])
            repeat (first | (refine sR ?_; simp [lb_out kn, upd_same, hF, hA, hA', hFb]) | (refine sC ?_; simp [lb_out kn, upd_same, hF, hA, hA', hFb]) | (refine sX ?_; simp only [AU, ↓reduceIte]))
            refine sE ?_
            exact Weaks.mk' (Nat.le_refl _) (by simp [ToL, lk]; exact to_ptr (by rw [lb_out kn, upd_same]; simp)) (by simp [BoxL, lk]) (outG (by simp))
          · simp [hF, hA] at hK
            subst hK
            try (simp [lb_out kn, upd_same, hF, hA, hA', hFb])
            repeat (first | (refine sR ?_; simp [lb_out kn, upd_same, hF, hA, hA', hFb]) | (refine sC ?_; simp [lb_out kn, upd_same, hF, hA, hA', hFb]) | (refine sX ?_; simp only [AU, ↓reduceIte]))
            refine sE ?_
            exact Weaks.mk' (Nat.le_refl _) (by simp [ToL, lk]; exact to_ptr (by rw [lb_out kn, upd_same]; simp)) (by simp [BoxL, lk]) (outG (by simp))
    · have n1 : (k0 == 1) = false := by rw [beq_eq_false_iff_ne]; omega
      have n10 : (k0 == 10) = false := by rw [beq_eq_false_iff_ne]; omega
      have m1 : ¬ k0 = 1 := by omega
      have m10 : ¬ k0 = 10 := by omega
      have m2 : 2 ≤ k0 := by omega
      by_cases hA : L ≤ 1
      · by_cases h7 : k0 ≤ 7
        · simp [m1, m10, m2, h7, hA] at hK
          subst hK
          try (simp [lb_out kn, upd_same, n1, n10, m1, m10, m2, h7, hA, hA'])
          repeat (first | (refine sR ?_; simp [lb_out kn, upd_same, n1, n10, m1, m10, m2, h7, hA, hA']) | (refine sC ?_; simp [lb_out kn, upd_same, n1, n10, m1, m10, m2, h7, hA, hA']) | (refine sX ?_; simp only [AU, ↓reduceIte]))
          refine sE ?_
          exact Weaks.mk' (Nat.le_refl _) (by simp [ToL, lk]; exact to_ptr (by rw [lb_out kn, upd_same]; simp)) (by simp [BoxL, lk]) (outG (by simp))
        · have e2 : (k0 == 2) = false := by rw [beq_eq_false_iff_ne]; omega
          have f2 : ¬ k0 = 2 := by omega
          cases wi
          · simp [m1, m10, m2, h7, hA, f2] at hK
            subst hK
            try (simp [lb_out kn, upd_same, n1, n10, m1, m10, m2, h7, hA, hA', e2, f2])
            repeat (first | (refine sR ?_; simp [lb_out kn, upd_same, n1, n10, m1, m10, m2, h7, hA, hA', e2, f2]) | (refine sC ?_; simp [lb_out kn, upd_same, n1, n10, m1, m10, m2, h7, hA, hA', e2, f2]) | (refine sX ?_; simp only [AU, ↓reduceIte]))
            refine sE ?_
            exact Weaks.mk' (Nat.le_refl _) (by simp [ToL, lk]; exact to_ptr (by rw [lb_out kn, upd_same]; simp)) (by simp [BoxL, lk]) (outG (by simp))
          · simp [m1, m10, m2, h7, hA, f2] at hK
            subst hK
            try (simp [lb_out kn, upd_same, n1, n10, m1, m10, m2, h7, hA, hA', e2, f2])
            repeat (first | (refine sR ?_; simp [lb_out kn, upd_same, n1, n10, m1, m10, m2, h7, hA, hA', e2, f2]) | (refine sC ?_; simp [lb_out kn, upd_same, n1, n10, m1, m10, m2, h7, hA, hA', e2, f2]) | (refine sX ?_; simp only [AU, ↓reduceIte]))
            refine sE ?_
            exact Weaks.mk' (Nat.le_refl _) (by simp [ToL, lk]; exact to_ptr (by rw [lb_out kn, upd_same]; simp)) (by simp [BoxL, lk]) (outG (by simp))
      · by_cases f2 : k0 = 2
        · subst f2
          clear n1 n10 m1 m10 m2
          cases wi
          · simp [hA] at hK
            subst hK
            try (simp [lb_out kn, upd_same, hA, hA'])
            repeat (first | (refine sR ?_; simp [lb_out kn, upd_same, hA, hA']) | (refine sC ?_; simp [lb_out kn, upd_same, hA, hA']) | (refine sX ?_; simp only [AU, ↓reduceIte]))
            refine sE ?_
            exact Weaks.mk' (Nat.le_refl _) (by simp [ToL, lk]; exact to_ptr (by rw [lb_out kn, upd_same]; simp)) (by simp [BoxL, lk]) (outG (by simp))
          · simp [hA] at hK
            subst hK
            try (simp [lb_out kn, upd_same, hA, hA'])
            repeat (first | (refine sR ?_; simp [lb_out kn, upd_same, hA, hA']) | (refine sC ?_; simp [lb_out kn, upd_same, hA, hA']) | (refine sX ?_; simp only [AU, ↓reduceIte]))
            refine sE ?_
            exact Weaks.mk' (Nat.le_refl _) (by simp [ToL, lk]; exact to_ptr (by rw [lb_out kn, upd_same]; simp)) (by simp [BoxL, lk]) (outG (by simp))
        · have e2 : (k0 == 2) = false := by rw [beq_eq_false_iff_ne]; exact f2
          cases wi
          · simp [m1, m10, m2, hA, f2] at hK
            subst hK
            try (simp [lb_out kn, upd_same, n1, n10, m1, m10, m2, hA, hA', e2, f2])
            repeat (first | (refine sR ?_; simp [lb_out kn, upd_same, n1, n10, m1, m10, m2, hA, hA', e2, f2]) | (refine sC ?_; simp [lb_out kn, upd_same, n1, n10, m1, m10, m2, hA, hA', e2, f2]) | (refine sX ?_; simp only [AU, ↓reduceIte]))
            refine sE ?_
            exact Weaks.mk' (Nat.le_refl _) (by simp [ToL, lk]; exact to_ptr (by rw [lb_out kn, upd_same]; simp)) (by simp [BoxL, lk]) (outG (by simp))
          · simp [m1, m10, m2, hA, f2] at hK
            subst hK
            try (simp [lb_out kn, upd_same, n1, n10, m1, m10, m2, hA, hA', e2, f2])
            repeat (first | (refine sR ?_; simp [lb_out kn, upd_same, n1, n10, m1, m10, m2, hA, hA', e2, f2]) | (refine sC ?_; simp [lb_out kn, upd_same, n1, n10, m1, m10, m2, hA, hA', e2, f2]) | (refine sX ?_; simp only [AU, ↓reduceIte]))
            refine sE ?_
            exact Weaks.mk' (Nat.le_refl _) (by simp [ToL, lk]; exact to_ptr (by rw [lb_out kn, upd_same]; simp)) (by simp [BoxL, lk]) (outG (by simp))
  · simp only [stMk1]
    refine sN ?_
    refine sR ?_
    simp
    refine sN ?_
    refine AL.cutP (l := [_, _]) (stMk2 cs rs pr e L wi n k (nmM rs pr k n) (nuM k n) ks nb box tok nt) True ?_ fun _ => ?_
    · clear hka hkb hkc
      have w14 : IntKind.i64.wrap (d : Int) = (d : Int) := wrap_in (by omega) (by omega)
      by_cases k1 : k = 1
      · subst k1
        have hrl := (kdM_in (rs := rs) (pr := pr) (lev := L) (wi := wi) (n := n)).2.2 hK0
        obtain ⟨j, hj⟩ : ∃ j, j = d % rs.length := ⟨_, rfl⟩
        have hjl : j < rs.length := by rw [hj]; exact Nat.mod_lt _ (by omega)
        have hjl' : (j : Int) < (rs.length : Int) := by omega
        have tj : (d : Int).tmod (rs.length : Int) = (j : Int) := by rw [Int.tmod_eq_emod_of_nonneg (by omega), hj, Int.natCast_emod]
        have hnm : nmM rs pr 1 n = rs[j] := by
          rw [nmM, if_pos rfl, ← hde, ← hj, List.getD_eq_getElem?_getD, List.getElem?_eq_getElem hjl]
          rfl
        have hnu : nuM 1 n = 0 := rfl
        have hat := strs_at hjl
        have hr0 : (rs.length : Int) ≠ 0 := by omega
        rw [hnm, hnu]
        try (simp [lb_out kn, upd_same, d14, tj, w14, hjl, hjl', hr0, hrl])
        repeat (first | (refine sR ?_; simp [lb_out kn, upd_same, d14, tj, w14, hjl, hjl', hr0, hrl]) | (refine sC ?_; simp [lb_out kn, upd_same, d14, tj, w14, hjl, hjl', hr0, hrl]) | (refine sX ?_; simp only [AU, ↓reduceIte]))
        refine sE ?_
        exact Weaks.mk' (Nat.le_refl _) (by simp [ToL, lk]; exact to_ptr (by rw [lb_out kn, upd_same]; simp)) (by simp [BoxL, lk]) (outG (by simp))
      · by_cases k10 : k = 10
        · subst k10
          have hpl := (kdM_in (rs := rs) (pr := pr) (lev := L) (wi := wi) (n := n)).2.1 hK0
          obtain ⟨j, hj⟩ : ∃ j, j = d % pr := ⟨_, rfl⟩
          have hjl : j < pr := by rw [hj]; exact Nat.mod_lt _ (by omega)
          have tj : (d : Int).tmod (pr : Int) = (j : Int) := by rw [Int.tmod_eq_emod_of_nonneg (by omega), hj, Int.natCast_emod]
          have hnm : nmM rs pr 10 n = ⟨#[112]⟩ ++ digR (j : Int) := by
            rw [nmM, if_neg (by decide), if_pos rfl, ← hde, ← hj]
            rfl
          have hnu : nuM 10 n = 0 := rfl
          have hr0 : (pr : Int) ≠ 0 := by omega
          have hdg := digits_c (j : Int) (by omega) (by omega)
          have hdz := digR_size (j : Int)
          rw [hnm, hnu]
          generalize digR (j : Int) = DG at *
          try (simp [lb_out kn, upd_same, d14, tj, w14, hr0, hpl])
          repeat (first | (refine sR ?_; simp [lb_out kn, upd_same, d14, tj, w14, hr0, hpl]) | (refine sC ?_; simp [lb_out kn, upd_same, d14, tj, w14, hr0, hpl]) | (refine sX ?_; simp only [AU, ↓reduceIte]))
          refine Stop.of_d (hdg _ _) ?_
          simp
          have z1 : (⟨#[112]⟩ : ByteArray).size = 1 := rfl
          refine ⟨by omega, ?_⟩
          try (simp [lb_out kn, upd_same])
          repeat (first | (refine sR ?_; simp [lb_out kn, upd_same]) | (refine sC ?_; simp [lb_out kn, upd_same]) | (refine sX ?_; simp only [AU, ↓reduceIte]))
          refine sE ?_
          exact Weaks.mk' (Nat.le_refl _) (by simp [ToL, lk]; exact to_ptr (by rw [lb_out kn, upd_same]; simp)) (by simp [BoxL, lk]) (outG (by simp))
        · have c1 : (k == 1) = false := by rw [beq_eq_false_iff_ne]; exact k1
          have c10 : (k == 10) = false := by rw [beq_eq_false_iff_ne]; exact k10
          have hnm : nmM rs pr k n = ⟨#[]⟩ := by rw [nmM, if_neg k1, if_neg k10]
          rw [hnm]
          by_cases k6 : k = 6
          · subst k6
            obtain ⟨j, hj⟩ : ∃ j, j = d % 3 := ⟨_, rfl⟩
            have tj : (d : Int).tmod 3 = (j : Int) := by rw [Int.tmod_eq_emod_of_nonneg (by omega)]; omega
            have hnu : nuM 6 n = 1 + (j : Int) := by rw [nuM, if_pos rfl, ← hde, ← hj]; omega
            have wj : IntKind.i64.wrap (1 + (j : Int)) = 1 + (j : Int) := wrap_in (by omega) (by omega)
            rw [hnu]
            try (simp [lb_out kn, upd_same, d14, tj, w14, wj])
            repeat (first | (refine sR ?_; simp [lb_out kn, upd_same, d14, tj, w14, wj]) | (refine sC ?_; simp [lb_out kn, upd_same, d14, tj, w14, wj]) | (refine sX ?_; simp only [AU, ↓reduceIte]))
            refine sE ?_
            exact Weaks.mk' (Nat.le_refl _) (by simp [ToL, lk]; exact to_ptr (by rw [lb_out kn, upd_same]; simp)) (by simp [BoxL, lk]) (outG (by simp))
          · have c6 : (k == 6) = false := by rw [beq_eq_false_iff_ne]; exact k6
            have hnu : nuM k n = 0 := by rw [nuM, if_neg k6]
            rw [hnu]
            try (simp [lb_out kn, upd_same, c1, c10, c6, k1, k10, k6])
            repeat (first | (refine sR ?_; simp [lb_out kn, upd_same, c1, c10, c6, k1, k10, k6]) | (refine sC ?_; simp [lb_out kn, upd_same, c1, c10, c6, k1, k10, k6]) | (refine sX ?_; simp only [AU, ↓reduceIte]))
            refine sE ?_
            exact Weaks.mk' (Nat.le_refl _) (by simp [ToL, lk]; exact to_ptr (by rw [lb_out kn, upd_same]; simp)) (by simp [BoxL, lk]) (outG (by simp))
    · simp only [stMk2]
      clear hka hkb hkc
      have hR := mk46_succ rs pr lev wi cs hne (k := k) (by rw [← hLe]; exact hK0.symm)
      rw [← hLe] at hR
      obtain ⟨ct, hct⟩ : ∃ ct, ct = ctM k n := ⟨_, rfl⟩
      have hlow := fun h => kdM_low (rs := rs) (pr := pr) (lev := L) (wi := wi) (n := n) h
      rw [hK0] at hlow
      rw [← hct] at hR
      obtain ⟨j2, hj2⟩ : ∃ j, j = d % 2 := ⟨_, rfl⟩
      have t2 : (d : Int).tmod 2 = (j2 : Int) := by rw [Int.tmod_eq_emod_of_nonneg (by omega)]; omega
      have w14 : IntKind.i64.wrap (d : Int) = (d : Int) := wrap_in (by omega) (by omega)
      have w2 : IntKind.i64.wrap (2 + (j2 : Int)) = 2 + (j2 : Int) := wrap_in (by omega) (by omega)
      have hka : ([[D.raw (.int .i64 0)], [D.raw (.int .i64 0)], [D.raw (.int .i64 (2 + (j2 : Int)))], [D.raw (.int .i64 2)], [D.raw (.int .i64 3)], [D.raw (.int .i64 1)], [D.raw (.int .i64 1)], [D.raw (.int .i64 1)], [D.raw (.int .i64 0)], [D.raw (.int .i64 0)], [D.raw (.int .i64 0)]] : List (List D))[k.toNat]? = some [.raw (.int .i64 (ct : Int))] := by
        have hk10 : k = 1 ∨ k = 10 ∨ k = 2 ∨ k = 3 ∨ k = 4 ∨ k = 5 ∨ k = 6 ∨ k = 7 ∨ k = 8 ∨ k = 9 := by omega
        rw [hct]
        rcases hk10 with e | e | e | e | e | e | e | e | e | e <;> rw [e]
        · rfl
        · rfl
        · show some [D.raw (.int .i64 (2 + (j2 : Int)))] = some [D.raw (.int .i64 ((2 + n / 14 % 2 : Nat) : Int))]
          rw [← hde, ← hj2]
          simp
        all_goals rfl
      obtain ⟨hkl, hkc⟩ := List.getElem?_eq_some_iff.1 hka
      have hk0 : 0 ≤ k := by omega
      have hk11 : k < 11 := by omega
      have hct3 : ct ≤ 3 := by
        rw [hct]
        unfold ctM
        have := Nat.mod_lt (n / 14) (show 0 < 2 by decide)
        repeat' split
        all_goals omega
      have hctl : 0 < ct → 1 ≤ lev := fun h => by
        rcases Nat.eq_zero_or_pos lev with h0 | h0
        · have := hlow (by omega)
          have : ctM k n = 0 := by rw [ctM, if_neg (by omega), if_neg (by omega), if_neg (by omega), if_neg (by omega)]
          omega
        · exact h0
      have ht0 := TK.start htok
      obtain ⟨R, hRR⟩ : ∃ R, mkF (mk46 rs pr lev (k == 2)) ct cs.tail [] = R := ⟨_, rfl⟩
      rw [hRR] at hR
      rw [hR]
      refine sN ?_
      refine sR ?_
      simp [d14, t2, w14, w2, hk0, hk11, hkc]
      refine ⟨rfl, ?_⟩
      refine sN ?_
      refine sR ?_
      simp
      have hLL : 0 < ct → lev - 1 + 1 = lev := fun h => by have := hctl h; omega
      clear hct hlow hka hkc hK
      generalize nmM rs pr k n = nm at *
      generalize nuM k n = nu at *
      have hel : cs.tail = [] ∨ e = 1 := he.imp (fun h => by rw [h]; rfl) id
      have htl : cs.tail.length ≤ 200000000000000 := by rw [List.length_tail]; omega
      refine sN ?_
      refine AL.loopT (stMk3 rs pr e L wi n k nm nu ct ks nb box) (MkInv (mk46 rs pr lev (k == 2)) ct R e tok nt) (fun x => ct - x.i) ⟨0, cs.tail, [], .full, tok, nt⟩ (MkInv.of (Nat.zero_le _) hRR hel hc.tail htl rfl ht0.full)
        (Weaks.mk' (Nat.le_refl _) (by simp [stMk3, ToL, lk]; exact to_ptr (by rw [lb_out kn, upd_same]; simp)) (by simp [stMk3, BoxL, lk]) (outG (by simp))) ?_
      rintro ⟨i, cs1, l, own, tok1, nt1⟩ S hinv hS
      obtain ⟨hi, hq, he1, hc1, hl1, hln, htk⟩ := hinv
      simp only [stMk3] at hS hi hq he1 hc1 hl1 hln htk ⊢
      subst hS
      have hwi : IntKind.i64.wrap ((i : Int) + 1) = ((i + 1 : Nat) : Int) := by rw [wrap_in (by omega) (by omega)]; rfl
      have hwL : IntKind.i64.wrap ((L : Int) - 1) = (lev : Int) := by rw [wrap_in (by omega) (by omega)]; omega
      by_cases hlt : i < ct
      · have hlt' : (i : Int) < (ct : Int) := by omega
        have c2 := IH (lev - 1) (by omega) (by omega) (k == 2) e cs1 he1 hc1 hl1 ks
        rw [hLL (by omega)] at c2
        obtain ⟨g1, g2, g3⟩ := mk46_rest rs pr lev (k == 2) cs1
        have hm := Nat.sub_add_cancel (show 1 ≤ ct - i by omega)
        rw [← hm, mkF] at hq
        rw [show ct - i - 1 = ct - (i + 1) by omega] at hq
        have g4 : (mk46 rs pr lev (k == 2) cs1).2 = [] ∨ e = 1 := he1.imp g3 id
        obtain ⟨c3, cs3, hc3⟩ : ∃ c3 cs3, mk46 rs pr lev (k == 2) cs1 = (c3, cs3) := ⟨_, _, rfl⟩
        rw [hc3] at c2 hq g1 g2 g4
        simp only at c2 hq g1 g2 g4
        have hne7 : nb + 9 ≠ ks := by omega
        try (simp [hlt, hlt'])
        repeat (refine sR ?_; simp [hlt, hlt'])
        refine sC ?_
        simp
        refine sN ?_
        refine AL.region3 follows_Tryz (Nat.le_refl _) (by kernel_rfl) (Side.of (by simp)) [(Operand.tmp 111, Operand.tmp 113)] (by kernel_rfl) ?_
        simp [lb_out kn, upd_lb_out kn, upd_same, hwL]
        refine StopW.of_w rfl rfl (by simp only; rw [lb_out kn, upd_same]; simp) (fun box' nb' hb' => (c2 box' (by rw [hb']; simp only; rw [lb_out kn, upd_same]) nb' tok1 nt1).mono fun v m1 hq => ⟨hq.1, hq.2⟩) ?_
        simp [lb_out kn, upd_lb_out kn, upd_same, upd_upd, NK, hne7]
        refine ⟨⟨by omega, htk.live⟩, ?_⟩
        try (simp [hwi])
        repeat (first | (refine sR ?_; simp [hwi]) | (refine sC ?_; simp [hwi]) | (refine sX ?_; simp only [AU, ↓reduceIte]))
        refine sE ?_
        refine ⟨⟨i + 1, cs3, l ++ [c3], .tok nt1, upd (own.kill tok1) nt1 true, nt1 + 1⟩, MkInv.of (by omega) hq g4 (g2 hc1) (by omega) (by simp [hln]) htk.app, by simp only; omega, ?_⟩
        simp only [stMk3]
        exact Weaks.mk' (by have := htk.le; omega) (by simp [ToL, lk]; exact to_ptr (by rw [lb_out kn, upd_same]; simp)) (by simp [BoxL, lk, Cm.cells_eq]) (outG (by simp))
      · have hie : i = ct := by omega
        subst hie
        rw [Nat.sub_self, mkF] at hq
        subst hq
        try (simp [hlt])
        repeat (first | (refine sR ?_; simp [hlt]) | (refine sC ?_; simp [hlt]) | (refine sX ?_; simp only [AU, ↓reduceIte]))
        refine sT ?_
        try simp only [AU]
        refine ⟨by simp, (Fin.gen (av := Cm.av (.mk k nm nu l)) (tok' := tok) (nt' := nt) (by simp [resAs, resA, lk]; rfl) (by rw [← upd_lb_out kn, hbox]) (Nat.le_refl _) htk.le (fun t ht => ⟨htk.old t ht, .inr (htok t ht)⟩) (outG (by simp)) (by simp [packA, Cm.kind, Cm.name, Cm.num, Cm.kids, cms])).mono fun v m hq => ?_⟩
        exact hq
end Go.AM
namespace Go.AM
open Go Go.Proofs
abbrev codesD (l : List (List Int)) : D := .sl 1 (l.map fun c => [byE 1 c])
structure CodesOk (l : List (List Int)) : Prop where
  len : l.length ≤ 200000000000000
  each : ∀ c ∈ l, c.length ≤ 200000000000000 ∧ B8s c
theorem codes_at {l : List (List Int)} {i : Nat} (h : i < l.length) : (l.map fun c => [byE 1 c])[i]? = some [byE 1 l[i]] := by simp [h]
structure AccMd where
  i : Nat
  own : Own
  tok : Nat → Bool
  nt : Nat
def stMd (codes : List (List Int)) (rs : List ByteArray) (nb : Nat) (box : Nat → Option (List (List AV))) (x : AccMd) : AState :=
  ⟨tl [(0, .d (codesD codes)), (1, .d (strs rs)), (5, .ptr (nb + 5) 0 0), (4, .ptr (nb + 4) 0 0), (6, I x.i)], lb nb box [(5, [[.osl 5 ((md46 codes rs x.i).map Pr.cells) x.own]]), (4, [[nilS]])], x.tok, x.nt⟩
def stMe (codes : List (List Int)) (rs : List ByteArray) (nb : Nat) (box : Nat → Option (List (List AV))) (x : AccMd) : AState :=
  ⟨tl [(0, .d (codesD codes)), (1, .d (strs rs)), (5, .ptr (nb + 5) 0 0), (4, .ptr (nb + 4) 0 0), (6, I x.i), (7, .ptr (nb + 25) 0 0)], lb nb box [(25, [mkRow 0 [] rs x.i]), (5, [[.osl 5 ((md46 codes rs x.i).map Pr.cells) x.own]]), (4, [[nilS]])], x.tok, x.nt⟩
set_option maxHeartbeats 4000000 in
set_option maxRecDepth 100000 in
theorem made46_c (codes : List (List Int)) (hc : CodesOk codes) (rs : List ByteArray) (hrs : rs.length ≤ 20) (tok : Nat → Bool) (nt : Nat) :
    DCall Tryz.prog 26 [.d (codesD codes), .d (strs rs)] tok nt (prsAv (md46 codes rs (mdN codes))) tok nt := by
  intro box nb
  have hlc := hc.len
  refine sB Tryz.func26 Tryz.ntmps26 ?_
  intro hbox htok
  simp only at hbox htok
  apply AL.start
  have ht0 := TK.start htok
  try (simp)
  repeat (refine sR ?_; simp)
  refine sN ?_
  refine AL.loopT (stMd codes rs nb box) (fun x => x.i ≤ mdN codes ∧ TK tok nt x.tok x.nt [x.own]) (fun x => mdN codes - x.i) ⟨0, .full, tok, nt⟩ ⟨Nat.zero_le _, ht0.full⟩
    (Weaks.mk (Nat.le_refl _) rfl (by simp [stMd, ToL, lk]) (by simp [stMd, BoxL, lk, md46])) ?_
  rintro ⟨i, own, tok1, nt1⟩ S ⟨hi, htk⟩ hS
  simp only [stMd] at hS hi htk ⊢
  subst hS
  have hN : mdN codes = max 1 (min 4 codes.length) := rfl
  have hwi : IntKind.i64.wrap ((i : Int) + 1) = ((i + 1 : Nat) : Int) := by rw [wrap_in (by omega) (by omega)]; rfl
  have hlen := md46_len codes rs i
  have hsn := md46_succ codes rs i
  by_cases hlt : i < mdN codes
  · have hdg := digits_c (i : Int) (by omega) (by omega)
    have hdz := digR_size (i : Int)
    have hi4 : (i : Int) < 4 := by omega
    refine sN ?_
    refine AL.cutP (l := [_, _]) (stMd codes rs nb box ⟨i, own, tok1, nt1⟩) True ?_ fun _ => ?_
    · by_cases h0 : i = 0
      · have h0b : ((i : Int) == 0) = true := by rw [beq_iff_eq]; omega
        try (simp [hi4, h0b])
        repeat (first | (refine sR ?_; simp [hi4, h0b]) | (refine sC ?_; simp [hi4, h0b]) | (refine sX ?_; simp only [AU, ↓reduceIte]))
        refine sE ?_
        exact Weaks.mk htk.le rfl (by simp [stMd, ToL, lk]) (by simp [stMd, BoxL, lk])
      · have h0b : ((i : Int) == 0) = false := by rw [beq_eq_false_iff_ne]; omega
        have hic : i < codes.length := by omega
        have hic' : (i : Int) < (codes.length : Int) := by omega
        try (simp [hi4, h0b, h0, hic, hic'])
        repeat (first | (refine sR ?_; simp [hi4, h0b, h0, hic, hic']) | (refine sC ?_; simp [hi4, h0b, h0, hic, hic']) | (refine sX ?_; simp only [AU, ↓reduceIte]))
        refine sE ?_
        exact Weaks.mk htk.le rfl (by simp [stMd, ToL, lk]) (by simp [stMd, BoxL, lk])
    · simp only [stMd]
      by_cases hic : i < codes.length
      · have hic' : (i : Int) < (codes.length : Int) := by omega
        obtain ⟨cz, cb⟩ := hc.each _ (List.getElem_mem hic)
        have hat := codes_at hic
        have hcd : codes.getD i [] = codes[i] := by simp [hic]
        rw [hcd] at hsn
        refine sN ?_
        refine sR ?_
        simp
        refine sN ?_
        refine sR ?_
        simp [hic, hic']
        have hmk := make46_c rs hrs i (by omega) 4 3 (by decide) (by decide) false 1 codes[i] (.inr rfl) cb cz
        obtain ⟨c3, cs3, hc3⟩ : ∃ c3 cs3, mk46 rs i (3 + 1) false codes[i] = (c3, cs3) := ⟨_, _, rfl⟩
        rw [hc3] at hmk
        rw [show mk46 rs i 4 false codes[i] = (c3, cs3) from hc3] at hsn
        refine sC ?_
        simp
        refine sR ?_
        simp [hic, hic']
        refine sN ?_
        refine AL.region3 follows_Tryz (Nat.le_refl _) (by kernel_rfl) (Side.of (by simp)) [(Operand.tmp 37, Operand.tmp 39), (Operand.tmp 37, Operand.tmp 42)] (by kernel_rfl) ?_
        simp [lb_at, lk, upd_lb]
        refine StopW.of_d (hdg _ _) ?_
        simp [lb_at, lk, upd_lb]
        have z1 : (⟨#[112]⟩ : ByteArray).size = 1 := rfl
        refine ⟨by omega, ?_⟩
        refine StopW.of_w rfl rfl (by simp [lb_at, lk]) (fun box' nb' hb' => (hmk (nb + 25) box' (by rw [hb']; simp [lb_at, lk]) nb' tok1 nt1).mono fun v m1 hq => ⟨hq.1, hq.2⟩) ?_
        simp [lb_at, lk, upd_lb, upd_same, upd_upd, NK]
        refine ⟨⟨by omega, htk.live⟩, ?_⟩
        try (simp [hwi])
        repeat (first | (refine sR ?_; simp [hwi]) | (refine sC ?_; simp [hwi]) | (refine sX ?_; simp only [AU, ↓reduceIte]))
        refine sE ?_
        refine ⟨⟨i + 1, .tok nt1, upd (own.kill tok1) nt1 true, nt1 + 1⟩, ⟨by show i + 1 ≤ mdN codes; omega, htk.app⟩, by show mdN codes - (i + 1) < mdN codes - i; omega, ?_⟩
        simp only [stMd]
        exact Weaks.mk (by have := htk.le; omega) rfl (by simp [ToL, lk]) (by simp [BoxL, lk, hsn, Cm.cells_eq, pNm, sP])
      · have hic' : ¬ (i : Int) < (codes.length : Int) := by omega
        have hcd : codes.getD i [] = [] := by simp [hic]
        rw [hcd] at hsn
        refine sN ?_
        refine sR ?_
        simp
        refine sN ?_
        refine sR ?_
        simp [hic, hic']
        have hmk := make46_c rs hrs i (by omega) 4 3 (by decide) (by decide) false 0 [] (.inl rfl) (by simp [B8s]) (by simp)
        obtain ⟨c3, cs3, hc3⟩ : ∃ c3 cs3, mk46 rs i (3 + 1) false [] = (c3, cs3) := ⟨_, _, rfl⟩
        rw [hc3] at hmk
        rw [show mk46 rs i 4 false [] = (c3, cs3) from hc3] at hsn
        refine sC ?_
        simp
        refine AL.weak (S' := stMe codes rs nb box ⟨i, own, tok1, nt1⟩) (Weaks.mk htk.le rfl (by simp [stMe, ToL, lk]) (by simp [stMe, BoxL, lk, byE])) ?_
        simp only [stMe]
        refine sN ?_
        refine AL.region3 follows_Tryz (Nat.le_refl _) (by kernel_rfl) (Side.of (by simp)) [(Operand.tmp 37, Operand.tmp 39), (Operand.tmp 37, Operand.tmp 42)] (by kernel_rfl) ?_
        simp [lb_at, lk, upd_lb]
        refine StopW.of_d (hdg _ _) ?_
        simp [lb_at, lk, upd_lb]
        have z1 : (⟨#[112]⟩ : ByteArray).size = 1 := rfl
        refine ⟨by omega, ?_⟩
        refine StopW.of_w rfl rfl (by simp [lb_at, lk]) (fun box' nb' hb' => (hmk (nb + 25) box' (by rw [hb']; simp [lb_at, lk]) nb' tok1 nt1).mono fun v m1 hq => ⟨hq.1, hq.2⟩) ?_
        simp [lb_at, lk, upd_lb, upd_same, upd_upd, NK]
        refine ⟨⟨by omega, htk.live⟩, ?_⟩
        try (simp [hwi])
        repeat (first | (refine sR ?_; simp [hwi]) | (refine sC ?_; simp [hwi]) | (refine sX ?_; simp only [AU, ↓reduceIte]))
        refine sE ?_
        refine ⟨⟨i + 1, .tok nt1, upd (own.kill tok1) nt1 true, nt1 + 1⟩, ⟨by show i + 1 ≤ mdN codes; omega, htk.app⟩, by show mdN codes - (i + 1) < mdN codes - i; omega, ?_⟩
        simp only [stMd]
        exact Weaks.mk (by have := htk.le; omega) rfl (by simp [ToL, lk]) (by simp [BoxL, lk, hsn, Cm.cells_eq, pNm, sP])
  · have hie : i = mdN codes := by omega
    have hi1 : 1 ≤ i := by omega
    have h0b : ((i : Int) == 0) = false := by rw [beq_eq_false_iff_ne]; omega
    have h0 : ¬ i = 0 := by omega
    by_cases hic : i < codes.length
    · have hic' : (i : Int) < (codes.length : Int) := by omega
      have hi4 : ¬ (i : Int) < 4 := by omega
      subst hie
      try (simp [h0b, h0, hic, hic', hi4])
      repeat (refine sR ?_; simp [h0b, h0, hic, hic', hi4])
      refine sC ?_
      simp
      refine sX ?_
      simp only [AU, ↓reduceIte]
      try (simp)
      repeat (refine sR ?_; simp)
      refine sT ?_
      try simp only [AU]
      refine ⟨by simp, sF hbox htok htk.old htk.le ?_⟩
      simp [packA]
    · have hic' : ¬ (i : Int) < (codes.length : Int) := by omega
      subst hie
      try (simp [h0b, h0, hic, hic'])
      repeat (refine sR ?_; simp [h0b, h0, hic, hic'])
      refine sC ?_
      simp
      refine sX ?_
      simp only [AU, ↓reduceIte]
      try (simp)
      repeat (refine sR ?_; simp)
      refine sT ?_
      try simp only [AU]
      refine ⟨by simp, sF hbox htok htk.old htk.le ?_⟩
      simp [packA]
def rules3 : List ByteArray := [⟨#[109, 101, 114, 103, 101]⟩, ⟨#[112, 97, 121]⟩, ⟨#[115, 112, 108, 105, 116]⟩]
theorem rules_c (tok : Nat → Bool) (nt : Nat) : DCall Tryz.prog 27 [] tok nt (.d (strs rules3)) tok nt := by
  intro box nb
  refine sB Tryz.func27 Tryz.ntmps27 ?_
  intro hbox htok
  simp only at hbox htok
  apply AL.start
  try (simp)
  repeat (refine sR ?_; simp)
  refine ⟨rfl, ?_⟩
  try (simp)
  repeat (refine sR ?_; simp)
  refine sT ?_
  try simp only [AU]
  refine ⟨by simp, sF hbox htok (fun _ h => h) (Nat.le_refl _) ?_⟩
  simp [packA, rules3, strs]
end Go.AM
namespace Go.AM
open Go Go.Proofs
theorem md46_ok (codes : List (List Int)) {m : Nat} (h1 : 1 ≤ m) (h4 : m ≤ 10) : PrsOk (md46 codes rules3 m) ∧ (faultR (md46 codes rules3 m) [] false).2 = 0 ∧ (faultR (md46 codes rules3 m) rules3 true).2 = 0 := by
  have v1 := md46_valid (codes := codes) (rs := rules3) (rs' := []) (asked := false) h1 h4 (by decide) (by simp)
  have v2 := md46_valid (codes := codes) (rs := rules3) (rs' := rules3) (asked := true) h1 h4 (by decide) (fun _ r h => h)
  exact ⟨fault_ok (by rw [v1]), by rw [v1], by rw [v2]⟩
theorem mdN_rng (codes : List (List Int)) : 1 ≤ mdN codes ∧ mdN codes ≤ 4 := by unfold mdN; omega
end Go.AM
namespace Go.AM
open Go Go.Proofs Go.RowKit Go.Sort
theorem sort_k (w : World) (base : Nat) (v : Value) (xs L : List ByteArray) (hown : w.ownsRow base 9 1 v xs.length (xs.map fun s => Value.string s)) (hL : StrictU L) (hn : xs.Nodup) (hm : ∀ y, y ∈ xs ↔ y ∈ L) (hb0 : xs.length ≤ 1000000) :
    Calls Tryz.prog 29 #[v] w fun e w' => e = .returned (.tuple #[]) ∧ w'.ownsRow base 9 1 v L.length (L.map fun s => Value.string s) ∧ Gs base w w' := by
  have hss : (xs.map bsOf).Nodup := List.pairwise_map.2 (hn.imp fun {a b} hab e => hab (bsOf_inj e))
  have hmm : ∀ x, x ∈ xs.map bsOf ↔ ofBs x ∈ L := fun x => by
    rw [List.mem_map]
    constructor
    · rintro ⟨y, hy, rfl⟩
      rw [ofBs_bsOf]
      exact (hm y).1 hy
    · intro h
      exact ⟨ofBs x, (hm _).2 h, bsOf_ofBs x⟩
  have hfin := sorted_one hL hss hmm
  have hxe : (xs.map fun s => Value.string s) = (xs.map bsOf).map encStr := by
    rw [List.map_map]
    refine List.map_congr_left fun s _ => ?_
    show Value.string s = encStr (bsOf s)
    rw [enc_ofBs, ofBs_bsOf]
  have hLL : (L.map fun s => Value.string s) = ((xs.map bsOf).mergeSort fun x y => decide (x ≤ y)).map encStr := by
    rw [← hfin, List.map_map]
    rfl
  have hLen : L.length = xs.length := by rw [← hfin, List.length_map, List.length_mergeSort, List.length_map]
  have hown0 := hown
  rcases hown.2 with ⟨rfl, h0⟩ | ⟨g, cap, cur, rfl, hbase, hb, h1, h2, h3, h4⟩
  · obtain rfl : xs = [] := List.length_eq_zero_iff.1 h0
    have hL0 : L = [] := List.length_eq_zero_iff.1 hLen
    subst hL0
    exact (Tryz.slices_Sort_string_none none 0 w).mono fun e w' h => ⟨h.1, by rw [h.2]; exact hown, by rw [h.2]; exact Gs.refl _ _⟩
  · have hH : Holds encStr w g 0 (xs.map bsOf).toArray := holds_of_block hb (by
      rw [List.length_map, ← hxe]
      simpa using h4)
    have hc := Tryz.slices_Sort_string g 0 cap (xs.map bsOf) w hH (Array.getElem?_eq_some_iff.1 hb).1 (by rw [List.length_map]; omega)
    rw [List.length_map] at hc
    refine hc.mono ?_
    rintro e w' ⟨rfl, nn, os, rfl⟩
    refine ⟨rfl, ?_, Gs.row hown0 (grownBy_sorted _)⟩
    rw [hLL, hLen]
    have := ownsRow_sorted (ss := xs.map bsOf) (ts := (xs.map bsOf).mergeSort fun x y => decide (x ≤ y)) (os := os) (n := nn) (by simp) hbase hb (by rw [List.length_map]; exact h1) h2 h3
    rw [List.length_map] at this
    exact this
theorem expand_size {p : List Pr} {s : ByteArray} {k : Nat} (hp : PrsOk p) (h : (faultR p [] false).2 = 0) (hk : placeR p s = k) (he : (expandR p s).2 = 0) : (expandR p s).1.size ≤ 200 := by
  obtain ⟨hv, _⟩ := fault_valid h
  obtain ⟨hkl, _, _⟩ := placeR_spec hk
  obtain ⟨h1, h2⟩ := knR_ok hp hv (k + 1) (by omega)
  have hx := expand_at h hk
  have hg := h2.get (i := k) (by omega)
  by_cases hb : 200 < ((knR p (k + 1)).getD k ⟨zC, 0⟩).n
  · rw [if_pos hb] at hx
    rw [hx] at he
    cases he
  · rw [if_neg hb] at hx
    rw [hx]
    have := h2.s _ hg (by omega)
    simp only
    omega
theorem below_of {w v x : World} {base : Nat} (h : w.grownBy v none) (hb : w.heap.size ≤ base) (g : Gs base v x) : Below w.heap.size w x :=
  ⟨g.os.trans h.os, g.tape.trans h.tape, g.output.trans h.output, Nat.le_trans h.size g.size, fun k hk => (g.block k (Nat.lt_of_lt_of_le hk h.size) (.inl (Nat.lt_of_lt_of_le hk hb))).trans (h.block k hk (by simp))⟩
theorem rv_d {G : Gh} {w : World} {x : D} {v : Value} (h : RV G w (.d x) v) : Rdw w x v := by
  cases h with | d h => exact h.mono fun a u _ hc => ⟨trivial, hc⟩
theorem equal_k (xs ys : List ByteArray) (hx : xs.length ≤ 1000000000) (hy : ys.length ≤ 1000000000) (w : World) (v u : Value) (h : Rdw w (strs xs) v) (k : Rdw w (strs ys) u) :
    Calls Tryz.prog 22 #[v, u] w fun e w' => e = .returned (.bool (decide (xs = ys))) ∧ w.grownBy w' none := by
  refine ((equalS_c xs ys hx hy _ _).plain (RVs.cons (.d h) (RVs.cons (.d k) RVs.nil))).mono ?_
  rintro e w' ⟨u, G', rfl, hu, hg⟩
  cases hu with | d hu => cases hu; exact ⟨rfl, hg⟩
theorem awake_k (w : World) : Calls Tryz.prog 11 #[] w fun e w' => e = .returned (.bool true) ∧ w.grownBy w' none := by
  refine ((awake_c _ _).plain (vals := []) RVs.nil).mono ?_
  rintro e w' ⟨u, G', rfl, hu, hg⟩
  cases hu with | d hu => cases hu; exact ⟨rfl, hg⟩
theorem rules_k (w : World) : Calls Tryz.prog 27 #[] w fun e w' => ∃ v, e = .returned v ∧ Rdw w' (strs rules3) v ∧ w.grownBy w' none := by
  refine ((rules_c _ _).plain (vals := []) RVs.nil).mono ?_
  rintro e w' ⟨u, G', rfl, hu, hg⟩
  exact ⟨u, rfl, rv_d hu, hg⟩
theorem named_k (w : World) (v : Value) (h : Rdw w (strs rules3) v) : Calls Tryz.prog 20 #[v] w fun e w' => ∃ v, e = .returned v ∧ Rdw w' (rules46 rules3) v ∧ w.grownBy w' none := by
  refine ((named_c rules3 (by decide) _ _).plain (RVs.cons (.d h) RVs.nil)).mono ?_
  rintro e w' ⟨u, G', rfl, hu, hg⟩
  exact ⟨u, rfl, rv_d hu, hg⟩
theorem agg1 {G : Gh} {w : World} {x : D} {u : Value} (h : RV G w (.agg [.d x]) u) : ∃ v, u = .agg #[v] ∧ Rdw w x v := by
  cases h with
  | @agg _ vs hl hv ho =>
    match vs, hl with
    | [a], _ =>
      have h0 := hv 0 (by simp) (by simp)
      simp only [List.getElem_cons_zero] at h0
      exact ⟨a, rfl, rv_d h0⟩
theorem made_k (codes : List (List Int)) (hc : CodesOk codes) (w : World) (cv v : Value) (h : Rdw w (codesD codes) cv) (k : Rdw w (strs rules3) v) :
    Calls Tryz.prog 26 #[cv, v] w fun e w' => ∃ v, e = .returned (.agg #[v]) ∧ Rdw w' (prs (md46 codes rules3 (mdN codes))) v ∧ w.grownBy w' none := by
  refine ((made46_c codes hc rules3 (by decide) _ _).plain (RVs.cons (.d h) (RVs.cons (.d k) RVs.nil))).mono ?_
  rintro e w' ⟨u, G', rfl, hu, hg⟩
  obtain ⟨a, rfl, ha⟩ := agg1 hu
  exact ⟨a, rfl, ha, hg⟩
theorem rvs_prs {w : World} {p : List Pr} {pv : Value} (h : Rdw w (prs p) pv) : RV G00 w (prsAv p) (.agg #[pv]) := .agg (vs := [pv]) rfl (fun i h1 h2 => by
  have : i = 0 := by simp at h1; omega
  subst this
  exact .d h) (by simpa using rdw_one h)
theorem cm_agg {G : Gh} {w : World} {c : Cm} {u : Value} (h : RV G w c.av u) : ∃ sv, u = .agg #[.int .i64 c.kind, .string c.name, .int .i64 c.num, sv] ∧ Rdw w (cms c.kids) sv := by
  cases h with
  | @agg _ vs hl hv ho =>
    match vs, hl with
    | [a, b, d, e], _ =>
      have h0 := hv 0 (by simp) (by simp)
      have h1 := hv 1 (by simp) (by simp)
      have h2 := hv 2 (by simp) (by simp)
      have h3 := hv 3 (by simp) (by simp)
      simp only [List.getElem_cons_zero, List.getElem_cons_succ] at h0 h1 h2 h3
      cases h0 with | d h0 => cases h1 with | d h1 => cases h2 with | d h2 => cases h0; cases h1; cases h2; exact ⟨e, rfl, rv_d h3⟩
theorem expand_k (p : List Pr) (s : ByteArray) (hp : PrsOk p) (w : World) (pv : Value) (h : Rdw w (prs p) pv) :
    Calls Tryz.prog 23 #[.agg #[pv], .string s] w fun e w' => ∃ sv, e = .returned (.tuple #[.agg #[.int .i64 (expandR p s).1.kind, .string (expandR p s).1.name, .int .i64 (expandR p s).1.num, sv], .int .i64 (expandR p s).2]) ∧ Rdw w' (cms (expandR p s).1.kids) sv ∧ w.grownBy w' none := by
  refine ((expand_c p s hp _ _).plain (RVs.cons (rvs_prs h) (RVs.cons (.d (.raw rfl)) RVs.nil))).mono ?_
  rintro e w' ⟨u, G', rfl, hu, hg⟩
  cases hu with
  | @tup _ vs hl hv =>
    match vs, hl with
    | [a, b], _ =>
      have h0 := hv 0 (by simp) (by simp)
      have h1 := hv 1 (by simp) (by simp)
      simp only [List.getElem_cons_zero, List.getElem_cons_succ] at h0 h1
      obtain ⟨sv, rfl, hs⟩ := cm_agg h0
      cases h1 with | d h1 => cases h1; exact ⟨sv, rfl, hs, hg⟩
theorem uses_k (p : List Pr) (s : ByteArray) (hp : PrsOk p) (w : World) (pv rv : Value) (h : Rdw w (prs p) pv) (k : Rdw w (rules46 rules3) rv) :
    Calls Tryz.prog 19 #[.agg #[pv], rv, .string s] w fun e w' => ∃ v, e = .returned (.tuple #[v, .int .i64 (usesR p rules3 s).2]) ∧ Rdw w' (strs (usesR p rules3 s).1) v ∧ w.grownBy w' none := by
  refine (uses_c p rules3 s hp (by decide) _ _ |>.plain (RVs.cons (rvs_prs h) (RVs.cons (.d k) (RVs.cons (.d (.raw rfl)) RVs.nil)))).mono ?_
  rintro e w' ⟨u, G', rfl, hu, hg⟩
  cases hu with
  | @tup _ vs hl hv =>
    match vs, hl with
    | [a, b], _ =>
      have h0 := hv 0 (by simp) (by simp)
      have h1 := hv 1 (by simp) (by simp)
      simp only [List.getElem_cons_zero, List.getElem_cons_succ] at h0 h1
      cases h1 with | d h1 => cases h1; exact ⟨a, rfl, rv_d h0, hg⟩
end Go.AM
namespace Go.Proofs.YtedpnmlgbjcpcaaGreatDoor.expanded
open Go Go.Proofs Go.RowKit Go.AM Go.Maps Go.Sort Go.Shelf
def Post (w : World) (e : Ending) (w' : World) : Prop := e = .returned (.bool true) ∧ Below w.heap.size w w'
set_option maxHeartbeats 4000000 in
set_option maxRecDepth 100000 in
theorem any (codes : List (List Int)) (hc : CodesOk codes) (at' : Int) (ha : 0 ≤ at' ∧ at' < 256) (cv : Value) (w : World) (hcv : Rdw w (codesD codes) cv) :
    Calls Tryz.prog 7 #[cv, .int .u8 at'] w (Post w) := by
  obtain ⟨m1, m4⟩ := mdN_rng codes
  obtain ⟨ok1, f1, g1⟩ := md46_ok codes m1 (show mdN codes ≤ 10 by omega)
  have hlen := md46_len codes rules3 (mdN codes)
  have hk : ∃ k, k < mdN codes ∧ (at'.tmod ((mdN codes : Nat) : Int)) = (k : Nat) := by
    refine ⟨(at' % (mdN codes : Nat)).toNat, ?_, ?_⟩
    · have := Int.emod_lt_of_pos at' (show 0 < ((mdN codes : Nat) : Int) by omega)
      have := Int.emod_nonneg at' (show ((mdN codes : Nat) : Int) ≠ 0 by omega)
      omega
    · rw [Int.tmod_eq_emod_of_nonneg ha.1]
      have := Int.emod_nonneg at' (show ((mdN codes : Nat) : Int) ≠ 0 by omega)
      omega
  obtain ⟨k, hkm, hkt⟩ := hk
  have hget : ∀ h : k < (md46 codes rules3 (mdN codes)).length, ((md46 codes rules3 (mdN codes))[k]'h).name = pNm k := fun h => by rw [md46_get]
  have hpl := placeR_md (codes := codes) (rs := rules3) (m := mdN codes) (j := k) (by omega) hkm
  have hmk := fun (w : World) (cv v : Value) => made_k codes hc w cv v
  generalize md46 codes rules3 (mdN codes) = p at *
  generalize mdN codes = m at *
  subst hlen
  have hxe := expand_err f1 hpl
  have hue := uses_err g1 hpl
  have hex := expanded_ok ok1 g1 f1 hpl
  have hul := usesR_len p rules3 (pNm k)
  have hsz0 := expand_size ok1 f1 hpl
  rw [show rules3.length = 3 from rfl] at hul
  have hek := fun (w : World) (pv : Value) => expand_k p (pNm k) ok1 w pv
  have huk := fun (w : World) (pv rv : Value) => uses_k p (pNm k) ok1 w pv rv
  have hsm := expand_sm (pNm k) ok1
  have hpn := hget (by omega)
  have hkt2 : ((k : Nat) : Int) < (p.length : Int) := by omega
  have hwa : IntKind.i64.wrap at' = at' := wrap_in (by omega) (by omega)
  have hz : ((p.length : Nat) : Int) ≠ 0 := by omega
  have hwt : IntKind.i64.wrap ((k : Nat) : Int) = (k : Nat) := wrap_in (by omega) (by omega)
  rw [hue] at huk
  have hal : (usesR p rules3 (pNm k)).2 = 0 → (expandR p (pNm k)).2 = 0 → (apC (expandR p (pNm k)).1 []).1.length ≤ 1000 := fun _ h => by
    have := apC_len _ (expandR p (pNm k)).1 (Nat.lt_succ_self _) []
    have := hsz0 h
    simp at *
    omega
  generalize expandR p (pNm k) = E at *
  generalize usesR p rules3 (pNm k) = U at *
  have mixed : Tryz.prog.follows Departure.mixedOrders = true := by kernel_rfl
  go_enter Tryz.func7, Tryz.ntmps7
  go_wp2_with (first
    | (go_at_call 11; refine (awake_k _).mono ?_; rintro e w1 ⟨rfl, hg1⟩)
    | (go_at_call 27; refine (rules_k _).mono ?_; rintro e w2 ⟨rv, rfl, hrv, hg2⟩)
    | (go_at_call 26; refine (hmk _ _ _ (rdw_grown hg2 (by simp) (rdw_grown hg1 (by simp) hcv)) hrv).mono ?_; rintro e w3 ⟨pv, rfl, hpv, hg3⟩; obtain ⟨A, cap, rfl, hcap, hcell⟩ := proc_cells hpv; obtain ⟨b, off, A2, cap2, rfl, c0, c1, c2, c3, c4, hkd⟩ := hcell k (by omega); rw [hpn] at c0)
    | go_in)
  have hpe : ¬ p = [] := fun e => by subst e; simp at hz
  have d0 : ((w3.alloc (.cells #[.slice (some ⟨b, off, none⟩) p.length cap] 24)).drew).cell? ⟨b, off + k * 5, none⟩ = some (.string (pNm k)) := by
    have h : (w3.alloc (.cells #[.slice (some ⟨b, off, none⟩) p.length cap] 24)).cell? ⟨b, off + k * 5, none⟩ = some (.string (pNm k)) := (World.grownBy_alloc w3 _ none).cell c0 (by simp)
    exact h
  go_region_o
  have hg4 : w3.grownBy ((w3.alloc (.cells #[.slice (some ⟨b, off, none⟩) p.length cap] 24)).drew) none := Gb.trans (World.grownBy_alloc w3 _ none) ⟨rfl, rfl, rfl, Nat.le_refl _, fun _ _ _ => rfl⟩
  have hpc : ((w3.alloc (.cells #[.slice (some ⟨b, off, none⟩) p.length cap] 24)).drew).cell? ⟨w3.heap.size, 0, none⟩ = some (.slice (some ⟨b, off, none⟩) p.length cap) := by
    have h : (w3.alloc (.cells #[.slice (some ⟨b, off, none⟩) p.length cap] 24)).cell? ⟨w3.heap.size, 0, none⟩ = some (.slice (some ⟨b, off, none⟩) p.length cap) := by simp
    exact h
  have hpv4 := rdw_grown hg4 (by simp) hpv
  have hw04 : w.grownBy ((w3.alloc (.cells #[.slice (some ⟨b, off, none⟩) p.length cap] 24)).drew) none := Gb.trans hg1 (Gb.trans hg2 (Gb.trans hg3 hg4))
  have hbp : ((w3.alloc (.cells #[.slice (some ⟨b, off, none⟩) p.length cap] 24)).drew).heap[w3.heap.size]? = some (.cells #[.slice (some ⟨b, off, none⟩) p.length cap] 24 (0, 0)) := alloc_at _ _
  generalize (w3.alloc (.cells #[.slice (some ⟨b, off, none⟩) p.length cap] 24)).drew = W at *
  clear d0 c0 c1 c2 c3 c4 hkd hpv hrv hg1 hg2 hg3 hg4 hcell hmk
  go_wp2_with (first
    | (go_at_call 23; refine (hek _ _ hpv4).mono ?_; rintro e w5 ⟨sv, rfl, hsv, hg5⟩; obtain ⟨A3, cap3, rfl, _⟩ := YtedpnmlgbjcpcaaGreatDoor.collect.kid_cells hsv)
    | go_in)
  have hgV : W.grownBy (w5.alloc (.cells #[.int .i64 E.1.kind, .string E.1.name, .int .i64 E.1.num, .slice A3 E.1.kids.length cap3] 44)).drew none := Gb.trans hg5 (Gb.trans (World.grownBy_alloc w5 _ none) ⟨rfl, rfl, rfl, Nat.le_refl _, fun _ _ _ => rfl⟩)
  have hgD : (w5.alloc (.cells #[.int .i64 E.1.kind, .string E.1.name, .int .i64 E.1.num, .slice A3 E.1.kids.length cap3] 44)).grownBy (w5.alloc (.cells #[.int .i64 E.1.kind, .string E.1.name, .int .i64 E.1.num, .slice A3 E.1.kids.length cap3] 44)).drew none := ⟨rfl, rfl, rfl, Nat.le_refl _, fun _ _ _ => rfl⟩
  have hcV : (w5.alloc (.cells #[.int .i64 E.1.kind, .string E.1.name, .int .i64 E.1.num, .slice A3 E.1.kids.length cap3] 44)).heap[w5.heap.size]? = some (.cells #[.int .i64 E.1.kind, .string E.1.name, .int .i64 E.1.num, .slice A3 E.1.kids.length cap3] 44 (0, 0)) := alloc_at _ _
  have hsV := rdw_grown (World.grownBy_alloc w5 (.cells #[.int .i64 E.1.kind, .string E.1.name, .int .i64 E.1.num, .slice A3 E.1.kids.length cap3] 44) none) (by simp) hsv
  generalize w5.alloc (.cells #[.int .i64 E.1.kind, .string E.1.name, .int .i64 E.1.num, .slice A3 E.1.kids.length cap3] 44) = V at *
  have hpV : V.drew.cell? ⟨w3.heap.size, 0, none⟩ = some (.slice (some ⟨b, off, none⟩) p.length cap) := hgV.cell hpc (by simp)
  have hpvV := rdw_grown hgV (by simp) hpv4
  have hwV : w.grownBy V.drew none := Gb.trans hw04 hgV
  clear hg5 hpv4 hpc hw04 hbp
  go_region_with (first
    | (go_at_call 27; refine (rules_k _).mono ?_; rintro e w6 ⟨rv6, rfl, hrv6, hg6⟩; have hp6 := hg6.cell hpV (by simp))
    | (go_at_call 20; refine (named_k _ _ hrv6).mono ?_; rintro e w7 ⟨rv7, rfl, hrv7, hg7⟩; have hp7 := hg7.cell hp6 (by simp))
    | (go_at_call 19; refine (huk _ _ _ (rdw_grown hg7 (by simp) (rdw_grown hg6 (by simp) hpvV)) hrv7).mono ?_; rintro e w8 ⟨uv, rfl, huv, hg8⟩))
  all_goals
    have hw8 : w.grownBy w8 none := Gb.trans hwV (Gb.trans hg6 (Gb.trans hg7 hg8))
    have hgV8 : V.drew.grownBy w8 none := Gb.trans hg6 (Gb.trans hg7 hg8)
    have hs8 := rdw_grown hgV8 (by simp) (rdw_grown hgD (by simp) hsV)
    have hc8 : w8.heap[w5.heap.size]? = some (.cells #[.int .i64 E.1.kind, .string E.1.name, .int .i64 E.1.num, .slice A3 E.1.kids.length cap3] 44 (0, 0)) := (hgV8.block _ (Array.getElem?_eq_some_iff.1 hcV).1 (by simp)).trans hcV
    have q0 : w8.cell? ⟨w5.heap.size, 0, none⟩ = some (.int .i64 E.1.kind) := by simp [World.cell?, hc8]
    have q1 : w8.cell? ⟨w5.heap.size, 1, none⟩ = some (.string E.1.name) := by simp [World.cell?, hc8]
    have q2 : w8.cell? ⟨w5.heap.size, 2, none⟩ = some (.int .i64 E.1.num) := by simp [World.cell?, hc8]
    have q3 : w8.cell? ⟨w5.heap.size, 3, none⟩ = some (.slice A3 E.1.kids.length cap3) := by simp [World.cell?, hc8]
    obtain ⟨AU, capU, huve, _⟩ := rdw_sl huv (by decide)
    rw [List.length_map] at huve
    subst huve
    rcases hxe with h0 | h3
    · obtain ⟨a1, a2, a3, a4⟩ := hex h0
      have hz9 := hsz0 h0
      have hl9 := hal hue h0
      rw [h0]
      clear hcV hsV hg6 hg7 hg8 hgV8 hwV hpV hpvV hp6 hrv6 hrv7 hgV hgD
      go_wp2_with fail
      go_at_call 28
      refine (YtedpnmlgbjcpcaaGreatDoor.applied.any _ E.1 (Nat.lt_succ_self _) (by omega) (.slice A3 E.1.kids.length cap3) (.slice none 0 0) w8.heap.size [] _ (by simp; omega) (Nat.le_refl _) (Rdb.of hs8) (World.ownsRow_nil _ _ _ _)).mono ?_
      rintro e w9 ⟨v9, rfl, hown9, hgs9⟩
      rw [a1]
      go_wp2_with fail
      have hst := sort_k w9 w8.heap.size v9 (apC E.1 []).1 U.1 hown9 a3 a2 a4 (by omega)
      go_at_call 29
      refine hst.mono ?_
      clear hst
      rintro e w10 ⟨rfl, hown10, hgs10⟩
      have heq := equal_k U.1 U.1 (by omega) (by omega) w10 v9 _ (rdw_ownS hown10) (((Rdb.of huv).keep hgs9).keep hgs10).rdw
      rw [decide_eq_true rfl] at heq
      clear hs8 hc8 q0 q1 q2 q3 hown9 huv
      go_wp2_with fail
      go_at_call 22
      refine heq.mono ?_
      clear heq
      rintro e w11 ⟨rfl, hg11⟩
      go_wp2
      go_ret
      exact ⟨rfl, below_of hw8 hw8.size (hgs9.trans (hgs10.trans (Gs.grown hg11)))⟩
    · rw [h3]
      clear hcV hsV hg6 hg7 hg8 hgV8 hwV hpV hpvV hp6 hrv6 hrv7 hgV hgD
      go_wp2
      go_ret
      exact ⟨rfl, below_of hw8 hw8.size (Gs.refl _ _)⟩
end Go.Proofs.YtedpnmlgbjcpcaaGreatDoor.expanded
namespace Go.AM
open Go Go.Proofs Go.RowKit
theorem lawExpanded_c (codes : List (List Int)) (hc : CodesOk codes) (at' : Int) (ha : 0 ≤ at' ∧ at' < 256) (tok : Nat → Bool) (nt : Nat) : DCall Tryz.prog 7 [.d (codesD codes), Ub at'] tok nt (B true) tok nt := by
  intro box nb
  refine ⟨Enters.mk Tryz.func7 rfl (by kernel_rfl), fun G w vals hm hr0 => ?_⟩
  obtain ⟨hlen, hrv⟩ := hr0
  match vals, hlen with
  | [v0, v1], _ =>
    have h0 := hrv 0 (by simp) (by simp)
    have h1 := hrv 1 (by simp) (by simp)
    simp only [List.getElem_cons_zero, List.getElem_cons_succ] at h0 h1
    cases h1 with | d h1 =>
    cases h1
    refine (YtedpnmlgbjcpcaaGreatDoor.expanded.any codes hc at' ha v0 w (rv_d h0)).mono ?_
    rintro e w' ⟨rfl, hb⟩
    exact ⟨_, _, _, G, rfl, ⟨rfl, rfl⟩, rfl, Bw.rel hm hb, .d (.raw rfl), Bw.le hm hb, fun k hk => ⟨hk, rfl⟩⟩
end Go.AM
namespace Go.AM
open Go Go.Proofs Go.ChangeShapes
theorem u8_in {n : Int} (h : (Lit.int .u8 n).wf = true) : 0 ≤ n ∧ n < 256 := by
  simp [Lit.wf, IntKind.min, IntKind.max, IntKind.signed, IntKind.bits] at h
  omega
theorem by_u8 : Tryz.prog.bytesOf 5 = 1 := by kernel_rfl
theorem by_u8s : Tryz.prog.bytesOf 60 = 24 := by kernel_rfl
set_option maxRecDepth 100000 in
theorem arg_u8ss {ps : Array TypeId} {args : Array Value} {W : World} {base base' : Nat} {sp : Nat → Bool} {held : Bool} {H : Type} {enc : TypeId × Value → H} (hval : ∀ (j : Nat) t v, ps[j]? = some t → args[j]? = some v → Value.okWide Tryz.prog W .any base t v)
    (j : Nat) (v : Value) (hp : ps[j]? = some 49) (ha : args[j]? = some v) {d : DataW H} {p : List MemPlace} (h : DataW.Trod enc Tryz.prog W base' sp held 49 v d p) (hli : Light Tryz.prog 49 d) : ∃ l : List (List Int), CodesOk l ∧ RV G0 W (.d (codesD l)) v := by
  refine Exists.elim (arg_cell hval j 49 v hp ha rdU8ss (fun s => codesD s) aggT_49 (fun _ => rfl) h hli) fun s hs => ⟨s, ?_, hs.2⟩
  have h1 : (∀ x ∈ s, (∀ y ∈ x, (Lit.int .u8 y).wf = true) ∧ x.length * Tryz.prog.bytesOf 5 ≤ reachBytes) ∧ s.length * Tryz.prog.bytesOf 60 ≤ reachBytes := hs.1
  rw [by_u8s, by_u8, rch] at h1
  exact ⟨by omega, fun c hc => ⟨by have := (h1.1 c hc).2; omega, fun y hy => u8_in ((h1.1 c hc).1 y hy)⟩⟩
set_option maxRecDepth 100000 in
theorem arg_u8 {ps : Array TypeId} {args : Array Value} {W : World} {base base' : Nat} {sp : Nat → Bool} {held : Bool} {H : Type} {enc : TypeId × Value → H} (hval : ∀ (j : Nat) t v, ps[j]? = some t → args[j]? = some v → Value.okWide Tryz.prog W .any base t v)
    (j : Nat) (v : Value) (hp : ps[j]? = some 5) (ha : args[j]? = some v) {d : DataW H} {p : List MemPlace} (h : DataW.Trod enc Tryz.prog W base' sp held 5 v d p) (hli : Light Tryz.prog 5 d) : ∃ n : Int, (0 ≤ n ∧ n < 256) ∧ RV G0 W (.d (u8d n)) v := by
  refine Exists.elim (arg_cell hval j 5 v hp ha rdU8 (fun n => u8d n) (by kernel_rfl) (fun _ => rfl) h hli) fun g hg => ⟨g, u8_in hg.1, hg.2⟩
end Go.AM
