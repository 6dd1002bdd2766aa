/-
  Parts of the proof, as merged from many texts: a machine over data, what the functions compute, plain laws.
-/
import Derived.Test.YtedpnmlgbjcpcaaGreatDoorMP8
import Derived.WalkKit
import Derived.ProofKit
import Derived.OpenShut
import Derived.ChangeStays
import Derived.SizedLaws
import Derived.LaidMore
import Derived.Sort.Walk0
set_option linter.unusedSimpArgs false
set_option linter.unusedVariables false
namespace Go.AM
open Go Go.Proofs
theorem aw_uses : usesR exP [nMerge, nPay] nMain = ([nMerge, nPay], 0) := by kernel_rfl
theorem aw_exp : expandR exP nMain = (.mk 2 ⟨#[]⟩ 0 [cApply nPay, exLoop], 0) := by kernel_rfl
theorem aw_fmt : fmtR exP = (fmPs exP, 0) := by kernel_rfl
def awText : ByteArray := ⟨#[112, 114, 111, 99, 101, 100, 117, 114, 101, 32, 116, 105, 100, 121, 32, 123, 32, 108, 111, 111, 112, 32, 123, 32, 97, 112, 112, 108, 121, 32, 109, 101, 114, 103, 101, 32, 59, 32, 125, 32, 125, 32, 112, 114, 111, 99, 101, 100, 117, 114, 101, 32, 109, 97, 105, 110, 32, 123, 32, 97, 112, 112, 108, 121, 32, 112, 97, 121, 32, 59, 32, 99, 97, 108, 108, 32, 116, 105, 100, 121, 32, 59, 32, 125]⟩
def awPre : ByteArray := ⟨#[112, 114, 111, 99, 101, 100, 117, 114, 101, 32, 116, 105, 100, 121, 32, 123, 10, 32, 32, 108, 111, 111, 112, 32, 123, 10, 32, 32, 32, 32, 97, 112, 112, 108, 121, 32, 109, 101, 114, 103, 101, 32, 59, 10]⟩
theorem aw_parse : parseR awText = (exP, 0, 0) := by kernel_rfl
theorem aw_pre : Lib.hasPrefix (fmPs exP).data.toList awPre.data.toList = true := by kernel_rfl
theorem exP_ok : PrsOk exP := by
  refine ⟨by decide, ?_, ?_, ?_⟩
  · intro q hq
    simp only [exP, List.mem_cons, List.not_mem_nil, or_false] at hq
    rcases hq with rfl | rfl <;> decide
  · have h1 : ∀ s : ByteArray, s.size ≤ 200000000000000 → (cApply s).Sm := fun s h => .mk h (by show 0 ≤ _; omega) (fun x hx => by simp [cApply, Cm.kids] at hx)
    have h2 : (Cm.mk 10 nTidy 0 []).Sm := .mk (by decide) (by decide) (fun x hx => by simp [Cm.kids] at hx)
    intro q hq
    simp only [exP, List.mem_cons, List.not_mem_nil, or_false] at hq
    rcases hq with rfl | rfl
    · exact .mk (by decide) (by decide) (fun x hx => by simp [exLoop, Cm.kids] at hx; subst hx; exact h1 _ (by decide))
    · exact .mk (by decide) (by decide) (fun x hx => by
        simp [exMain, Cm.kids] at hx
        rcases hx with rfl | rfl
        · exact h1 _ (by decide)
        · exact h2)
  · intro q hq
    simp only [exP, List.mem_cons, List.not_mem_nil, or_false] at hq
    rcases hq with rfl | rfl <;> decide
theorem exLoop_cells : exLoop.cells = [lInt 5, lStr ⟨#[]⟩, lInt 0, cms [cApply nMerge]] := by rw [Cm.cells_eq]; rfl
set_option maxRecDepth 100000 in
theorem awake_c (tok : Nat → Bool) (nt : Nat) : DCall Tryz.prog 11 [] tok nt (B true) tok nt := by
  intro box nb
  refine sB Tryz.func11 Tryz.ntmps11 ?_
  intro hbox htok
  simp only at hbox htok
  apply AL.start
  try (simp)
  repeat (first | (refine sR ?_; simp) | (refine sC ?_; simp) | (refine sX ?_; simp only [AU, ↓reduceIte]))
  refine Stop.of_d (example_c _ _) ?_
  simp
  refine ⟨rfl, ?_⟩
  refine Stop.data ?_
  refine Stop.of_d (named_c [nMerge, nPay] (by decide) _ _) ?_
  simp
  have hu := uses_c exP [nMerge, nPay] nMain exP_ok (by decide)
  rw [aw_uses] at hu
  refine Stop.of_d (hu _ _) ?_
  simp
  try (simp)
  repeat (first | (refine sR ?_; simp) | (refine sC ?_; simp) | (refine sX ?_; simp only [AU, ↓reduceIte]))
  refine Stop.of_d (example_c _ _) ?_
  simp
  have he := expand_c exP nMain exP_ok
  rw [aw_exp] at he
  refine Stop.of_d (he _ _) ?_
  simp
  try (simp [Cm.kind, Cm.name, Cm.num, Cm.kids])
  repeat (first | (refine sR ?_; simp [Cm.kind, Cm.name, Cm.num, Cm.kids]) | (refine sC ?_; simp [Cm.kind, Cm.name, Cm.num, Cm.kids]) | (refine sX ?_; simp only [AU, ↓reduceIte]))
  refine Stop.of_d (example_c _ _) ?_
  simp
  have hf := format_c exP exP_ok
  rw [aw_fmt] at hf
  refine Stop.of_d (hf _ _) ?_
  simp
  try (simp)
  repeat (first | (refine sR ?_; simp) | (refine sC ?_; simp) | (refine sX ?_; simp only [AU, ↓reduceIte]))
  have hp := parse_c awText (by decide)
  rw [aw_parse] at hp
  refine Stop.of_d (hp _ _) ?_
  simp
  try (simp)
  repeat (first | (refine sR ?_; simp) | (refine sC ?_; simp) | (refine sX ?_; simp only [AU, ↓reduceIte]))
  refine ⟨rfl, ?_⟩
  refine Stop.data ?_
  refine Stop.of_d (equalS_c [nMerge, nPay] [nMerge, nPay] (by decide) (by decide) _ _) ?_
  simp
  try (simp [exLoop_cells])
  repeat (first | (refine sR ?_; simp [exLoop_cells]) | (refine sC ?_; simp [exLoop_cells]) | (refine sX ?_; simp only [AU, ↓reduceIte]))
  have hx := hasPrefix_c (fmPs exP) awPre
  rw [aw_pre] at hx
  refine Stop.of_d (hx _ _) ?_
  simp
  refine Stop.of_d (example_c _ _) ?_
  simp
  have hsm := same_c exP (by decide) exP_ok.bd
  refine Stop.of_d (hsm _ _) ?_
  simp
  try (simp)
  repeat (first | (refine sR ?_; simp) | (refine sC ?_; simp) | (refine sX ?_; simp only [AU, ↓reduceIte]))
  refine sT ?_
  try simp only [AU]
  refine ⟨by simp, sF hbox htok (fun _ h => h) (Nat.le_refl _) ?_⟩
  simp [packA]
end Go.AM
namespace Go.AM
open Go Go.Proofs
theorem fm_sm : ∀ (n : Nat) (c : Cm), c.size < n → c.size ≤ 1000000 → c.Fm → c.Sm
  | 0, c, h, _, _ => absurd h (Nat.not_lt_zero _)
  | n + 1, c, h, hz, hf => .mk (by have := hf.name; omega) (by have := c.kids_len; omega) fun x hx => fm_sm n x (by have := Cm.kid_size hx; omega) (by have := Cm.kid_size hx; omega) (hf.kid x hx)
theorem fault_ok {p : List Pr} {rs : List ByteArray} {asked : Bool} (h : (faultR p rs asked).2 = 0) : PrsOk p := by
  obtain ⟨hv, h20, h1, hpe⟩ := fault_valid h
  have hd := fault_depth hpe
  have hf := valid_fm hpe
  refine ⟨by omega, fun q hq => ?_, fun q hq => fm_sm _ _ (Nat.lt_succ_self _) (by have := (hd q hq).2.1; omega) (hf q hq), fun q hq => by have := (hd q hq).2.1; omega⟩
  have := nameB_size (hd q hq).2.2
  omega
theorem parse_ok (s : ByteArray) : PrsOk (parseR s).1 := by
  have h0 : PrsOk [] := ⟨by simp, by simp, by simp, by simp⟩
  unfold parseR
  split
  · exact h0
  · unfold parseL
    split
    · exact h0
    · split
      · exact h0
      · split
        · exact h0
        · rename_i h
          exact fault_ok (Decidable.not_not.1 h)
set_option maxRecDepth 100000 in
theorem lawParse_c (s : ByteArray) (tok : Nat → Bool) (nt : Nat) : DCall Tryz.prog 4 [Sb s] tok nt (B true) tok nt := by
  intro box nb
  by_cases hs : s.size ≤ 1500
  · have hp1 := parse_c s (by omega)
    have hp2 := parse46_c s (by omega)
    have hok := parse_ok s
    have hsm := same_c (parseR s).1 hok.len hok.bd
    have hgt : ¬ (1500 : Int) < s.size := by omega
    generalize parseR s = R at *
    refine sB Tryz.func4 Tryz.ntmps4 ?_
    intro hbox htok
    simp only at hbox htok
    apply AL.start
    try (simp)
    repeat (first | (refine sR ?_; simp) | (refine sC ?_; simp) | (refine sX ?_; simp only [AU, ↓reduceIte]))
    refine Stop.of_d (awake_c _ _) ?_
    simp
    try (simp [hgt])
    repeat (first | (refine sR ?_; simp [hgt]) | (refine sC ?_; simp [hgt]) | (refine sX ?_; simp only [AU, ↓reduceIte]))
    refine Stop.of_d (hp1 _ _) ?_
    simp
    try (simp)
    repeat (first | (refine sR ?_; simp) | (refine sC ?_; simp) | (refine sX ?_; simp only [AU, ↓reduceIte]))
    refine Stop.of_d (hp2 _ _) ?_
    simp
    try (simp)
    repeat (first | (refine sR ?_; simp) | (refine sC ?_; simp) | (refine sX ?_; simp only [AU, ↓reduceIte]))
    refine Stop.of_d (hsm _ _) ?_
    simp
    try (simp)
    repeat (first | (refine sR ?_; simp) | (refine sC ?_; simp) | (refine sX ?_; simp only [AU, ↓reduceIte]))
    refine sT ?_
    try simp only [AU]
    refine ⟨by simp, sF hbox htok (fun _ h => h) (Nat.le_refl _) ?_⟩
    simp [packA]
  · have hgt : (1500 : Int) < s.size := by omega
    refine sB Tryz.func4 Tryz.ntmps4 ?_
    intro hbox htok
    simp only at hbox htok
    apply AL.start
    try (simp)
    repeat (first | (refine sR ?_; simp) | (refine sC ?_; simp) | (refine sX ?_; simp only [AU, ↓reduceIte]))
    refine Stop.of_d (awake_c _ _) ?_
    simp
    try (simp [hgt])
    repeat (first | (refine sR ?_; simp [hgt]) | (refine sC ?_; simp [hgt]) | (refine sX ?_; simp only [AU, ↓reduceIte]))
    refine Stop.of_d (awake_c _ _) ?_
    simp
    try (simp)
    repeat (first | (refine sR ?_; simp) | (refine sC ?_; simp) | (refine sX ?_; simp only [AU, ↓reduceIte]))
    refine sT ?_
    try simp only [AU]
    refine ⟨by simp, sF hbox htok (fun _ h => h) (Nat.le_refl _) ?_⟩
    simp [packA]
end Go.AM
namespace Go.AM
open Go Go.ChangeShapes
variable {P : Program}
def Rd (w : World) (cs : List Value) (ds : List D) : Prop := cs.length = ds.length ∧ ∀ i (h1 : i < cs.length) (h2 : i < ds.length), RVd w.cell? (fun _ => True) ds[i] cs[i]
theorem Rd.append {w : World} {cs cs' : List Value} {ds ds' : List D} (h : Rd w cs ds) (k : Rd w cs' ds') : Rd w (cs ++ cs') (ds ++ ds') := by
  refine ⟨by simp [h.1, k.1], fun i h1 h2 => ?_⟩
  by_cases hi : i < cs.length
  · rw [List.getElem_append_left hi, List.getElem_append_left (by rw [← h.1]; exact hi)]
    exact h.2 i hi _
  · have hl := h.1
    rw [List.getElem_append_right (by omega), List.getElem_append_right (by omega)]
    have := k.2 (i - cs.length) (by simp at h1; omega) (by have := k.1; simp at h1; omega)
    simpa [hl] using this
theorem Rd.one {w : World} {c : Value} {d : D} (h : RVd w.cell? (fun _ => True) d c) : Rd w [c] [d] := ⟨rfl, fun i h1 h2 => by
  have : i = 0 := by simpa using h1
  subst this
  exact h⟩
def Light {H : Type} (P : Program) (T : TypeId) (d : DataW H) : Prop := (d.weights P T).all (· ≤ reachBytes) = true
structure Rdr (P : Program) (T : TypeId) (α : Type) where
  enc : α → List D
  ok : α → Prop
  len : ∀ x, (enc x).length = P.cellsOf T
  sound : ∀ {H : Type} (e : TypeId × Value → H) (w : World) (base : Nat) (spare : Nat → Bool) (held : Bool) (fuel : Nat) (cs : List Value) (x : DataW H × List MemPlace),
    DataW.trod e P w base spare held fuel T cs = some x → ∃ y, Rd w cs (enc y) ∧ (Light P T x.1 → ok y)
def Rdr.int {T : TypeId} {k : IntKind} (h : P.underlying T = some (.int k)) (hc : P.cellsOf T = 1) : Rdr P T Int where
  enc n := [.raw (.int k n)]
  ok n := (Lit.int k n).wf = true
  len _ := by simp [hc]
  sound e w base spare held fuel cs x hx := by
    cases fuel with
    | zero => simp [DataW.trod] at hx
    | succ n =>
      unfold DataW.trod at hx
      rw [h] at hx
      split at hx <;> simp_all
      rename_i k' n' _
      exact ⟨n', Rd.one (.raw rfl), fun _ => hx.1.2⟩
theorem cells_spec {w : World} {base : Nat} {a : Addr} {n : Nat} {l : List Value} (h : w.cells? base a n = some l) : l.length = n ∧ ∀ i (hi : i < l.length), w.cell? (a.add i) = some l[i] := by
  unfold World.cells? at h
  split at h
  · have h1 : l.length = n := by have := mapM_some_length h; simpa using this
    refine ⟨h1, fun i hi => ?_⟩
    have hin : i < n := by omega
    have := mapM_some_get h i i (by simp [hin])
    rw [this]
    exact List.getElem?_eq_getElem hi
  · cases h
theorem light_slice {H : Type} {T E : TypeId} (h : P.underlying T = some (.slice E)) {elems rest : List (DataW H)} (hl : Light P T (.slice elems rest)) : elems.length * P.bytesOf E ≤ reachBytes ∧ ∀ d ∈ elems, Light P E d := by
  unfold Light at hl ⊢
  simp only [DataW.weights, h, List.all_cons, List.all_append, Bool.and_eq_true, decide_eq_true_eq] at hl
  refine ⟨Nat.le_trans (Nat.mul_le_mul_right _ (Nat.le_add_right _ _)) hl.1, ?_⟩
  have key : ∀ l : List (DataW H), (DataW.weightsAll P E l).all (· ≤ reachBytes) = true → ∀ d ∈ l, (d.weights P E).all (· ≤ reachBytes) = true := by
    intro l
    induction l with
    | nil => intro _ d hd; simp at hd
    | cons x l ih =>
      intro hx d hd
      simp only [DataW.weightsAll, List.all_append, Bool.and_eq_true] at hx
      rcases List.mem_cons.1 hd with rfl | hd
      · exact hx.1
      · exact ih hx.2 d hd
  exact key elems hl.2.1
def Rdr.slice {T E : TypeId} {α : Type} (r : Rdr P E α) (h : P.underlying T = some (.slice E)) (hc : P.cellsOf T = 1) : Rdr P T (List α) where
  enc l := [.sl (P.cellsOf E) (l.map r.enc)]
  ok l := (∀ x ∈ l, r.ok x) ∧ l.length * P.bytesOf E ≤ reachBytes
  len _ := by simp [hc]
  sound e w base spare held fuel cs x hx := by
    rcases DataW.trod_slice h hx with ⟨rfl, rfl⟩ | ⟨a, len, cap, elems, rest, n, rfl, rfl, rfl, hb, hl, hm, hel, hat, _⟩
    · exact ⟨[], Rd.one (.sl (es := []) (fun _ _ => default) (Nat.le_refl _) (by decide) (by simp) (by simp) (by simp) (by simp)), fun _ => ⟨by simp, by simp⟩⟩
    · have key : ∀ i (hi : i < elems.length), ∃ cs y, cs.length = P.cellsOf E ∧ (∀ j (hj : j < cs.length), w.cell? (a.add (i * P.cellsOf E + j)) = some cs[j]) ∧ Rd w cs (r.enc y) ∧ (Light P E elems[i].1 → r.ok y) := by
        intro i hi
        have h1 := hat i (by omega)
        have h2 : elems[i]? = some elems[i] := List.getElem?_eq_getElem hi
        rw [h2, Option.bind_eq_some_iff] at h1
        obtain ⟨cs, hcs, htr⟩ := h1
        obtain ⟨hcl, hcc⟩ := cells_spec hcs
        obtain ⟨y, hy, hok⟩ := r.sound e w base spare held n cs _ htr
        refine ⟨cs, y, hcl, fun j hj => ?_, hy, hok⟩
        rw [← Addr.add_add]
        exact hcc j hj
      have pick : ∀ m, m ≤ elems.length → ∃ ys : List α, ys.length = m ∧ (∀ i (hi : i < ys.length) (hi2 : i < elems.length), ∃ cs, cs.length = P.cellsOf E ∧ (∀ j (hj : j < cs.length), w.cell? (a.add (i * P.cellsOf E + j)) = some cs[j]) ∧ Rd w cs (r.enc ys[i]) ∧ (Light P E elems[i].1 → r.ok ys[i])) := by
        intro m
        induction m with
        | zero => intro _; exact ⟨[], rfl, fun i hi => by simp at hi⟩
        | succ m ih =>
          intro hm'
          obtain ⟨ys, hys, hall⟩ := ih (by omega)
          obtain ⟨cs, y, g1, g2, g3, g4⟩ := key m (by omega)
          refine ⟨ys ++ [y], by simp [hys], fun i hi hi2 => ?_⟩
          by_cases him : i < ys.length
          · rw [List.getElem_append_left him]
            exact hall i him hi2
          · have : i = m := by simp at hi; omega
            subst this
            have e1 : (ys ++ [y])[i] = y := by
              rw [List.getElem_append_right (by omega)]
              simp
            rw [e1]
            exact ⟨cs, g1, g2, g3, g4⟩
      obtain ⟨ys, hys, hall⟩ := pick elems.length (Nat.le_refl _)
      refine ⟨ys, Rd.one ?_, fun hli => ?_⟩
      · have hlen : len = ys.length := by omega
        subst hlen
        have hml : ys.length = (ys.map r.enc).length := by simp
        rw [hml]
        refine .sl (fun i j => (w.cell? (a.add (i * P.cellsOf E + j))).getD default) (by simpa using hl) hm (fun e he => ?_) (fun _ => ⟨a, rfl⟩) (fun a' ha' i j hi hj => ?_) (fun i j hi hj => ?_)
        · obtain ⟨y, _, rfl⟩ := List.mem_map.1 he
          exact r.len y
        · cases ha'
          obtain ⟨cs, g1, g2, _⟩ := hall i (by simpa using hi) (by simp at hi; omega)
          rw [g2 j (by omega)]
          exact ⟨trivial, rfl⟩
        · obtain ⟨cs, g1, g2, g3, _⟩ := hall i (by simpa using hi) (by simp at hi; omega)
          simp only [List.getElem_map] at hj ⊢
          have hjc : j < cs.length := by rw [g3.1]; exact hj
          rw [g2 j hjc]
          exact g3.2 j hjc hj
      · obtain ⟨w1, w2⟩ := light_slice h hli
        refine ⟨fun y hy => ?_, by simpa [hys] using w1⟩
        obtain ⟨i, hi, rfl⟩ := List.getElem_of_mem hy
        obtain ⟨_, _, _, _, h4⟩ := hall i hi (by omega)
        exact h4 (w2 _ (List.mem_map.2 ⟨_, List.getElem_mem _, rfl⟩))
def Rdr.map {T : TypeId} {α β : Type} (r : Rdr P T α) (f : α → β) (enc : β → List D) (ok : β → Prop) (he : ∀ x, enc (f x) = r.enc x) (hok : ∀ x, r.ok x → ok (f x)) (hl : ∀ y, (enc y).length = P.cellsOf T) : Rdr P T β where
  enc := enc
  ok := ok
  len := hl
  sound e w base spare held fuel cs x hx := by
    obtain ⟨y, h1, h2⟩ := r.sound e w base spare held fuel cs x hx
    exact ⟨f y, by rw [he]; exact h1, fun hl => hok y (h2 hl)⟩
def Rdr.sliceN {T E : TypeId} {α : Type} (r : Rdr P E α) (n : Nat) (h : P.underlying T = some (.slice E)) (hc : P.cellsOf T = 1) (hn : P.cellsOf E = n) : Rdr P T (List α) where
  enc l := [.sl n (l.map r.enc)]
  ok l := (∀ x ∈ l, r.ok x) ∧ l.length * P.bytesOf E ≤ reachBytes
  len _ := by simp [hc]
  sound := by
    subst hn
    exact (Rdr.slice r h hc).sound
theorem list2 {α : Type} {l : List α} (h : l.length = 2) : l = [l[0]'(by omega), l[1]'(by omega)] := by
  match l, h with
  | [p, q], _ => rfl
def Rdr.struct2 {T A B : TypeId} {α β : Type} (r : Rdr P A α) (s : Rdr P B β) {f0 f1 : Field} (h : P.underlying T = some (.struct #[f0, f1])) (hA : f0.type = A) (hB : f1.type = B) (h0 : f0.offset = 0) (h1 : f1.offset = P.cellsOf A)
    (hc : P.cellsOf T = P.cellsOf A + P.cellsOf B) : Rdr P T (α × β) where
  enc x := r.enc x.1 ++ s.enc x.2
  ok x := r.ok x.1 ∧ s.ok x.2
  len x := by simp [r.len, s.len, hc]
  sound e w base spare held fuel cs x hx := by
    obtain ⟨xs, n, rfl, rfl, hl, hxs, hat⟩ := DataW.trod_struct h hx
    have hxs' : xs.length = 2 := hxs
    have g0 := hat 0 f0 rfl
    have g1 := hat 1 f1 rfl
    have e0 : xs[0]? = some (xs[0]'(by omega)) := List.getElem?_eq_getElem (by omega)
    have e1 : xs[1]? = some (xs[1]'(by omega)) := List.getElem?_eq_getElem (by omega)
    rw [e0, h0, hA] at g0
    rw [e1, h1, hB] at g1
    obtain ⟨y, k1, k2⟩ := r.sound e w base spare held n _ _ g0
    obtain ⟨z, m1, m2⟩ := s.sound e w base spare held n _ _ g1
    refine ⟨(y, z), ?_, fun hli => ?_⟩
    rotate_left
    · unfold Light at hli k2 m2
      have e2 : xs = [xs[0]'(by omega), xs[1]'(by omega)] := list2 hxs'
      rw [e2] at hli
      simp only [List.map_cons, List.map_nil, DataW.weights, h, DataW.weightsEach, hA, hB, List.all_append, Bool.and_eq_true] at hli
      exact ⟨k2 hli.1, m2 hli.2.1⟩
    have hcs : cs = (cs.drop 0).take (P.cellsOf A) ++ (cs.drop (P.cellsOf A)).take (P.cellsOf B) := by
      have : (cs.drop (P.cellsOf A)).take (P.cellsOf B) = cs.drop (P.cellsOf A) := List.take_of_length_le (by simp; omega)
      rw [this, List.drop_zero, List.take_append_drop]
    rw [hcs]
    exact k1.append m1
def G0 : Gh := ⟨fun _ => none, fun _ => none, fun _ => .whole, 0⟩
def m0 : AMem := ⟨fun _ => none, 0, fun _ => false, 0⟩
theorem G0_ps (a : Addr) : G0.ps a := trivial
theorem relM_start (W : World) : RelM G0 m0 W := by
  constructor
  case box => intro k rows b sz h; cases h
  case nobox => intro k _; rfl
  case inj => intro k k' b sz sz' h; cases h
  case nb => intro k _; rfl
  case nt => rfl
  case toks => intro t h; cases h
  case tokb => intro t g h; cases h
  case tinj => intro t t' g h; cases h
  case tnt => intro t x h; cases h
  case fresh => intro b _; rfl
theorem RVd.start {W : World} {d : D} {v : Value} (h : RVd W.cell? (fun _ => True) d v) : RVd W.cell? G0.ps d v := h.mono fun a u _ hc => ⟨G0_ps a, hc⟩
theorem Rdr.agg {T : TypeId} {α : Type} (r : Rdr P T α) {W : World} {base base' : Nat} {sp : Nat → Bool} {held : Bool} {H : Type} {enc : TypeId × Value → H} {v : Value} {d : DataW H} {p : List MemPlace}
    (hs : aggT P T = some true) (hv : Value.okWide P W .any base T v) (h : DataW.Trod enc P W base' sp held T v d p) (hli : Light P T d) : ∃ y, r.ok y ∧ RV G0 W (.agg ((r.enc y).map .d)) v := by
  have hcs : ∃ cs, v = .agg cs := by
    unfold aggT at hs
    unfold Value.okWide at hv
    cases hu : P.underlying T with
    | none => rw [hu] at hs; simp at hs
    | some u =>
      rw [hu] at hs hv
      cases u <;> simp at hs hv <;> exact ⟨_, hv.choose_spec.1⟩
  obtain ⟨cs, rfl⟩ := hcs
  obtain ⟨fuel, h⟩ := h
  obtain ⟨y, ⟨h1, h2⟩, hok⟩ := r.sound enc W base' sp held fuel _ _ h
  refine ⟨y, hok hli, ?_⟩
  simp only [Value.cells] at h1 h2
  have := RV.agg (G := G0) (w := W) (cs := (r.enc y).map .d) (vs := cs.toList) (by simp [h1]) (fun i g1 g2 => by
    simp only [List.getElem_map]
    exact .d (h2 i g2 (by simpa using g1)).start) (fun v hv => by
    obtain ⟨i, hi, rfl⟩ := List.getElem_of_mem hv
    exact (h2 i hi (by omega)).one)
  simpa using this
theorem Rdr.cell {T : TypeId} {α : Type} (r : Rdr P T α) {W : World} {base base' : Nat} {sp : Nat → Bool} {held : Bool} {H : Type} {enc : TypeId × Value → H} {v : Value} {d : DataW H} {p : List MemPlace} (f : α → D)
    (hs : aggT P T = some false) (hf : ∀ y, r.enc y = [f y]) (hv : Value.okWide P W .any base T v) (h : DataW.Trod enc P W base' sp held T v d p) (hli : Light P T d) : ∃ y, r.ok y ∧ RV G0 W (.d (f y)) v := by
  obtain ⟨fuel, h⟩ := h
  obtain ⟨y, ⟨h1, h2⟩, hok⟩ := r.sound enc W base' sp held fuel _ _ h
  refine ⟨y, hok hli, ?_⟩
  rw [hf] at h1
  have hcs : v.cells.toList = [v] := by
    cases v with
    | agg cs =>
      exfalso
      unfold aggT at hs
      unfold Value.okWide Cell.okWide Cell.ok at hv
      cases hu : P.underlying T with
      | none => rw [hu] at hs; simp at hs
      | some u =>
        rw [hu] at hs hv
        cases u <;> simp_all
    | _ => rfl
  have := h2 0 (by rw [h1]; simp) (by rw [hf]; simp)
  simp only [hf, List.getElem_cons_zero] at this
  have e : v.cells.toList[0]'(by rw [h1]; simp) = v := by simp [hcs]
  rw [e] at this
  exact .d this.start
theorem light_arg {H : Type} {ts : List TypeId} {ds : List (DataW H)} (hz : (DataW.weightsEach P ts ds).all (· ≤ reachBytes) = true) {j : Nat} {T : TypeId} {d : DataW H} (ht : ts[j]? = some T) (hd : ds[j]? = some d) : Light P T d :=
  List.all_eq_true.2 fun x hx => List.all_eq_true.1 hz x (DataW.weights_mem_each ht hd x hx)
theorem arg_agg {ps : Array TypeId} {args : Array Value} {W : World} {base base' : Nat} {sp : Nat → Bool} {held : Bool} {H : Type} {enc : TypeId × Value → H} (hval : ∀ (j : Nat) t v, ps[j]? = some t → args[j]? = some v → Value.okWide P W .any base t v)
    (j : Nat) (T : TypeId) (v : Value) (hp : ps[j]? = some T) (ha : args[j]? = some v) {α : Type} (r : Rdr P T α) {d : DataW H} {p : List MemPlace} (hs : aggT P T = some true) (h : DataW.Trod enc P W base' sp held T v d p) (hli : Light P T d) :
    ∃ y, r.ok y ∧ RV G0 W (.agg ((r.enc y).map .d)) v := r.agg hs (hval j T v hp ha) h hli
theorem arg_cell {ps : Array TypeId} {args : Array Value} {W : World} {base base' : Nat} {sp : Nat → Bool} {held : Bool} {H : Type} {enc : TypeId × Value → H} (hval : ∀ (j : Nat) t v, ps[j]? = some t → args[j]? = some v → Value.okWide P W .any base t v)
    (j : Nat) (T : TypeId) (v : Value) (hp : ps[j]? = some T) (ha : args[j]? = some v) {α : Type} (r : Rdr P T α) (f : α → D) {d : DataW H} {p : List MemPlace} (hs : aggT P T = some false) (hf : ∀ y, r.enc y = [f y]) (h : DataW.Trod enc P W base' sp held T v d p) (hli : Light P T d) :
    ∃ y, r.ok y ∧ RV G0 W (.d (f y)) v := r.cell f hs hf (hval j T v hp ha) h hli
theorem le_old {W W' : World} {G' : Gh} (h : Le G0 W G' W') (b : Nat) (hb : b < W.heap.size) : W'.heap[b]? = W.heap[b]? := (h.whole b hb rfl).2
theorem le_kept {W W' : World} {G' : Gh} (h : Le G0 W G' W') (may : MemPlace → Prop) : W.keptBut W' may := by
  refine ⟨h.os, h.output, fun i hi => ?_⟩
  rw [le_old h i hi]
  split
  · rename_i c t fr c' t' fr' e1 e2
    rw [e1] at e2
    cases e2
    exact ⟨rfl, rfl, rfl, fun _ _ => rfl⟩
  · rename_i e1 e2
    rw [e1] at e2
    cases e2
    exact .inr ⟨rfl, rfl⟩
  · rfl
theorem le_same {W W' : World} {G' : Gh} (h : Le G0 W G' W') {p : MemPlace} (hp : p.block < W.heap.size) : W.sameAt W' p := by
  cases p with
  | cell b off => exact World.cell?_of_block (w := W) (a := ⟨b, off, none⟩) (le_old h b hp)
  | map b => exact le_old h b hp
theorem trodAll_stays {H : Type} {enc : TypeId × Value → H} {W W' : World} {T : TypeId → Prop} {sp' : Nat → Bool} (K : Kids P T) (hsz : ∀ {t e : TypeId}, T t → P.underlying t = some (.slice e) → 0 < P.cellsOf e) :
    ∀ {ts : List TypeId} {vs : List Value} {ds : List (DataW H)} {ps : List MemPlace}, (∀ t ∈ ts, T t) → DataW.TrodAll enc P W 0 (fun _ => true) true ts vs ds ps → (∀ p ∈ ps, W.sameAt W' p) → (∀ p ∈ ps, sp' p.block = true) →
    DataW.TrodAll enc P W' 0 sp' true ts vs ds ps
  | [], [], [], _, _, h, _, _ => h
  | t :: ts, v :: vs, d :: ds, _, hT, ⟨p, q, ⟨n, hn⟩, h2, e⟩, h3, h4 => by
    subst e
    exact ⟨p, q, ⟨n, DataW.trod_stays K hsz (fun h => by cases h) (hT t (by simp)) hn (fun x hx => h3 x (by simp [hx])) (fun x hx => h4 x (by simp [hx]))⟩,
      trodAll_stays K hsz (fun t ht => hT t (by simp [ht])) h2 (fun x hx => h3 x (by simp [hx])) (fun x hx => h4 x (by simp [hx])), rfl⟩
theorem law_of {f : FuncId} {fn : Func} {s : ChangeSpec} {H : Type} {enc : TypeId × Value → H} {W : World} {args : Array Value} {ds : List (DataW H)} {before : List MemPlace} {avs : List AV} {tok' : Nat → Bool} {nt' : Nat}
    (hl : laidOutB P = true) (hm : mapsRowed P = true) (hz : ((List.range P.types.size).all fun t => match P.underlying t with | some (.slice e) => decide (0 < P.cellsOf e) | _ => true) = true)
    (hpar : fn.params.all (· < P.types.size) = true) {tb : TypeId} (hres : fn.resultTypes = #[tb]) (hb : P.underlying tb = some .bool)
    (hvars : s.vars = []) (hfn : s.fn H ds = { results := [.lit (.bool true)], args := ds })
    (hW : DataW.Whole enc P fn.params.toList s.vars false W args.toList ds [] before) (hr : RVs G0 W avs args.toList) (hc : DCall P f avs (fun _ => false) 0 (B true) tok' nt') :
    Calls P f args W fun e W' => ∃ v, e = .returned v ∧ s.post enc P fn false true false false W args v W' := by
  have hcall := (hc (fun _ => none) 0).2 G0 W args.toList (relM_start W) hr
  simp only [Array.toArray_toList] at hcall
  refine hcall.mono ?_
  rintro e W' ⟨v, av, m', G', rfl, ⟨rfl, rfl⟩, _, _, hv, hle, _⟩
  cases hv with
  | d hv =>
    cases hv with
    | raw =>
      refine ⟨_, rfl, ?_⟩
      have hlt := hW.lt
      have hWW := hW
      obtain ⟨p, q, hA, hV, rfl, hfz, hnd⟩ := hW
      rw [hvars] at hV
      obtain ⟨_, rfl⟩ := trodVars_none hV
      simp only [List.append_nil] at hlt hfz hWW ⊢
      have hT : ∀ t ∈ fn.params.toList, t < P.types.size := fun t ht => by
        have := Array.all_eq_true_iff_forall_mem.1 hpar t (by simpa using ht)
        simpa using this
      have hsz : ∀ {t e : TypeId}, t < P.types.size → P.underlying t = some (.slice e) → 0 < P.cellsOf e := by
        intro t e ht hu
        have := List.all_eq_true.1 hz t (List.mem_range.2 ht)
        rw [hu] at this
        simpa using this
      have hargs : ∀ sp : Nat → Bool, (∀ x ∈ p, sp x.block = true) → DataW.TrodAll enc P W' 0 sp true fn.params.toList args.toList ds p := fun sp hsp =>
        trodAll_stays (kids_rows hl hm) hsz hT hA (fun x hx => le_same hle (hlt x hx)) hsp
      have hnat : (Value.bool true).resultList fn.resultTypes.size = [.bool true] := by rw [hres]; rfl
      have hresb : ∀ (b : Nat) (sp : Nat → Bool) (hd : Bool), DataW.TrodAll enc P W' b sp hd fn.resultTypes.toList ((Value.bool true).resultList fn.resultTypes.size) [.lit (.bool true)] [] := fun b sp hd => by
        rw [hnat, hres]
        exact trodAll_mk1 ⟨1, by simp [DataW.trod, hb, Value.cells]⟩
      have hfn' : s.fn H (ds ++ []) = { results := [.lit (.bool true)], args := ds } := by rw [List.append_nil]; exact hfn
      refine ⟨ds, [], p, [], p, [], hWW, ?_, ?_, ?_, World.keptBut_mono (fun _ f => f.elim) (le_kept hle fun _ => False), fun h => by cases h⟩
      · rw [hfn']; exact hresb _ _ _
      · rw [hfn']; exact hargs _ fun x hx => by simpa using hlt x hx
      · rw [hfn', hvars]; exact rfl
end Go.AM
namespace Go.AM
open Go Go.ChangeShapes
structure RdF (P : Program) (T : TypeId) {α : Type} (en : α → List D) (ok : α → Prop) (n : Nat) : Prop where
  sound : ∀ {H : Type} (e : TypeId × Value → H) (w : World) (base : Nat) (spare : Nat → Bool) (held : Bool) (cs : List Value) (x : DataW H × List MemPlace),
    DataW.trod e P w base spare held n T cs = some x → ∃ y, Rd w cs (en y) ∧ (Light P T x.1 → ok y)
theorem Rdr.f {P : Program} {T : TypeId} {α : Type} (r : Rdr P T α) (n : Nat) : RdF P T r.enc r.ok n := ⟨fun e w base spare held cs x hx => r.sound e w base spare held n cs x hx⟩
theorem RdF.zero {P : Program} {T : TypeId} {α : Type} {en : α → List D} {ok : α → Prop} : RdF P T en ok 0 := ⟨fun e w base spare held cs x hx => by simp [DataW.trod] at hx⟩
def Rdr.ofF {P : Program} {T : TypeId} {α : Type} (en : α → List D) (ok : α → Prop) (len : ∀ x, (en x).length = P.cellsOf T) (h : ∀ n, RdF P T en ok n) : Rdr P T α := ⟨en, ok, len, fun e w base spare held n cs x hx => (h n).sound e w base spare held cs x hx⟩
theorem RdF.slice {P : Program} {T E : TypeId} {α : Type} {en : α → List D} {ok : α → Prop} {n : Nat} (r : RdF P E en ok n) (k : Nat) (hk : P.cellsOf E = k) (hlen : ∀ x, (en x).length = k) (h : P.underlying T = some (.slice E)) :
    RdF P T (fun l : List α => [.sl k (l.map en)]) (fun l => (∀ x ∈ l, ok x) ∧ l.length * P.bytesOf E ≤ reachBytes) (n + 1) := by
  subst hk
  constructor
  intro H e w base spare held cs x hx
  rcases DataW.trod_slice h hx with ⟨rfl, rfl⟩ | ⟨a, len, cap, elems, rest, n', hn', rfl, rfl, hb, hl, hm, hel, hat, _⟩
  · exact ⟨[], Rd.one (.sl (es := []) (fun _ _ => default) (Nat.le_refl _) (by decide) (by simp) (by simp) (by simp) (by simp)), fun _ => ⟨by simp, by simp⟩⟩
  · obtain rfl : n' = n := by omega
    have key : ∀ i (hi : i < elems.length), ∃ cs y, cs.length = P.cellsOf E ∧ (∀ j (hj : j < cs.length), w.cell? (a.add (i * P.cellsOf E + j)) = some cs[j]) ∧ Rd w cs (en y) ∧ (Light P E elems[i].1 → ok y) := by
      intro i hi
      have h1 := hat i (by omega)
      have h2 : elems[i]? = some elems[i] := List.getElem?_eq_getElem hi
      rw [h2, Option.bind_eq_some_iff] at h1
      obtain ⟨cs, hcs, htr⟩ := h1
      obtain ⟨hcl, hcc⟩ := cells_spec hcs
      obtain ⟨y, hy, hok⟩ := r.sound e w base spare held cs _ htr
      refine ⟨cs, y, hcl, fun j hj => ?_, hy, hok⟩
      rw [← Addr.add_add]
      exact hcc j hj
    have pick : ∀ m, m ≤ elems.length → ∃ ys : List α, ys.length = m ∧ (∀ i (hi : i < ys.length) (hi2 : i < elems.length), ∃ cs, cs.length = P.cellsOf E ∧ (∀ j (hj : j < cs.length), w.cell? (a.add (i * P.cellsOf E + j)) = some cs[j]) ∧ Rd w cs (en ys[i]) ∧ (Light P E elems[i].1 → ok ys[i])) := by
      intro m
      induction m with
      | zero => intro _; exact ⟨[], rfl, fun i hi => by simp at hi⟩
      | succ m ih =>
        intro hm'
        obtain ⟨ys, hys, hall⟩ := ih (by omega)
        obtain ⟨cs, y, g1, g2, g3, g4⟩ := key m (by omega)
        refine ⟨ys ++ [y], by simp [hys], fun i hi hi2 => ?_⟩
        by_cases him : i < ys.length
        · rw [List.getElem_append_left him]
          exact hall i him hi2
        · have : i = m := by simp at hi; omega
          subst this
          have e1 : (ys ++ [y])[i] = y := by
            rw [List.getElem_append_right (by omega)]
            simp
          rw [e1]
          exact ⟨cs, g1, g2, g3, g4⟩
    obtain ⟨ys, hys, hall⟩ := pick elems.length (Nat.le_refl _)
    refine ⟨ys, Rd.one ?_, fun hli => ?_⟩
    · have hlen' : len = ys.length := by omega
      subst hlen'
      have hml : ys.length = (ys.map en).length := by simp
      rw [hml]
      refine .sl (fun i j => (w.cell? (a.add (i * P.cellsOf E + j))).getD default) (by simpa using hl) hm (fun e he => ?_) (fun _ => ⟨a, rfl⟩) (fun a' ha' i j hi hj => ?_) (fun i j hi hj => ?_)
      · obtain ⟨y, _, rfl⟩ := List.mem_map.1 he
        exact hlen y
      · cases ha'
        obtain ⟨cs, g1, g2, _⟩ := hall i (by simpa using hi) (by simp at hi; omega)
        rw [g2 j (by omega)]
        exact ⟨trivial, rfl⟩
      · obtain ⟨cs, g1, g2, g3, _⟩ := hall i (by simpa using hi) (by simp at hi; omega)
        simp only [List.getElem_map] at hj ⊢
        have hjc : j < cs.length := by rw [g3.1]; exact hj
        rw [g2 j hjc]
        exact g3.2 j hjc hj
    · obtain ⟨w1, w2⟩ := light_slice h hli
      refine ⟨fun y hy => ?_, by simpa [hys] using w1⟩
      obtain ⟨i, hi, rfl⟩ := List.getElem_of_mem hy
      obtain ⟨_, _, _, _, h4⟩ := hall i hi (by omega)
      exact h4 (w2 _ (List.mem_map.2 ⟨_, List.getElem_mem _, rfl⟩))
theorem list4 {α : Type} {l : List α} (h : l.length = 4) : l = [l[0]'(by omega), l[1]'(by omega), l[2]'(by omega), l[3]'(by omega)] := by
  match l, h with
  | [p, q, r, s], _ => rfl
theorem RdF.struct4 {P : Program} {T A B C E : TypeId} {α β γ δ : Type} {ea : α → List D} {eb : β → List D} {ec : γ → List D} {ed : δ → List D} {oa : α → Prop} {ob : β → Prop} {oc : γ → Prop} {od : δ → Prop} {n : Nat}
    (r : RdF P A ea oa n) (s : RdF P B eb ob n) (t : RdF P C ec oc n) (u : RdF P E ed od n) {f0 f1 f2 f3 : Field} (h : P.underlying T = some (.struct #[f0, f1, f2, f3])) (hA : f0.type = A) (hB : f1.type = B) (hC : f2.type = C) (hE : f3.type = E)
    (h0 : f0.offset = 0) (h1 : f1.offset = P.cellsOf A) (h2 : f2.offset = P.cellsOf A + P.cellsOf B) (h3 : f3.offset = P.cellsOf A + P.cellsOf B + P.cellsOf C) (hc : P.cellsOf T = P.cellsOf A + P.cellsOf B + P.cellsOf C + P.cellsOf E) :
    RdF P T (fun x : α × β × γ × δ => ea x.1 ++ (eb x.2.1 ++ (ec x.2.2.1 ++ ed x.2.2.2))) (fun x => oa x.1 ∧ ob x.2.1 ∧ oc x.2.2.1 ∧ od x.2.2.2) (n + 1) := by
  constructor
  intro H e w base spare held cs x hx
  obtain ⟨xs, n', hn', rfl, hl, hxs, hat⟩ := DataW.trod_struct h hx
  obtain rfl : n' = n := by omega
  have hxs' : xs.length = 4 := hxs
  have g0 := hat 0 f0 rfl
  have g1 := hat 1 f1 rfl
  have g2 := hat 2 f2 rfl
  have g3 := hat 3 f3 rfl
  have e0 : xs[0]? = some (xs[0]'(by omega)) := List.getElem?_eq_getElem (by omega)
  have e1 : xs[1]? = some (xs[1]'(by omega)) := List.getElem?_eq_getElem (by omega)
  have e2 : xs[2]? = some (xs[2]'(by omega)) := List.getElem?_eq_getElem (by omega)
  have e3 : xs[3]? = some (xs[3]'(by omega)) := List.getElem?_eq_getElem (by omega)
  rw [e0, h0, hA] at g0
  rw [e1, h1, hB] at g1
  rw [e2, h2, hC] at g2
  rw [e3, h3, hE] at g3
  obtain ⟨y, k1, k2⟩ := r.sound e w base spare held _ _ g0
  obtain ⟨z, m1, m2⟩ := s.sound e w base spare held _ _ g1
  obtain ⟨q, p1, p2⟩ := t.sound e w base spare held _ _ g2
  obtain ⟨v, q1, q2⟩ := u.sound e w base spare held _ _ g3
  refine ⟨(y, z, q, v), ?_, fun hli => ?_⟩
  rotate_left
  · unfold Light at hli k2 m2 p2 q2
    have e2 : xs = [xs[0]'(by omega), xs[1]'(by omega), xs[2]'(by omega), xs[3]'(by omega)] := list4 hxs'
    rw [e2] at hli
    simp only [List.map_cons, List.map_nil, DataW.weights, h, DataW.weightsEach, hA, hB, hC, hE, List.all_append, Bool.and_eq_true] at hli
    exact ⟨k2 hli.1, m2 hli.2.1, p2 hli.2.2.1, q2 hli.2.2.2.1⟩
  have hcs : cs = (cs.drop 0).take (P.cellsOf A) ++ ((cs.drop (P.cellsOf A)).take (P.cellsOf B) ++ ((cs.drop (P.cellsOf A + P.cellsOf B)).take (P.cellsOf C) ++ (cs.drop (P.cellsOf A + P.cellsOf B + P.cellsOf C)).take (P.cellsOf E))) := by
    have : (cs.drop (P.cellsOf A + P.cellsOf B + P.cellsOf C)).take (P.cellsOf E) = cs.drop (P.cellsOf A + P.cellsOf B + P.cellsOf C) := List.take_of_length_le (by simp; omega)
    rw [this]
    have e3 := List.take_append_drop (P.cellsOf C) (cs.drop (P.cellsOf A + P.cellsOf B))
    have e2 := List.take_append_drop (P.cellsOf B) (cs.drop (P.cellsOf A))
    rw [List.drop_drop] at e3 e2
    rw [e3, e2, List.drop_zero, List.take_append_drop]
  rw [hcs]
  exact k1.append (m1.append (p1.append q1))
end Go.AM
namespace Go.AM
open Go Go.Proofs Go.ChangeShapes
theorem own0 : ownKnob Tryz.prog.godebug = none := by kernel_rfl
theorem laidOut0 : laidOutB Tryz.prog = true := by kernel_rfl
theorem mapsRowed0 : mapsRowed Tryz.prog = true := by kernel_rfl
theorem slices0 : ((List.range Tryz.prog.types.size).all fun t => match Tryz.prog.underlying t with | some (.slice e) => decide (0 < Tryz.prog.cellsOf e) | _ => true) = true := by kernel_rfl
def Rdr.str {P : Program} {T : TypeId} (h : P.underlying T = some .string) (hc : P.cellsOf T = 1) : Rdr P T ByteArray where
  enc n := [.raw (.string n)]
  ok n := n.size ≤ reachBytes
  len _ := by simp [hc]
  sound e w base spare held fuel cs x hx := by
    cases fuel with
    | zero => simp [DataW.trod] at hx
    | succ n =>
      unfold DataW.trod at hx
      rw [h] at hx
      split at hx <;> simp_all
      refine ⟨_, Rd.one (.raw rfl), fun hli => ?_⟩
      obtain ⟨_, rfl⟩ := hx
      have := hli
      simp [Light, DataW.weights] at this
      exact this
def rdInt : Rdr Tryz.prog 3 Int := Rdr.int (k := .i64) Tryz.underlying3 (by kernel_rfl)
def rdStr : Rdr Tryz.prog 9 ByteArray := Rdr.str Tryz.underlying9 (by kernel_rfl)
def rdStrs : Rdr Tryz.prog 34 (List ByteArray) := rdStr.sliceN 1 Tryz.underlying34 (by kernel_rfl) (by kernel_rfl)
theorem by_cmd : Tryz.prog.bytesOf 44 = 56 := by kernel_rfl
theorem by_proc : Tryz.prog.bytesOf 53 = 72 := by kernel_rfl
theorem by_str : Tryz.prog.bytesOf 9 = 16 := by kernel_rfl
theorem rch : reachBytes = 140737488351232 := rfl
theorem rdCm_n : ∀ n, RdF Tryz.prog 44 Cm.cells Cm.Sm n
  | 0 => .zero
  | 1 => by
    constructor
    intro H e w base spare held cs x hx
    obtain ⟨xs, n', hn', rfl, hl, hxs, hat⟩ := DataW.trod_struct Tryz.underlying44 hx
    obtain rfl : n' = 0 := by omega
    have g0 := hat 0 _ rfl
    simp [DataW.trod] at g0
    subst g0
    simp at hxs
  | n + 2 => by
    have ih := rdCm_n n
    have hk := ih.slice 4 (by kernel_rfl) (fun c => by rw [c.cells_eq]; rfl) (T := 42) Tryz.underlying42
    have hs := RdF.struct4 (rdInt.f (n + 1)) (rdStr.f (n + 1)) (rdInt.f (n + 1)) hk Tryz.underlying44 rfl rfl rfl rfl rfl (by kernel_rfl) (by kernel_rfl) (by kernel_rfl) (by kernel_rfl)
    constructor
    intro H e w base spare held cs x hx
    obtain ⟨y, h1, h2⟩ := hs.sound e w base spare held cs x hx
    refine ⟨.mk y.1 y.2.1 y.2.2.1 y.2.2.2, ?_, fun hli => ?_⟩
    · rw [Cm.cells_eq]
      exact h1
    · obtain ⟨_, s1, _, k1, k2⟩ := h2 hli
      have s2 : y.2.1.size ≤ reachBytes := s1
      rw [by_cmd, rch] at k2
      rw [rch] at s2
      exact .mk (by simp only [Cm.name]; omega) (by simp only [Cm.kids]; omega) k1
theorem rdCm_len (c : Cm) : c.cells.length = Tryz.prog.cellsOf 44 := by rw [c.cells_eq]; kernel_rfl
def rdCm : Rdr Tryz.prog 44 Cm := Rdr.ofF Cm.cells Cm.Sm rdCm_len rdCm_n
def rdPr0 : Rdr Tryz.prog 53 (ByteArray × Cm) := Rdr.struct2 rdStr rdCm Tryz.underlying53 rfl rfl rfl (by kernel_rfl) (by kernel_rfl)
def Pr.Big (q : Pr) : Prop := q.name.size ≤ 200000000000000 ∧ q.body.Sm
def rdPr : Rdr Tryz.prog 53 Pr := rdPr0.map (fun x => ⟨x.1, x.2⟩) Pr.cells Pr.Big (fun x => by show _ = (D.raw (.string x.1)) :: x.2.cells; rw [x.2.cells_eq]) (fun x h => ⟨by have h1 : x.1.size ≤ reachBytes := h.1; rw [rch] at h1; show x.1.size ≤ _; omega, h.2⟩) (fun _ => by kernel_rfl)
def rdPrs : Rdr Tryz.prog 22 (List Pr) := rdPr.sliceN 5 Tryz.underlying22 (by kernel_rfl) (by kernel_rfl)
theorem list1 {α : Type} {l : List α} (h : l.length = 1) : l = [l[0]'(by omega)] := by
  match l, h with
  | [p], _ => rfl
def Rdr.struct1 {P : Program} {T A : TypeId} {α : Type} (r : Rdr P A α) {f0 : Field} (h : P.underlying T = some (.struct #[f0])) (hA : f0.type = A) (h0 : f0.offset = 0)
    (hc : P.cellsOf T = P.cellsOf A) : Rdr P T α where
  enc x := r.enc x
  ok x := r.ok x
  len x := by simp [r.len, hc]
  sound e w base spare held fuel cs x hx := by
    obtain ⟨xs, n, rfl, rfl, hl, hxs, hat⟩ := DataW.trod_struct h hx
    have hxs' : xs.length = 1 := hxs
    have g0 := hat 0 f0 rfl
    have e0 : xs[0]? = some (xs[0]'(by omega)) := List.getElem?_eq_getElem (by omega)
    rw [e0, h0, hA] at g0
    obtain ⟨y, k1, k2⟩ := r.sound e w base spare held n _ _ g0
    refine ⟨y, ?_, fun hli => ?_⟩
    rotate_left
    · unfold Light at hli k2
      have e2 : xs = [xs[0]'(by omega)] := list1 hxs'
      rw [e2] at hli
      simp only [List.map_cons, List.map_nil, DataW.weights, h, DataW.weightsEach, hA, List.all_append, Bool.and_eq_true] at hli
      exact k2 hli.1
    have hcs : cs = (cs.drop 0).take (P.cellsOf A) := by
      rw [List.drop_zero, List.take_of_length_le (by omega)]
    rw [hcs]
    exact k1
def rdCtl : Rdr Tryz.prog 24 (List Pr) := Rdr.struct1 rdPrs Tryz.underlying24 rfl rfl (by kernel_rfl)
structure PrsBig (p : List Pr) : Prop where
  len : p.length ≤ 200000000000000
  big : ∀ q ∈ p, q.Big
set_option maxRecDepth 100000 in
theorem arg_prog {ps : Array TypeId} {args : Array Value} {W : World} {base base' : Nat} {sp : Nat → Bool} {held : Bool} {H : Type} {enc : TypeId × Value → H} (hval : ∀ (j : Nat) t v, ps[j]? = some t → args[j]? = some v → Value.okWide Tryz.prog W .any base t v)
    (j : Nat) (v : Value) (hp : ps[j]? = some 24) (ha : args[j]? = some v) {d : DataW H} {p : List MemPlace} (h : DataW.Trod enc Tryz.prog W base' sp held 24 v d p) (hli : Light Tryz.prog 24 d) : ∃ l : List Pr, PrsBig l ∧ RV G0 W (prsAv l) v := by
  refine Exists.elim (arg_agg hval j 24 v hp ha rdCtl aggT_24 h hli) fun l hl => ⟨l, ?_, hl.2⟩
  have h1 : (∀ x ∈ l, x.Big) ∧ l.length * Tryz.prog.bytesOf 53 ≤ reachBytes := hl.1
  rw [by_proc, rch] at h1
  exact ⟨by omega, h1.1⟩
set_option maxRecDepth 100000 in
theorem arg_str {ps : Array TypeId} {args : Array Value} {W : World} {base base' : Nat} {sp : Nat → Bool} {held : Bool} {H : Type} {enc : TypeId × Value → H} (hval : ∀ (j : Nat) t v, ps[j]? = some t → args[j]? = some v → Value.okWide Tryz.prog W .any base t v)
    (j : Nat) (v : Value) (hp : ps[j]? = some 9) (ha : args[j]? = some v) {d : DataW H} {p : List MemPlace} (h : DataW.Trod enc Tryz.prog W base' sp held 9 v d p) (hli : Light Tryz.prog 9 d) : ∃ s : ByteArray, s.size ≤ 200000000000000 ∧ RV G0 W (Sb s) v := by
  refine Exists.elim (arg_cell hval j 9 v hp ha rdStr (fun s => .raw (.string s)) aggT_9 (fun _ => rfl) h hli) fun s hs => ⟨s, ?_, hs.2⟩
  have h1 : s.size ≤ reachBytes := hs.1
  rw [rch] at h1
  omega
set_option maxRecDepth 100000 in
theorem arg_strs {ps : Array TypeId} {args : Array Value} {W : World} {base base' : Nat} {sp : Nat → Bool} {held : Bool} {H : Type} {enc : TypeId × Value → H} (hval : ∀ (j : Nat) t v, ps[j]? = some t → args[j]? = some v → Value.okWide Tryz.prog W .any base t v)
    (j : Nat) (v : Value) (hp : ps[j]? = some 34) (ha : args[j]? = some v) {d : DataW H} {p : List MemPlace} (h : DataW.Trod enc Tryz.prog W base' sp held 34 v d p) (hli : Light Tryz.prog 34 d) : ∃ l : List ByteArray, l.length ≤ 200000000000000 ∧ RV G0 W (.d (strs l)) v := by
  refine Exists.elim (arg_cell hval j 34 v hp ha rdStrs (fun s => strs s) aggT_34 (fun _ => rfl) h hli) fun s hs => ⟨s, ?_, hs.2⟩
  have h1 : s.length * Tryz.prog.bytesOf 9 ≤ reachBytes := hs.1.2
  rw [by_str, rch] at h1
  omega
end Go.AM
namespace Go.AM
open Go Go.Proofs
def stIS46 (xs : List ByteArray) (f : FuncId) (caps : List AV) (nb : Nat) (box : Nat → Option (List (List AV))) (tok : Nat → Bool) (nt : Nat) (i : Nat) : AState := ⟨tl [(0, .d (strs xs)), (1, .fn (.func f) caps), (7, I xs.length), (8, I i)], lb nb box [], tok, nt⟩
theorem indexFuncS46_c (xs : List ByteArray) (f : FuncId) (caps : List AV) (p : ByteArray → Bool) (hx : xs.length ≤ 200000000000000) (box : Nat → Option (List (List AV))) (nb : Nat) (tok : Nat → Bool) (nt : Nat) (hc : ∀ c ∈ caps, OkIn (fun k => box k ≠ none) (fun _ => True) c)
    (hf : ∀ x ∈ xs, ∀ box' nb', Ext box box' → ACalls Tryz.prog f (Sb x :: caps) ⟨box', nb', tok, nt⟩ fun v m => v = B (p x) ∧ m = ⟨box', nb', tok, nt⟩) :
    ACalls Tryz.prog 91 [.d (strs xs), .fn (.func f) caps] ⟨box, nb, tok, nt⟩ fun v m => v = I (if anyB p xs = true then (xs.findIdx p : Nat) else -1) ∧ m = ⟨box, nb, tok, nt⟩ := by
  refine sB Tryz.func91 Tryz.ntmps91 ?_
  intro hbox htok
  simp only at hbox htok
  apply AL.start
  try (simp)
  repeat (refine sR ?_; simp)
  refine sN ?_
  refine AL.loopT (stIS46 xs f caps nb box tok nt) (fun i => i ≤ xs.length ∧ ∀ x ∈ xs.take i, p x = false) (fun i => xs.length - i) 0 ⟨Nat.zero_le _, by simp⟩ (Weaks.mk (Nat.le_refl _) rfl (by simp [ToL]; exact .same (okFn hc hbox [] (by simp) rfl _)) trivial) ?_
  rintro i S ⟨hi, htk⟩ hS
  simp only [stIS46] at hS
  subst hS
  have hw := sW (i := i) (by omega)
  try (simp)
  repeat (refine sR ?_; simp)
  refine sC ?_
  simp
  refine ⟨fun hlt => ?_, fun hge => ?_⟩
  · have hfx := hf xs[i] (List.getElem_mem _)
    have hpx : p xs[i] = true → anyB p xs = true ∧ (xs.findIdx p = i) := fun he => any_takeG hlt htk he
    have hmore : p xs[i] = false → ∀ x ∈ xs.take (i + 1), p x = false := fun he x hx => by
      rw [List.take_succ_eq_append_getElem hlt] at hx
      rcases List.mem_append.1 hx with hx | hx
      · exact htk x hx
      · simp at hx; rw [hx]; exact he
    try (simp [hlt])
    repeat (refine sR ?_; simp [hlt])
    generalize xs[i] = x at *
    refine Stop.of_b (hfx _ _ ((Ext.refl box).lb hbox [])) ?_
    simp
    cases he : p x
    · refine sC ?_
      simp
      try (simp [hw])
      repeat (refine sR ?_; simp [hw])
      refine sE ?_
      refine ⟨i + 1, ⟨hlt, ?_⟩, by omega, Weaks.mk (Nat.le_refl _) rfl (by simp [ToL]; exact .same (okFn hc hbox [] (by simp) rfl _)) trivial⟩
      exact hmore he
    · obtain ⟨h1, h2⟩ := hpx he
      refine sC ?_
      simp
      try (simp)
      repeat (refine sR ?_; simp)
      refine sT ?_
      try simp only [AU]
      refine ⟨by simp, sF hbox htok (fun _ h => h) (Nat.le_refl _) ?_⟩
      simp [packA, h1, h2]
  · refine sX ?_
    simp only [AU, ↓reduceIte]
    try (simp)
    repeat (refine sR ?_; simp)
    have hn : anyB p xs = false := by
      rw [List.take_of_length_le hge] at htk
      simpa [anyB] using htk
    refine sT ?_
    try simp only [AU]
    refine ⟨by simp, sF hbox htok (fun _ h => h) (Nat.le_refl _) ?_⟩
    simp [packA, hn]
theorem containsFuncS46_c (xs : List ByteArray) (f : FuncId) (caps : List AV) (p : ByteArray → Bool) (hx : xs.length ≤ 200000000000000) (box : Nat → Option (List (List AV))) (nb : Nat) (tok : Nat → Bool) (nt : Nat) (hc : ∀ c ∈ caps, OkIn (fun k => box k ≠ none) (fun _ => True) c)
    (hf : ∀ x ∈ xs, ∀ box' nb', Ext box box' → ACalls Tryz.prog f (Sb x :: caps) ⟨box', nb', tok, nt⟩ fun v m => v = B (p x) ∧ m = ⟨box', nb', tok, nt⟩) :
    ACalls Tryz.prog 54 [.d (strs xs), .fn (.func f) caps] ⟨box, nb, tok, nt⟩ fun v m => v = B (anyB p xs) ∧ m = ⟨box, nb, tok, nt⟩ := by
  refine sB Tryz.func54 Tryz.ntmps54 ?_
  intro hbox htok
  simp only at hbox htok
  apply AL.start
  try (simp)
  repeat (refine sR ?_; simp)
  refine Stop.of_b (indexFuncS46_c xs f caps p hx (lb nb box []) _ _ _ (fun c h => (hc c h).mono (fun k hk => by rw [hbox]; exact hk) fun _ h => h) (fun x hx' box' nb' he => hf x hx' box' nb' (by rw [hbox] at he; exact he))) ?_
  simp
  cases hany : anyB p xs
  · try (simp)
    repeat (refine sR ?_; simp)
    refine sT ?_
    try simp only [AU]
    refine ⟨by simp, sF hbox htok (fun _ h => h) (Nat.le_refl _) ?_⟩
    simp [packA]
  · have h0 : (0 : Int) ≤ (xs.findIdx p : Nat) := by omega
    try (simp)
    repeat (refine sR ?_; simp)
    refine sT ?_
    try simp only [AU]
    refine ⟨by simp, sF hbox htok (fun _ h => h) (Nat.le_refl _) ?_⟩
    simp [packA, h0]
def shortB (l : List ByteArray) : Bool := decide (l.length ≤ 20) && !(anyB (fun s => decide (60 < s.size)) l)
theorem short1_c (s : ByteArray) (tok : Nat → Bool) (nt : Nat) : DCall Tryz.prog 55 [Sb s] tok nt (B (decide (60 < s.size))) tok nt := by
  intro box nb
  refine sB Tryz.func55 Tryz.ntmps55 ?_
  intro hbox htok
  simp only at hbox htok
  apply AL.start
  by_cases h : 60 < s.size
  · have h' : (60 : Int) < s.size := by omega
    try (simp [h'])
    repeat (first | (refine sR ?_; simp [h']) | (refine sC ?_; simp [h']) | (refine sX ?_; simp only [AU, ↓reduceIte]))
    refine sT ?_
    try simp only [AU]
    refine ⟨by simp, sF hbox htok (fun _ h => h) (Nat.le_refl _) ?_⟩
    simp [packA, h]
  · have h' : ¬ (60 : Int) < s.size := by omega
    try (simp [h'])
    repeat (first | (refine sR ?_; simp [h']) | (refine sC ?_; simp [h']) | (refine sX ?_; simp only [AU, ↓reduceIte]))
    refine sT ?_
    try simp only [AU]
    refine ⟨by simp, sF hbox htok (fun _ h => h) (Nat.le_refl _) ?_⟩
    simp [packA, h]
theorem short_c (l : List ByteArray) (hl : l.length ≤ 200000000000000) (tok : Nat → Bool) (nt : Nat) : DCall Tryz.prog 18 [.d (strs l)] tok nt (B (shortB l)) tok nt := by
  intro box nb
  by_cases h : l.length ≤ 20
  · have h' : (l.length : Int) ≤ 20 := by omega
    have hc := fun box nb => containsFuncS46_c l 55 [] (fun s => decide (60 < s.size)) (by omega) box nb tok nt (by simp) (fun x _ box' nb' _ => short1_c x tok nt box' nb')
    have hb : shortB l = !(anyB (fun s => decide (60 < s.size)) l) := by simp [shortB, h]
    rw [hb]
    generalize anyB (fun s : ByteArray => decide (60 < s.size)) l = X at *
    refine sB Tryz.func18 Tryz.ntmps18 ?_
    intro hbox htok
    simp only at hbox htok
    apply AL.start
    try (simp [h'])
    repeat (first | (refine sR ?_; simp [h']) | (refine sC ?_; simp [h']) | (refine sX ?_; simp only [AU, ↓reduceIte]))
    refine Stop.of_b (hc _ _) ?_
    simp
    cases X
    · try (simp)
      repeat (first | (refine sR ?_; simp) | (refine sC ?_; simp) | (refine sX ?_; simp only [AU, ↓reduceIte]))
      refine sT ?_
      try simp only [AU]
      refine ⟨by simp, sF hbox htok (fun _ h => h) (Nat.le_refl _) ?_⟩
      simp [packA]
    · try (simp)
      repeat (first | (refine sR ?_; simp) | (refine sC ?_; simp) | (refine sX ?_; simp only [AU, ↓reduceIte]))
      refine sT ?_
      try simp only [AU]
      refine ⟨by simp, sF hbox htok (fun _ h => h) (Nat.le_refl _) ?_⟩
      simp [packA]
  · have h' : ¬ (l.length : Int) ≤ 20 := by omega
    have hb : shortB l = false := by simp [shortB, h]
    rw [hb]
    refine sB Tryz.func18 Tryz.ntmps18 ?_
    intro hbox htok
    simp only at hbox htok
    apply AL.start
    try (simp [h'])
    repeat (first | (refine sR ?_; simp [h']) | (refine sC ?_; simp [h']) | (refine sX ?_; simp only [AU, ↓reduceIte]))
    refine sT ?_
    try simp only [AU]
    refine ⟨by simp, sF hbox htok (fun _ h => h) (Nat.le_refl _) ?_⟩
    simp [packA]
theorem shortB_ok {l : List ByteArray} (h : shortB l = true) : l.length ≤ 20 := by simp [shortB] at h; exact h.1
set_option maxRecDepth 100000 in
theorem lawValid_c (p : List Pr) (hb : PrsBig p) (rs : List ByteArray) (hr : rs.length ≤ 200000000000000) (tok : Nat → Bool) (nt : Nat) : DCall Tryz.prog 9 [prsAv p, .d (strs rs)] tok nt (B true) tok nt := by
  intro box nb
  have hfw := few_c p hb.len fun q hq => (hb.big q hq).2
  have hsh := short_c rs hr
  by_cases h1 : fewB p = true
  · have hok := few_prs h1 fun q hq => (hb.big q hq).2
    rw [h1] at hfw
    by_cases h2 : shortB rs = true
    · have hrl := shortB_ok h2
      rw [h2] at hsh
      have hn := named_c rs (by omega)
      have v1 := valid_c p rs hok (by omega)
      have v2 := valid46_c p rs hok (by omega)
      generalize validS p rs = V at *
      generalize faultR p rs true = F at *
      have hv : (V.toList == V.toList) = true := by simp
      refine sB Tryz.func9 Tryz.ntmps9 ?_
      intro hbox htok
      simp only at hbox htok
      apply AL.start
      try (simp)
      repeat (first | (refine sR ?_; simp) | (refine sC ?_; simp) | (refine sX ?_; simp only [AU, ↓reduceIte]))
      refine Stop.of_d (awake_c _ _) ?_
      simp
      try (simp)
      repeat (first | (refine sR ?_; simp) | (refine sC ?_; simp) | (refine sX ?_; simp only [AU, ↓reduceIte]))
      refine Stop.of_d (hfw _ _) ?_
      simp
      try (simp)
      repeat (first | (refine sR ?_; simp) | (refine sC ?_; simp) | (refine sX ?_; simp only [AU, ↓reduceIte]))
      refine Stop.of_d (hsh _ _) ?_
      simp
      try (simp)
      repeat (first | (refine sR ?_; simp) | (refine sC ?_; simp) | (refine sX ?_; simp only [AU, ↓reduceIte]))
      refine Stop.of_d (hn _ _) ?_
      simp
      try (simp)
      repeat (first | (refine sR ?_; simp) | (refine sC ?_; simp) | (refine sX ?_; simp only [AU, ↓reduceIte]))
      refine Stop.of_d (v1 _ _) ?_
      simp
      try (simp)
      repeat (first | (refine sR ?_; simp) | (refine sC ?_; simp) | (refine sX ?_; simp only [AU, ↓reduceIte]))
      refine Stop.of_d (hn _ _) ?_
      simp
      try (simp)
      repeat (first | (refine sR ?_; simp) | (refine sC ?_; simp) | (refine sX ?_; simp only [AU, ↓reduceIte]))
      refine Stop.of_d (v2 _ _) ?_
      simp
      try (simp [hv])
      repeat (first | (refine sR ?_; simp [hv]) | (refine sC ?_; simp [hv]) | (refine sX ?_; simp only [AU, ↓reduceIte]))
      refine sT ?_
      try simp only [AU]
      refine ⟨by simp, sF hbox htok (fun _ h => h) (Nat.le_refl _) ?_⟩
      simp [packA]
    · have h2' : shortB rs = false := by simpa using h2
      rw [h2'] at hsh
      refine sB Tryz.func9 Tryz.ntmps9 ?_
      intro hbox htok
      simp only at hbox htok
      apply AL.start
      try (simp)
      repeat (first | (refine sR ?_; simp) | (refine sC ?_; simp) | (refine sX ?_; simp only [AU, ↓reduceIte]))
      refine Stop.of_d (awake_c _ _) ?_
      simp
      try (simp)
      repeat (first | (refine sR ?_; simp) | (refine sC ?_; simp) | (refine sX ?_; simp only [AU, ↓reduceIte]))
      refine Stop.of_d (hfw _ _) ?_
      simp
      try (simp)
      repeat (first | (refine sR ?_; simp) | (refine sC ?_; simp) | (refine sX ?_; simp only [AU, ↓reduceIte]))
      refine Stop.of_d (hsh _ _) ?_
      simp
      try (simp)
      repeat (first | (refine sR ?_; simp) | (refine sC ?_; simp) | (refine sX ?_; simp only [AU, ↓reduceIte]))
      refine Stop.of_d (awake_c _ _) ?_
      simp
      try (simp)
      repeat (first | (refine sR ?_; simp) | (refine sC ?_; simp) | (refine sX ?_; simp only [AU, ↓reduceIte]))
      refine sT ?_
      try simp only [AU]
      refine ⟨by simp, sF hbox htok (fun _ h => h) (Nat.le_refl _) ?_⟩
      simp [packA]
  · have h1' : fewB p = false := by simpa using h1
    rw [h1'] at hfw
    refine sB Tryz.func9 Tryz.ntmps9 ?_
    intro hbox htok
    simp only at hbox htok
    apply AL.start
    try (simp)
    repeat (first | (refine sR ?_; simp) | (refine sC ?_; simp) | (refine sX ?_; simp only [AU, ↓reduceIte]))
    refine Stop.of_d (awake_c _ _) ?_
    simp
    try (simp)
    repeat (first | (refine sR ?_; simp) | (refine sC ?_; simp) | (refine sX ?_; simp only [AU, ↓reduceIte]))
    refine Stop.of_d (hfw _ _) ?_
    simp
    try (simp)
    repeat (first | (refine sR ?_; simp) | (refine sC ?_; simp) | (refine sX ?_; simp only [AU, ↓reduceIte]))
    refine Stop.of_d (awake_c _ _) ?_
    simp
    try (simp)
    repeat (first | (refine sR ?_; simp) | (refine sC ?_; simp) | (refine sX ?_; simp only [AU, ↓reduceIte]))
    refine sT ?_
    try simp only [AU]
    refine ⟨by simp, sF hbox htok (fun _ h => h) (Nat.le_refl _) ?_⟩
    simp [packA]
theorem expand_sm {p : List Pr} (s : ByteArray) (hp : PrsOk p) : (expandR p s).1.Sm := by
  unfold expandR
  split
  · exact zC_sm
  · split
    · exact zC_sm
    · split
      · exact zC_sm
      · rename_i h1 h2 _
        have hv := (fault_valid (Decidable.not_not.1 h1)).1
        have hrg := placeR_lt p s
        have hk := knR_ok hp hv ((placeR p s).toNat + 1) (by omega)
        exact hk.2.m _ (hk.2.get (by rw [hk.1]; omega))
set_option maxRecDepth 100000 in
theorem lawExpand_c (p : List Pr) (hb : PrsBig p) (s : ByteArray) (hs : s.size ≤ 200000000000000) (tok : Nat → Bool) (nt : Nat) : DCall Tryz.prog 6 [prsAv p, Sb s] tok nt (B true) tok nt := by
  intro box nb
  have hfw := few_c p hb.len fun q hq => (hb.big q hq).2
  by_cases h1 : fewB p = true
  · have hok := few_prs h1 fun q hq => (hb.big q hq).2
    rw [h1] at hfw
    by_cases h2 : 60 < s.size
    · have h2' : (60 : Int) < s.size := by omega
      refine sB Tryz.func6 Tryz.ntmps6 ?_
      intro hbox htok
      simp only at hbox htok
      apply AL.start
      try (simp)
      repeat (first | (refine sR ?_; simp) | (refine sC ?_; simp) | (refine sX ?_; simp only [AU, ↓reduceIte]))
      refine Stop.of_d (awake_c _ _) ?_
      simp
      try (simp)
      repeat (first | (refine sR ?_; simp) | (refine sC ?_; simp) | (refine sX ?_; simp only [AU, ↓reduceIte]))
      refine Stop.of_d (hfw _ _) ?_
      simp
      try (simp [h2'])
      repeat (first | (refine sR ?_; simp [h2']) | (refine sC ?_; simp [h2']) | (refine sX ?_; simp only [AU, ↓reduceIte]))
      refine Stop.of_d (awake_c _ _) ?_
      simp
      try (simp)
      repeat (first | (refine sR ?_; simp) | (refine sC ?_; simp) | (refine sX ?_; simp only [AU, ↓reduceIte]))
      refine sT ?_
      try simp only [AU]
      refine ⟨by simp, sF hbox htok (fun _ h => h) (Nat.le_refl _) ?_⟩
      simp [packA]
    · have h2' : ¬ (60 : Int) < s.size := by omega
      have e1 := expand_c p s hok
      have e2 := expand46_c p s hok
      have hsm := sameC_c _ (expandR p s).1 (Nat.lt_succ_self _) (expand_sm s hok)
      generalize expandR p s = E at *
      refine sB Tryz.func6 Tryz.ntmps6 ?_
      intro hbox htok
      simp only at hbox htok
      apply AL.start
      try (simp)
      repeat (first | (refine sR ?_; simp) | (refine sC ?_; simp) | (refine sX ?_; simp only [AU, ↓reduceIte]))
      refine Stop.of_d (awake_c _ _) ?_
      simp
      try (simp)
      repeat (first | (refine sR ?_; simp) | (refine sC ?_; simp) | (refine sX ?_; simp only [AU, ↓reduceIte]))
      refine Stop.of_d (hfw _ _) ?_
      simp
      try (simp [h2'])
      repeat (first | (refine sR ?_; simp [h2']) | (refine sC ?_; simp [h2']) | (refine sX ?_; simp only [AU, ↓reduceIte]))
      refine Stop.of_d (e1 _ _) ?_
      simp
      try (simp)
      repeat (first | (refine sR ?_; simp) | (refine sC ?_; simp) | (refine sX ?_; simp only [AU, ↓reduceIte]))
      refine Stop.of_d (e2 _ _) ?_
      simp
      try (simp)
      repeat (first | (refine sR ?_; simp) | (refine sC ?_; simp) | (refine sX ?_; simp only [AU, ↓reduceIte]))
      refine Stop.of_d (hsm _ _) ?_
      simp
      try (simp)
      repeat (first | (refine sR ?_; simp) | (refine sC ?_; simp) | (refine sX ?_; simp only [AU, ↓reduceIte]))
      refine sT ?_
      try simp only [AU]
      refine ⟨by simp, sF hbox htok (fun _ h => h) (Nat.le_refl _) ?_⟩
      simp [packA]
  · have h1' : fewB p = false := by simpa using h1
    rw [h1'] at hfw
    refine sB Tryz.func6 Tryz.ntmps6 ?_
    intro hbox htok
    simp only at hbox htok
    apply AL.start
    try (simp)
    repeat (first | (refine sR ?_; simp) | (refine sC ?_; simp) | (refine sX ?_; simp only [AU, ↓reduceIte]))
    refine Stop.of_d (awake_c _ _) ?_
    simp
    try (simp)
    repeat (first | (refine sR ?_; simp) | (refine sC ?_; simp) | (refine sX ?_; simp only [AU, ↓reduceIte]))
    refine Stop.of_d (hfw _ _) ?_
    simp
    try (simp)
    repeat (first | (refine sR ?_; simp) | (refine sC ?_; simp) | (refine sX ?_; simp only [AU, ↓reduceIte]))
    refine Stop.of_d (awake_c _ _) ?_
    simp
    try (simp)
    repeat (first | (refine sR ?_; simp) | (refine sC ?_; simp) | (refine sX ?_; simp only [AU, ↓reduceIte]))
    refine sT ?_
    try simp only [AU]
    refine ⟨by simp, sF hbox htok (fun _ h => h) (Nat.le_refl _) ?_⟩
    simp [packA]
end Go.AM
namespace Go.AM
open Go Go.Proofs
def minS (a b : ByteArray) : ByteArray := if (Op.bytesLess a.toList b.toList || a.toList == b.toList) = true then a else b
theorem minS_spec (a b : ByteArray) : (minS a b = a ∨ minS a b = b) ∧ ¬ bsOf a < bsOf (minS a b) ∧ ¬ bsOf b < bsOf (minS a b) := by
  have h : (Op.bytesLess a.toList b.toList || a.toList == b.toList) = true ↔ (bsOf a < bsOf b ∨ a = b) := by
    rw [Bool.or_eq_true, bytesLess_eq, decide_eq_true_eq, seq_dec, decide_eq_true_eq, ByteArray.toList_eq, ByteArray.toList_eq]
  unfold minS
  split
  · rename_i h1
    refine ⟨.inl rfl, bs_irr _, ?_⟩
    rcases h.1 h1 with h2 | h2
    · exact fun h3 => bs_irr _ (bs_trans h2 h3)
    · subst h2; exact bs_irr _
  · rename_i h1
    have h2 : ¬ (bsOf a < bsOf b ∨ a = b) := fun h3 => h1 (h.2 h3)
    exact ⟨.inr rfl, fun h3 => h2 (.inl h3), bs_irr _⟩
theorem sortU_min {l : List ByteArray} {m : ByteArray} (hm : m ∈ l) (hl : ∀ y ∈ l, ¬ bsOf y < bsOf m) : sortU l = m :: sortU (l.filter fun y => decide (y ≠ m)) := by
  refine strict_one (sortU_strict l) (List.pairwise_cons.2 ⟨fun y hy => ?_, sortU_strict _⟩) fun y => ?_
  · rw [mem_sortU, List.mem_filter, decide_eq_true_eq] at hy
    exact bs_tri (fun e => hy.2 (bsOf_inj e)) (hl y hy.1)
  · rw [mem_sortU, List.mem_cons, mem_sortU, List.mem_filter, decide_eq_true_eq]
    constructor
    · intro h
      by_cases e : y = m
      · exact .inl e
      · exact .inr ⟨h, e⟩
    · rintro (h | h)
      · exact h ▸ hm
      · exact h.1
theorem sortU_id {l : List ByteArray} (h : StrictU l) : sortU l = l := strict_one (sortU_strict l) h fun y => mem_sortU
theorem sortU_same {l k : List ByteArray} (h : ∀ y, y ∈ l ↔ y ∈ k) : sortU l = sortU k := strict_one (sortU_strict l) (sortU_strict k) fun y => by rw [mem_sortU, mem_sortU]; exact h y
def srow (l : List ByteArray) : List (List D) := l.map fun s => [.raw (.string s)]
theorem srow_len (l : List ByteArray) : (srow l).length = l.length := by simp [srow]
theorem srow_snoc (l : List ByteArray) (x : ByteArray) : srow l ++ [[.raw (.string x)]] = srow (l ++ [x]) := by simp [srow]
theorem strs_eq (l : List ByteArray) : strs l = .sl 1 (srow l) := rfl
structure AccO where
  l : List ByteArray
  out : List ByteArray
  own : Own
  tok : Nat → Bool
  nt : Nat
def stSo1 (nb : Nat) (box : Nat → Option (List (List AV))) (a : AccO) : AState := ⟨tl [(0, .d (strs a.l)), (3, .osl 1 (srow a.out) a.own)], lb nb box [], a.tok, a.nt⟩
structure AccM where
  i : Nat
  m : ByteArray
structure MInv (l : List ByteArray) (a : AccM) : Prop where
  i : a.i ≤ l.length
  m : a.m ∈ l
  h : ∀ y ∈ l.take a.i, ¬ bsOf y < bsOf a.m
def stSo2 (l out : List ByteArray) (own : Own) (tok : Nat → Bool) (nt nb : Nat) (box : Nat → Option (List (List AV))) (a : AccM) : AState := ⟨tl [(0, .d (strs l)), (3, .osl 1 (srow out) own), (4, Sb a.m), (5, I a.i)], lb nb box [], tok, nt⟩
structure AccRt where
  i : Nat
  o2 : Own
  tok : Nat → Bool
  nt : Nat
def flt (m : ByteArray) (l : List ByteArray) : List ByteArray := l.filter fun y => decide (y ≠ m)
theorem flt_len (m : ByteArray) (l : List ByteArray) : (flt m l).length ≤ l.length := List.length_filter_le _ _
def stSo3 (l out : List ByteArray) (m : ByteArray) (own : Own) (nb : Nat) (box : Nat → Option (List (List AV))) (a : AccRt) : AState := ⟨tl [(0, .d (strs l)), (3, .osl 1 (srow out) own), (4, Sb m), (6, .osl 1 (srow (flt m (l.take a.i))) a.o2), (7, I a.i)], lb nb box [], a.tok, a.nt⟩
set_option maxRecDepth 100000 in
theorem sorted46_c (L : List ByteArray) (hL : L.length ≤ 1000000000) (tok : Nat → Bool) (nt : Nat) : DCall Tryz.prog 94 [.d (strs L)] tok nt (.d (strs (sortU L))) tok nt := by
  intro box nb
  refine sB Tryz.func94 Tryz.ntmps94 ?_
  intro hbox htok
  simp only at hbox htok
  apply AL.start
  have ht0 := TK.start htok
  try (simp)
  repeat (refine sR ?_; simp)
  refine sN ?_
  refine AL.loopT (stSo1 nb box) (fun a => sortU L = a.out ++ sortU a.l ∧ a.out.length + a.l.length ≤ L.length ∧ TK tok nt a.tok a.nt [a.own]) (fun a => a.l.length) ⟨L, [], .full, tok, nt⟩ ⟨rfl, by simp, ht0.full⟩ (Weaks.mk (Nat.le_refl _) rfl (by simp [ToL, lk, srow]) trivial) ?_
  rintro ⟨l, out, own, tok1, nt1⟩ S ⟨hs, hl, htk⟩ hS
  simp only [stSo1] at hs hl htk hS ⊢
  subst hS
  by_cases hp : 0 < l.length
  · have hp' : (0 : Int) < l.length := by omega
    try (simp [hp, hp'])
    repeat (first | (refine sR ?_; simp [hp, hp']) | (refine sC ?_; simp [hp, hp']) | (refine sX ?_; simp only [AU, ↓reduceIte]))
    refine sN ?_
    refine AL.loopT (stSo2 l out own tok1 nt1 nb box) (MInv l) (fun a => l.length - a.i) ⟨0, l[0]⟩ ⟨Nat.zero_le _, List.getElem_mem hp, by simp⟩ (Weaks.mk (by have := htk.le; omega) rfl (by simp [ToL, lk]) trivial) ?_
    rintro ⟨i, m⟩ S ⟨hi, hm, hle⟩ hS
    simp only [stSo2] at hS ⊢
    simp only at hi hm hle
    subst hS
    have hw := sW (i := i) (by omega)
    by_cases hlt : i < l.length
    · have hlt' : (i : Int) < l.length := by omega
      obtain ⟨h1, h2, h3⟩ := minS_spec m l[i]
      obtain ⟨q, hq⟩ : ∃ q, minS m l[i] = q := ⟨_, rfl⟩
      rw [hq] at h1 h2 h3
      unfold minS at hq
      try (simp [hlt, hlt'])
      repeat (refine sR ?_; simp [hlt, hlt'])
      refine sC ?_
      simp [hlt']
      try (simp [hlt])
      repeat (refine sR ?_; simp [hlt])
      try (simp [hw])
      repeat (refine sR ?_; simp [hw])
      refine sE ?_
      refine ⟨⟨i + 1, q⟩, ⟨hlt, ?_, ?_⟩, by simp only; omega, ?_⟩
      · rcases h1 with h1 | h1
        · rw [h1]; exact hm
        · rw [h1]; exact List.getElem_mem hlt
      · intro y hy
        simp only at hy ⊢
        rw [List.take_succ_eq_append_getElem hlt, List.mem_append, List.mem_singleton] at hy
        rcases hy with hy | hy
        · intro h4
          rcases h1 with h1 | h1
          · rw [h1] at h4; exact hle y hy h4
          · by_cases h5 : bsOf y = bsOf m
            · rw [h5] at h4; exact h2 h4
            · exact hle y hy (by
                by_cases h6 : bsOf y < bsOf m
                · exact h6
                · exact absurd (bs_trans (bs_tri h5 h6) h4) h2)
        · rw [hy]; exact h3
      · simp only [stSo2]
        exact Weaks.mk (by have := htk.le; omega) rfl (by simp [ToL, lk, ← hq]) trivial
    · have : i = l.length := by omega
      subst this
      rw [List.take_length] at hle
      have hmin := sortU_min hm hle
      try (simp [hlt])
      repeat (refine sR ?_; simp [hlt])
      refine sC ?_
      simp [hlt]
      refine sX ?_
      simp only [AU, ↓reduceIte]
      try (simp)
      repeat (refine sR ?_; simp)
      refine ⟨⟨by rw [srow_len]; omega, htk.live⟩, ?_⟩
      try (simp [srow_snoc])
      repeat (refine sR ?_; simp [srow_snoc])
      refine sN ?_
      refine AL.loopT (stSo3 l (out ++ [m]) m (.tok nt1) nb box) (fun a => a.i ≤ l.length ∧ TK tok nt a.tok a.nt [a.o2, .tok nt1]) (fun a => l.length - a.i) ⟨0, .full, upd (own.kill tok1) nt1 true, nt1 + 1⟩ ⟨Nat.zero_le _, htk.app.full⟩
        (Weaks.mk (by have := htk.le; omega) rfl (by simp [ToL, lk, srow, flt]) trivial) ?_
      rintro ⟨j, o2, tok2, nt2⟩ S ⟨hj, htk2⟩ hS
      simp only [stSo3] at hj htk2 hS ⊢
      subst hS
      have hwj := sW (i := j) (by omega)
      by_cases hlj : j < l.length
      · have hlj' : (j : Int) < l.length := by omega
        by_cases he : l[j] = m
        · have b : (l[j].toList == m.toList) = true := by rw [seq_dec]; simpa using he
          have b2 : (l[j].toList != m.toList) = false := by simp [bne, b]
          have hf : flt m (l.take (j + 1)) = flt m (l.take j) := by
            rw [List.take_succ_eq_append_getElem hlj, flt, List.filter_append]
            simp [flt, he]
          try (simp [hlj, hlj', b2, b, he, hwj])
          repeat (first | (refine sR ?_; simp [hlj, hlj', b2, b, he, hwj]) | (refine sC ?_; simp [hlj, hlj', b2, b, he, hwj]) | (refine sX ?_; simp only [AU, ↓reduceIte]))
          refine sE ?_
          refine ⟨⟨j + 1, o2, tok2, nt2⟩, ⟨hlj, htk2⟩, by simp only; omega, ?_⟩
          simp only [stSo3]
          exact Weaks.mk htk2.le rfl (by simp [ToL, lk, hf]) trivial
        · have b : (l[j].toList == m.toList) = false := by rw [seq_dec]; simpa using he
          have b2 : (l[j].toList != m.toList) = true := by simp [bne, b]
          have hf : flt m (l.take (j + 1)) = flt m (l.take j) ++ [l[j]] := by
            rw [List.take_succ_eq_append_getElem hlj, flt, List.filter_append]
            simp [flt, he]
          have hfl := flt_len m (l.take j)
          rw [List.length_take] at hfl
          try (simp [hlj, hlj', b2, b, he, hwj])
          repeat (first | (refine sR ?_; simp [hlj, hlj', b2, b, he, hwj]) | (refine sC ?_; simp [hlj, hlj', b2, b, he, hwj]) | (refine sX ?_; simp only [AU, ↓reduceIte]))
          refine ⟨⟨by rw [srow_len]; omega, htk2.live⟩, ?_⟩
          try (simp [hlj, hlj', hwj, srow_snoc, ← hf])
          repeat (first | (refine sR ?_; simp [hlj, hlj', hwj, srow_snoc, ← hf]) | (refine sC ?_; simp [hlj, hlj', hwj, srow_snoc, ← hf]) | (refine sX ?_; simp only [AU, ↓reduceIte]))
          refine sE ?_
          refine ⟨⟨j + 1, .tok nt2, upd (o2.kill tok2) nt2 true, nt2 + 1⟩, ⟨hlj, htk2.app⟩, by simp only; omega, ?_⟩
          simp only [stSo3]
          exact Weaks.mk htk2.app.le rfl (by simp [ToL, lk]) trivial
      · have : j = l.length := by omega
        subst this
        rw [List.take_length]
        have hdec : (flt m l).length < l.length := by
          unfold flt
          rcases Nat.lt_or_ge (l.filter fun y => decide (y ≠ m)).length l.length with h | h
          · exact h
          · have h2 := List.length_filter_eq_length_iff.1 (Nat.le_antisymm (List.length_filter_le _ _) h) m hm
            simp at h2
        try (simp [hlj])
        repeat (refine sR ?_; simp [hlj])
        refine sC ?_
        simp [hlj]
        refine sX ?_
        simp only [AU, ↓reduceIte]
        try (simp)
        repeat (refine sR ?_; simp)
        refine sE ?_
        refine ⟨⟨flt m l, out ++ [m], .tok nt1, tok2, nt2⟩, ⟨?_, ?_, htk2.tail⟩, by simp only; exact hdec, ?_⟩
        · simp only; rw [hs, hmin]; simp [flt]
        · simp only [List.length_append, List.length_cons, List.length_nil]; omega
        · simp only [stSo1]
          exact Weaks.mk htk2.le rfl (by simp [ToL, lk, strs_eq]) trivial
  · have hp' : ¬ (0 : Int) < l.length := by omega
    obtain rfl : l = [] := List.length_eq_zero_iff.1 (by omega)
    have hs' : sortU L = out := by rw [hs]; simp [sortU]
    try (simp [hp, hp'])
    repeat (first | (refine sR ?_; simp [hp, hp']) | (refine sC ?_; simp [hp, hp']) | (refine sX ?_; simp only [AU, ↓reduceIte]))
    refine sT ?_
    try simp only [AU]
    refine ⟨by simp, sF hbox htok htk.old htk.le ?_⟩
    simp [packA, hs', strs_eq]
end Go.AM
namespace Go.AM
open Go Go.Proofs
abbrev kno (kn : List (List ByteArray)) : D := .sl 1 (kn.map fun l => [strs l])
def cat (p : List Pr) (kn : List (List ByteArray)) (l : List Cm) : List ByteArray := (l.map fun x => sortU (uC p kn x)).flatten
theorem cat_take {p : List Pr} {kn : List (List ByteArray)} {l : List Cm} {i : Nat} (h : i < l.length) : cat p kn (l.take (i + 1)) = cat p kn (l.take i) ++ sortU (uC p kn l[i]) := by
  rw [cat, List.take_succ_eq_append_getElem h, List.map_append, List.flatten_append, cat]
  simp
theorem mem_cat {p : List Pr} {kn : List (List ByteArray)} {l : List Cm} {y : ByteArray} : y ∈ cat p kn l ↔ y ∈ uL p kn l := by
  induction l with
  | nil => simp [cat, uL]
  | cons x r ih =>
    have : cat p kn (x :: r) = sortU (uC p kn x) ++ cat p kn r := by simp [cat]
    rw [this, uL, List.mem_append, List.mem_append, mem_sortU, ih]
theorem cat_len {p : List Pr} {kn : List (List ByteArray)} {M : Nat} : ∀ {l : List Cm}, (∀ x ∈ l, (sortU (uC p kn x)).length ≤ M) → (cat p kn l).length ≤ l.length * M
  | [], _ => by simp [cat]
  | x :: r, h => by
    have : cat p kn (x :: r) = sortU (uC p kn x) ++ cat p kn r := by simp [cat]
    have h1 := h x (by simp)
    have h2 := cat_len (M := M) (l := r) fun y hy => h y (by simp [hy])
    rw [this, List.length_append, List.length_cons, Nat.add_mul]
    omega
theorem srow_map (a b : List ByteArray) : (srow a ++ b.map fun s => [D.raw (.string s)]) = srow (a ++ b) := by simp [srow]
def stDi (p : List Pr) (kn : List (List ByteArray)) (c : Cm) (nb : Nat) (box : Nat → Option (List (List AV))) (x : Acc) : AState :=
  ⟨tl [(8, I x.i), (7, .osl 1 (srow (cat p kn (c.kids.take x.i))) x.own), (4, .ptr (nb + 4) 0 0), (3, .ptr (nb + 3) 0 0), (2, .d (kno kn))], lb nb box [(4, [c.row]), (3, [[.d (prs p)]])], x.tok, x.nt⟩
set_option maxRecDepth 100000 in
theorem direct46_c (p : List Pr) (hp : p.length ≤ 200000000000000) (rs : List ByteArray) (hr : rs.length ≤ 999999) (kn : List (List ByteArray)) (hk : KnU rs kn) : ∀ (n : Nat) (c : Cm), c.size < n → c.size ≤ 1000 → c.Fm → InRules rs c → CallsOk p kn.length c → ∀ (tok : Nat → Bool) (nt : Nat),
    DCall Tryz.prog 58 [prsAv p, c.av, .d (kno kn)] tok nt (.d (strs (sortU (uC p kn c)))) tok nt
  | 0, c, h, _, _, _, _, tok, nt => absurd h (Nat.not_lt_zero _)
  | n + 1, c, h, hz, hf, hir, hco, tok, nt => by
    intro box nb
    have ih := fun x (hx : x ∈ c.kids) => direct46_c p hp rs hr kn hk n x (by have := Cm.kid_size hx; omega) (by have := Cm.kid_size hx; omega) (hf.kid x hx) (hir.kid x hx) (hco.kid x hx)
    have hok := hf.okB
    have hpl := place46_c p c.name hp
    have hkl := c.kids_len
    have hu := uC_eq p kn c
    by_cases e1 : c.kind = 1
    · have hkids : c.kids = [] := by have h1 := hok; simp [okB, e1] at h1; exact h1.1
      have hU : sortU (uC p kn c) = [c.name] := by rw [hu, uOwn, if_pos e1, hkids]; simp [uL, sortU, insU]
      rw [hU]
      have t1 : (c.kind == 1) = true := by simp [e1]
      refine sB Tryz.func58 Tryz.ntmps58 ?_
      intro hbox htok
      simp only at hbox htok
      apply AL.start
      try (simp [t1])
      repeat (first | (refine sR ?_; simp [t1]) | (refine sC ?_; simp [t1]) | (refine sX ?_; simp only [AU, ↓reduceIte]))
      refine sT ?_
      try simp only [AU]
      refine ⟨by simp, sF hbox htok (fun _ h => h) (Nat.le_refl _) ?_⟩
      simp [packA, strs_eq, srow]
    have b1 : (c.kind == 1) = false := by simp [e1]
    by_cases e10 : c.kind = 10
    · have hkids : c.kids = [] := by have h1 := hok; simp [okB, e10] at h1; exact h1.1
      obtain ⟨h1, h2⟩ := hco.call e10
      obtain ⟨k, hkk⟩ : ∃ k : Nat, placeR p c.name = k := ⟨(placeR p c.name).toNat, by omega⟩
      rw [hkk] at hpl h1 h2
      have hkl2 : k < kn.length := by omega
      have hkl2' : (k : Int) < kn.length := by omega
      have hU : sortU (uC p kn c) = kn[k] := by
        rw [hu, uOwn, if_neg e1, if_pos e10, hkids, hkk]
        simp only [uL, List.append_nil, Int.toNat_natCast, List.getD_eq_getElem?_getD, List.getElem?_eq_getElem hkl2, Option.getD_some]
        exact sortU_id (hk.strict _ (List.getElem_mem hkl2))
      rw [hU]
      have t10 : (c.kind == 10) = true := by simp [e10]
      refine sB Tryz.func58 Tryz.ntmps58 ?_
      intro hbox htok
      simp only at hbox htok
      apply AL.start
      try (simp [b1, t10])
      repeat (first | (refine sR ?_; simp [b1, t10]) | (refine sC ?_; simp [b1, t10]) | (refine sX ?_; simp only [AU, ↓reduceIte]))
      refine Stop.of_d (hpl _ _) ?_
      simp
      try (simp [hkl2, hkl2'])
      repeat (first | (refine sR ?_; simp [hkl2, hkl2']) | (refine sC ?_; simp [hkl2, hkl2']) | (refine sX ?_; simp only [AU, ↓reduceIte]))
      refine sT ?_
      try simp only [AU]
      refine ⟨by simp, sF hbox htok (fun _ h => h) (Nat.le_refl _) ?_⟩
      simp [packA]
    have b10 : (c.kind == 10) = false := by simp [e10]
    have hU : sortU (uC p kn c) = sortU (cat p kn c.kids) := sortU_same fun y => by
      rw [hu, uOwn, if_neg e1, if_neg e10, List.nil_append]
      exact mem_cat.symm
    have hcl : ∀ x ∈ c.kids, (sortU (uC p kn x)).length ≤ 999999 := fun x hx => by
      have := sortU_len_le (uC_in (p := p) hk.mem _ x (Nat.lt_succ_self _) (hir.kid x hx))
      omega
    have hsrt := sorted46_c (cat p kn c.kids) (by have := cat_len hcl; omega)
    rw [hU]
    refine sB Tryz.func58 Tryz.ntmps58 ?_
    intro hbox htok
    simp only at hbox htok
    apply AL.start
    have ht0 := TK.start htok
    try (simp [b1, b10])
    repeat (first | (refine sR ?_; simp [b1, b10]) | (refine sC ?_; simp [b1, b10]) | (refine sX ?_; simp only [AU, ↓reduceIte]))
    refine sN ?_
    refine AL.loopT (stDi p kn c nb box) (fun x => x.i ≤ c.kids.length ∧ TK tok nt x.tok x.nt [x.own]) (fun x => c.kids.length - x.i) ⟨0, .full, tok, nt⟩ ⟨Nat.zero_le _, ht0.full⟩ (Weaks.mk (Nat.le_refl _) rfl (by simp [ToL, lk, cat, srow]) (by simp [BoxL, lk])) ?_
    rintro ⟨i, own, tok1, nt1⟩ S ⟨hi, htk⟩ hS
    simp only [stDi] at hi htk hS ⊢
    subst hS
    have hw := sW (i := i) (by omega)
    by_cases hlt : i < c.kids.length
    · have hlt' : (i : Int) < c.kids.length := by omega
      have hct := cat_take (p := p) (kn := kn) hlt
      have hlx := hcl _ (List.getElem_mem hlt)
      have hlc : (cat p kn (c.kids.take i)).length ≤ 999999000 := by
        have h1 := cat_len (l := c.kids.take i) (M := 999999) fun x hx => hcl x (List.mem_of_mem_take hx)
        rw [List.length_take] at h1
        omega
      have ihx := ih _ (List.getElem_mem hlt)
      try (simp [hlt, hlt'])
      repeat (refine sR ?_; simp [hlt, hlt'])
      refine sC ?_
      simp [hlt']
      try (simp [hlt, hlt', Cm.cells_eq])
      repeat (refine sR ?_; simp [hlt, hlt', Cm.cells_eq])
      generalize c.kids[i] = q at *
      refine Stop.of_d (ihx _ _) ?_
      simp
      refine ⟨⟨by rw [srow_len]; omega, htk.live⟩, ?_⟩
      try (simp [hw, srow_map, ← hct])
      repeat (first | (refine sR ?_; simp [hw, srow_map, ← hct]) | (refine sC ?_; simp [hw, srow_map, ← hct]) | (refine sX ?_; simp only [AU, ↓reduceIte]))
      refine sE ?_
      refine ⟨⟨i + 1, .tok nt1, upd (own.kill tok1) nt1 true, nt1 + 1⟩, ⟨hlt, htk.app⟩, by simp only; omega, ?_⟩
      simp only [stDi]
      exact Weaks.mk (by have := htk.le; omega) rfl (by simp [ToL, lk]) (by simp [BoxL, lk])
    · have : i = c.kids.length := by omega
      subst this
      rw [List.take_length]
      try (simp [hlt])
      repeat (refine sR ?_; simp [hlt])
      refine sC ?_
      simp [hlt]
      refine sX ?_
      simp only [AU, ↓reduceIte]
      try (simp)
      repeat (refine sR ?_; simp)
      refine Stop.data ?_
      refine Stop.of_d (hsrt _ _) ?_
      simp
      try (simp)
      repeat (first | (refine sR ?_; simp) | (refine sC ?_; simp) | (refine sX ?_; simp only [AU, ↓reduceIte]))
      refine sT ?_
      try simp only [AU]
      refine ⟨by simp, sF hbox htok htk.old htk.le ?_⟩
      simp [packA, ]
def knRow (kn : List (List ByteArray)) : List (List D) := kn.map fun l => [strs l]
theorem knRow_snoc (kn : List (List ByteArray)) (x : List ByteArray) : knRow kn ++ [[strs x]] = knRow (kn ++ [x]) := by simp [knRow]
theorem knRow_len (kn : List (List ByteArray)) : (knRow kn).length = kn.length := by simp [knRow]
def stUs (p : List Pr) (s : ByteArray) (nb : Nat) (box : Nat → Option (List (List AV))) (x : Acc) : AState :=
  ⟨tl [(11, I x.i), (10, .osl 1 (knRow (knU p x.i)) x.own), (3, .ptr (nb + 3) 0 0), (2, Sb s)], lb nb box [(3, [[.d (prs p)]])], x.tok, x.nt⟩
set_option maxRecDepth 100000 in
theorem uses46_c (p : List Pr) (rs : List ByteArray) (s : ByteArray) (hp : PrsOk p) (hr : rs.length ≤ 999999) (tok : Nat → Bool) (nt : Nat) : DCall Tryz.prog 21 [prsAv p, .d (rules46 rs), Sb s] tok nt (.tup [.d (strs (usesR p rs s).1), I (usesR p rs s).2]) tok nt := by
  intro box nb
  have hvl := valid46_c p rs hp (by omega)
  have hpl := place46_c p s hp.len
  have hrg := placeR_lt p s
  obtain ⟨N, hN⟩ : ∃ N, usesR p rs s = N := ⟨_, rfl⟩
  rw [hN]
  unfold usesR at hN
  have hval := fault_valid (p := p) (rs := rs) (asked := true)
  generalize faultR p rs true = F at *
  generalize validS p rs = V at *
  by_cases he : F.2 = 0
  · have be : (F.2 != 0) = false := by simp [he]
    rw [if_neg (by simp [he])] at hN
    obtain ⟨hv, h20, h1p, hpe⟩ := hval he
    have hfd := fault_depth hpe
    have hfm := valid_fm hpe
    have hir := valid_rules hpe
    refine sB Tryz.func21 Tryz.ntmps21 ?_
    intro hbox htok
    simp only at hbox htok
    apply AL.start
    have ht0 := TK.start htok
    try (simp)
    repeat (first | (refine sR ?_; simp) | (refine sC ?_; simp) | (refine sX ?_; simp only [AU, ↓reduceIte]))
    refine Stop.of_d (hvl _ _) ?_
    simp
    try (simp [be])
    repeat (first | (refine sR ?_; simp [be]) | (refine sC ?_; simp [be]) | (refine sX ?_; simp only [AU, ↓reduceIte]))
    refine sN ?_
    refine AL.loopT (stUs p s nb box) (fun x => x.i ≤ p.length ∧ TK tok nt x.tok x.nt [x.own]) (fun x => p.length - x.i) ⟨0, .full, tok, nt⟩ ⟨Nat.zero_le _, ht0.full⟩ (Weaks.mk (Nat.le_refl _) rfl (by simp [ToL, lk, knU, knRow]) (by simp [BoxL, lk])) ?_
    rintro ⟨i, own, tok1, nt1⟩ S ⟨hi, htk⟩ hS
    simp only [stUs] at hi htk hS ⊢
    subst hS
    have hw := sW (i := i) (by omega)
    by_cases hlt : i < p.length
    · have hlt' : (i : Int) < p.length := by omega
      have hq := List.getElem_mem hlt
      have hst := knU_succ hlt
      have hkl := knU_len (p := p) (n := i) (by omega)
      have hdr := direct46_c p hp.len rs hr (knU p i) (knU_ok hir i (by omega)) _ p[i].body (Nat.lt_succ_self _) (by have := (hfd _ hq).2.1; omega) (hfm _ hq) (hir _ hq) (by rw [hkl]; exact hv i hlt)
      generalize knU p i = K at *
      try (simp [hlt, hlt'])
      repeat (refine sR ?_; simp [hlt, hlt'])
      refine sC ?_
      simp [hlt']
      try (simp [hlt, hlt'])
      repeat (refine sR ?_; simp [hlt, hlt'])
      generalize p[i] = q at *
      refine Stop.data ?_
      refine Stop.of_d (hdr _ _) ?_
      simp
      refine ⟨⟨by rw [knRow_len]; omega, htk.live⟩, ?_⟩
      try (simp [hw, knRow_snoc, ← hst])
      repeat (first | (refine sR ?_; simp [hw, knRow_snoc, ← hst]) | (refine sC ?_; simp [hw, knRow_snoc, ← hst]) | (refine sX ?_; simp only [AU, ↓reduceIte]))
      refine sE ?_
      refine ⟨⟨i+1, .tok nt1, upd (own.kill tok1) nt1 true, nt1+1⟩, ⟨hlt, htk.app⟩, by simp only; omega, ?_⟩
      simp only [stUs]
      exact Weaks.mk (Nat.le_succ_of_le htk.le) rfl (by simp [ToL, lk, hst, knRow_snoc]) (by simp [BoxL, lk])
    · have : i = p.length := by omega
      subst this
      try (simp [hlt])
      repeat (refine sR ?_; simp [hlt])
      refine sC ?_
      simp [hlt]
      refine sX ?_
      simp only [AU, ↓reduceIte]
      try (simp)
      repeat (first | (refine sR ?_; simp) | (refine sC ?_; simp) | (refine sX ?_; simp only [AU, ↓reduceIte]))
      refine Stop.of_d (hpl _ _) ?_
      simp
      by_cases hneg : placeR p s < 0
      · rw [if_pos hneg] at hN
        try (simp [hneg])
        repeat (first | (refine sR ?_; simp [hneg]) | (refine sC ?_; simp [hneg]) | (refine sX ?_; simp only [AU, ↓reduceIte]))
        refine sT ?_
        try simp only [AU]
        refine ⟨by simp, sF hbox htok htk.old htk.le ?_⟩
        simp [packA, ← hN, strs]
      · rw [if_neg hneg] at hN
        obtain ⟨k, hk⟩ : ∃ k : Nat, placeR p s = k := ⟨(placeR p s).toNat, by omega⟩
        rw [hk] at hN hrg hneg ⊢
        rw [Int.toNat_natCast] at hN hrg
        have hkl : k < p.length := by omega
        have hkn := knU_len (p := p) (n := p.length) (Nat.le_refl _)
        have hg := knU_get (p := p) (n := k + 1) (m := p.length) (k := k) (Nat.le_refl _) (by omega) (by omega)
        rw [← hg] at hN
        have hkl2 : k < (knU p p.length).length := by omega
        have hkl3 : (k : Int) < (knRow (knU p p.length)).length := by rw [knRow_len]; omega
        have hat : (knRow (knU p p.length))[k]? = some [strs ((knU p p.length).getD k [])] := by
          simp [knRow, List.getD_eq_getElem?_getD, hkl2]
        generalize knU p p.length = K at *
        have hKg : K.getD k [] = K[k] := by simp [List.getD_eq_getElem?_getD, hkl2]
        rw [hKg] at hN hat
        try (simp [hneg, hkl2, hkl3, hat])
        repeat (first | (refine sR ?_; simp [hneg, hkl2, hkl3, hat]) | (refine sC ?_; simp [hneg, hkl2, hkl3, hat]) | (refine sX ?_; simp only [AU, ↓reduceIte]))
        refine sT ?_
        try simp only [AU]
        refine ⟨by simp, sF hbox htok htk.old htk.le ?_⟩
        simp [packA, ← hN]
  · have be : (F.2 != 0) = true := by simp [he]
    rw [if_pos he] at hN
    refine sB Tryz.func21 Tryz.ntmps21 ?_
    intro hbox htok
    simp only at hbox htok
    apply AL.start
    try (simp)
    repeat (first | (refine sR ?_; simp) | (refine sC ?_; simp) | (refine sX ?_; simp only [AU, ↓reduceIte]))
    refine Stop.of_d (hvl _ _) ?_
    simp
    try (simp [be])
    repeat (first | (refine sR ?_; simp [be]) | (refine sC ?_; simp [be]) | (refine sX ?_; simp only [AU, ↓reduceIte]))
    refine sT ?_
    try simp only [AU]
    refine ⟨by simp, sF hbox htok (fun _ h => h) (Nat.le_refl _) ?_⟩
    simp [packA, ← hN, strs]
end Go.AM
namespace Go.AM
open Go Go.Proofs
theorem usesR_len (p : List Pr) (rs : List ByteArray) (s : ByteArray) : (usesR p rs s).1.length ≤ rs.length := by
  unfold usesR
  split
  · simp
  · split
    · simp
    · rename_i h1 h2
      obtain ⟨hv, h20, h1p, hpe⟩ := fault_valid (Decidable.not_not.1 h1)
      have hir := valid_rules hpe
      have hrg := placeR_lt p s
      have hk := knU_ok hir ((placeR p s).toNat + 1) (by omega)
      have hl := knU_len (p := p) (n := (placeR p s).toNat + 1) (by omega)
      refine hk.len _ ?_
      rw [List.getD_eq_getElem?_getD, List.getElem?_eq_getElem (by omega)]
      exact List.getElem_mem _
set_option maxRecDepth 100000 in
theorem lawUses_c (p : List Pr) (hb : PrsBig p) (rs : List ByteArray) (hr : rs.length ≤ 200000000000000) (s : ByteArray) (hs : s.size ≤ 200000000000000) (tok : Nat → Bool) (nt : Nat) : DCall Tryz.prog 5 [prsAv p, .d (strs rs), Sb s] tok nt (B true) tok nt := by
  intro box nb
  have hfw := few_c p hb.len fun q hq => (hb.big q hq).2
  have hsh := short_c rs hr
  by_cases h1 : fewB p = true
  · have hok := few_prs h1 fun q hq => (hb.big q hq).2
    rw [h1] at hfw
    by_cases h2 : shortB rs = true
    · have hrl := shortB_ok h2
      rw [h2] at hsh
      by_cases h3 : 60 < s.size
      · have h3' : (60 : Int) < s.size := by omega
        refine sB Tryz.func5 Tryz.ntmps5 ?_
        intro hbox htok
        simp only at hbox htok
        apply AL.start
        try (simp)
        repeat (first | (refine sR ?_; simp) | (refine sC ?_; simp) | (refine sX ?_; simp only [AU, ↓reduceIte]))
        refine Stop.of_d (awake_c _ _) ?_
        simp
        try (simp)
        repeat (first | (refine sR ?_; simp) | (refine sC ?_; simp) | (refine sX ?_; simp only [AU, ↓reduceIte]))
        refine Stop.of_d (hfw _ _) ?_
        simp
        try (simp)
        repeat (first | (refine sR ?_; simp) | (refine sC ?_; simp) | (refine sX ?_; simp only [AU, ↓reduceIte]))
        refine Stop.of_d (hsh _ _) ?_
        simp
        try (simp [h3'])
        repeat (first | (refine sR ?_; simp [h3']) | (refine sC ?_; simp [h3']) | (refine sX ?_; simp only [AU, ↓reduceIte]))
        refine Stop.of_d (awake_c _ _) ?_
        simp
        try (simp)
        repeat (first | (refine sR ?_; simp) | (refine sC ?_; simp) | (refine sX ?_; simp only [AU, ↓reduceIte]))
        refine sT ?_
        try simp only [AU]
        refine ⟨by simp, sF hbox htok (fun _ h => h) (Nat.le_refl _) ?_⟩
        simp [packA]
      · have h3' : ¬ (60 : Int) < s.size := by omega
        have hn := named_c rs (by omega)
        have e1 := uses_c p rs s hok (by omega)
        have e2 := uses46_c p rs s hok (by omega)
        have hl := usesR_len p rs s
        have he := equalS_c (usesR p rs s).1 (usesR p rs s).1 (by omega) (by omega)
        rw [decide_eq_true rfl] at he
        generalize usesR p rs s = U at *
        refine sB Tryz.func5 Tryz.ntmps5 ?_
        intro hbox htok
        simp only at hbox htok
        apply AL.start
        try (simp)
        repeat (first | (refine sR ?_; simp) | (refine sC ?_; simp) | (refine sX ?_; simp only [AU, ↓reduceIte]))
        refine Stop.of_d (awake_c _ _) ?_
        simp
        try (simp)
        repeat (first | (refine sR ?_; simp) | (refine sC ?_; simp) | (refine sX ?_; simp only [AU, ↓reduceIte]))
        refine Stop.of_d (hfw _ _) ?_
        simp
        try (simp)
        repeat (first | (refine sR ?_; simp) | (refine sC ?_; simp) | (refine sX ?_; simp only [AU, ↓reduceIte]))
        refine Stop.of_d (hsh _ _) ?_
        simp
        try (simp [h3'])
        repeat (first | (refine sR ?_; simp [h3']) | (refine sC ?_; simp [h3']) | (refine sX ?_; simp only [AU, ↓reduceIte]))
        refine Stop.of_d (hn _ _) ?_
        simp
        try (simp)
        repeat (first | (refine sR ?_; simp) | (refine sC ?_; simp) | (refine sX ?_; simp only [AU, ↓reduceIte]))
        refine Stop.of_d (e1 _ _) ?_
        simp
        try (simp)
        repeat (first | (refine sR ?_; simp) | (refine sC ?_; simp) | (refine sX ?_; simp only [AU, ↓reduceIte]))
        refine Stop.of_d (hn _ _) ?_
        simp
        try (simp)
        repeat (first | (refine sR ?_; simp) | (refine sC ?_; simp) | (refine sX ?_; simp only [AU, ↓reduceIte]))
        refine Stop.of_d (e2 _ _) ?_
        simp
        try (simp)
        repeat (first | (refine sR ?_; simp) | (refine sC ?_; simp) | (refine sX ?_; simp only [AU, ↓reduceIte]))
        refine Stop.of_d (he _ _) ?_
        simp
        try (simp)
        repeat (first | (refine sR ?_; simp) | (refine sC ?_; simp) | (refine sX ?_; simp only [AU, ↓reduceIte]))
        refine sT ?_
        try simp only [AU]
        refine ⟨by simp, sF hbox htok (fun _ h => h) (Nat.le_refl _) ?_⟩
        simp [packA]
    · have h2' : shortB rs = false := by simpa using h2
      rw [h2'] at hsh
      refine sB Tryz.func5 Tryz.ntmps5 ?_
      intro hbox htok
      simp only at hbox htok
      apply AL.start
      try (simp)
      repeat (first | (refine sR ?_; simp) | (refine sC ?_; simp) | (refine sX ?_; simp only [AU, ↓reduceIte]))
      refine Stop.of_d (awake_c _ _) ?_
      simp
      try (simp)
      repeat (first | (refine sR ?_; simp) | (refine sC ?_; simp) | (refine sX ?_; simp only [AU, ↓reduceIte]))
      refine Stop.of_d (hfw _ _) ?_
      simp
      try (simp)
      repeat (first | (refine sR ?_; simp) | (refine sC ?_; simp) | (refine sX ?_; simp only [AU, ↓reduceIte]))
      refine Stop.of_d (hsh _ _) ?_
      simp
      try (simp)
      repeat (first | (refine sR ?_; simp) | (refine sC ?_; simp) | (refine sX ?_; simp only [AU, ↓reduceIte]))
      refine Stop.of_d (awake_c _ _) ?_
      simp
      try (simp)
      repeat (first | (refine sR ?_; simp) | (refine sC ?_; simp) | (refine sX ?_; simp only [AU, ↓reduceIte]))
      refine sT ?_
      try simp only [AU]
      refine ⟨by simp, sF hbox htok (fun _ h => h) (Nat.le_refl _) ?_⟩
      simp [packA]
  · have h1' : fewB p = false := by simpa using h1
    rw [h1'] at hfw
    refine sB Tryz.func5 Tryz.ntmps5 ?_
    intro hbox htok
    simp only at hbox htok
    apply AL.start
    try (simp)
    repeat (first | (refine sR ?_; simp) | (refine sC ?_; simp) | (refine sX ?_; simp only [AU, ↓reduceIte]))
    refine Stop.of_d (awake_c _ _) ?_
    simp
    try (simp)
    repeat (first | (refine sR ?_; simp) | (refine sC ?_; simp) | (refine sX ?_; simp only [AU, ↓reduceIte]))
    refine Stop.of_d (hfw _ _) ?_
    simp
    try (simp)
    repeat (first | (refine sR ?_; simp) | (refine sC ?_; simp) | (refine sX ?_; simp only [AU, ↓reduceIte]))
    refine Stop.of_d (awake_c _ _) ?_
    simp
    try (simp)
    repeat (first | (refine sR ?_; simp) | (refine sC ?_; simp) | (refine sX ?_; simp only [AU, ↓reduceIte]))
    refine sT ?_
    try simp only [AU]
    refine ⟨by simp, sF hbox htok (fun _ h => h) (Nat.le_refl _) ?_⟩
    simp [packA]
end Go.AM
