/-
 Parts of the proof, as merged from many texts: a machine over data, what the functions compute, plain laws.
-/
import Derived.Test.YtainalmfffjnjaaGreatDoorPKS9
import Derived.Still
set_option linter.unusedSimpArgs false
set_option linter.unusedVariables false
namespace Go.AM
open Go Go.Proofs Go.ChangeShapes
structure RdF (P : Program) (T : TypeId) {α : Type} (en : α → List D) (ok : α → Prop) (n : Nat) : Prop where
 sound : ∀ {H : Type} (e : TypeId × Value → H) (w : World) (base : Nat) (spare : Nat → Bool) (held : Bool) (cs : List Value) (x : DataW H × List MemPlace),
  DataW.trod e P w base spare held n T cs = some x → ∃ y, Rd w cs (en y) ∧ (Light P T x.1 → ok y)
theorem Rdr.f {P : Program} {T : TypeId} {α : Type} (r : Rdr P T α) (n : Nat) : RdF P T r.enc r.ok n := ⟨fun e w base spare held cs x hx => r.sound e w base spare held n cs x hx⟩
theorem RdF.zero {P : Program} {T : TypeId} {α : Type} {en : α → List D} {ok : α → Prop} : RdF P T en ok 0 := ⟨fun e w base spare held cs x hx => by simp [DataW.trod] at hx⟩
def Rdr.ofF {P : Program} {T : TypeId} {α : Type} (en : α → List D) (ok : α → Prop) (len : ∀ x, (en x).length = P.cellsOf T) (h : ∀ n, RdF P T en ok n) : Rdr P T α := ⟨en, ok, len, fun e w base spare held n cs x hx => (h n).sound e w base spare held cs x hx⟩
theorem RdF.slice {P : Program} {T E : TypeId} {α : Type} {en : α → List D} {ok : α → Prop} {n : Nat} (r : RdF P E en ok n) (k : Nat) (hk : P.cellsOf E = k) (hlen : ∀ x, (en x).length = k) (h : P.underlying T = some (.slice E)) :
  RdF P T (fun l : List α => [.sl k (l.map en)]) (fun l => (∀ x ∈ l, ok x) ∧ l.length * P.bytesOf E ≤ reachBytes) (n + 1) := by
 subst hk
 constructor
 intro H e w base spare held cs x hx
 rcases DataW.trod_slice h hx with ⟨rfl, rfl⟩ | ⟨a, len, cap, elems, rest, n', hn', rfl, rfl, hb, hl, hm, hel, hat, _⟩
 ·exact ⟨[], Rd.one (.sl (es := []) (fun _ _ => default) (Nat.le_refl _) (by decide) (by simp) (by simp) (by simp) (by simp)), fun _ => ⟨by simp, by simp⟩⟩
 ·obtain rfl : n' = n := by omega
  have key : ∀ i (hi : i < elems.length), ∃ cs y, cs.length = P.cellsOf E ∧ (∀ j (hj : j < cs.length), w.cell? (a.add (i * P.cellsOf E + j)) = some cs[j]) ∧ Rd w cs (en y) ∧ (Light P E elems[i].1 → ok y) := by
   intro i hi
   have h1 := hat i (by omega)
   have h2 : elems[i]? = some elems[i] := List.getElem?_eq_getElem hi
   rw [h2, Option.bind_eq_some_iff] at h1
   obtain ⟨cs, hcs, htr⟩ := h1
   obtain ⟨hcl, hcc⟩ := cells_spec hcs
   obtain ⟨y, hy, hok⟩ := r.sound e w base spare held cs _ htr
   refine ⟨cs, y, hcl, fun j hj => ?_, hy, hok⟩
   rw [← Addr.add_add]
   exact hcc j hj
  have pick : ∀ m, m ≤ elems.length → ∃ ys : List α, ys.length = m ∧ (∀ i (hi : i < ys.length) (hi2 : i < elems.length), ∃ cs, cs.length = P.cellsOf E ∧ (∀ j (hj : j < cs.length), w.cell? (a.add (i * P.cellsOf E + j)) = some cs[j]) ∧ Rd w cs (en ys[i]) ∧ (Light P E elems[i].1 → ok ys[i])) := by
   intro m
   induction m with
   | zero => intro _; exact ⟨[], rfl, fun i hi => by simp at hi⟩
   | succ m ih =>
    intro hm'
    obtain ⟨ys, hys, hall⟩ := ih (by omega)
    obtain ⟨cs, y, g1, g2, g3, g4⟩ := key m (by omega)
    refine ⟨ys ++ [y], by simp [hys], fun i hi hi2 => ?_⟩
    by_cases him : i < ys.length
    ·rw [List.getElem_append_left him]
     exact hall i him hi2
    ·have : i = m := by simp at hi; omega
     subst this
     have e1 : (ys ++ [y])[i] = y := by
      rw [List.getElem_append_right (by omega)]
      simp
     rw [e1]
     exact ⟨cs, g1, g2, g3, g4⟩
  obtain ⟨ys, hys, hall⟩ := pick elems.length (Nat.le_refl _)
  refine ⟨ys, Rd.one ?_, fun hli => ?_⟩
  ·have hlen' : len = ys.length := by omega
   subst hlen'
   have hml : ys.length = (ys.map en).length := by simp
   rw [hml]
   refine .sl (fun i j => (w.cell? (a.add (i * P.cellsOf E + j))).getD default) (by simpa using hl) hm (fun e he => ?_) (fun _ => ⟨a, rfl⟩) (fun a' ha' i j hi hj => ?_) (fun i j hi hj => ?_)
   ·obtain ⟨y, _, rfl⟩ := List.mem_map.1 he
    exact hlen y
   ·cases ha'
    obtain ⟨cs, g1, g2, _⟩ := hall i (by simpa using hi) (by simp at hi; omega)
    rw [g2 j (by omega)]
    exact ⟨trivial, rfl⟩
   ·obtain ⟨cs, g1, g2, g3, _⟩ := hall i (by simpa using hi) (by simp at hi; omega)
    simp only [List.getElem_map] at hj ⊢
    have hjc : j < cs.length := by rw [g3.1]; exact hj
    rw [g2 j hjc]
    exact g3.2 j hjc hj
  ·obtain ⟨w1, w2⟩ := light_slice h hli
   refine ⟨fun y hy => ?_, by simpa [hys] using w1⟩
   obtain ⟨i, hi, rfl⟩ := List.getElem_of_mem hy
   obtain ⟨_, _, _, _, h4⟩ := hall i hi (by omega)
   exact h4 (w2 _ (List.mem_map.2 ⟨_, List.getElem_mem _, rfl⟩))
theorem list4 {α : Type} {l : List α} (h : l.length = 4) : l = [l[0]'(by omega), l[1]'(by omega), l[2]'(by omega), l[3]'(by omega)] := by
 match l, h with
 | [p, q, r, s], _ => rfl
theorem RdF.struct4 {P : Program} {T A B C E : TypeId} {α β γ δ : Type} {ea : α → List D} {eb : β → List D} {ec : γ → List D} {ed : δ → List D} {oa : α → Prop} {ob : β → Prop} {oc : γ → Prop} {od : δ → Prop} {n : Nat}
  (r : RdF P A ea oa n) (s : RdF P B eb ob n) (t : RdF P C ec oc n) (u : RdF P E ed od n) {f0 f1 f2 f3 : Field} (h : P.underlying T = some (.struct #[f0, f1, f2, f3])) (hA : f0.type = A) (hB : f1.type = B) (hC : f2.type = C) (hE : f3.type = E)
  (h0 : f0.offset = 0) (h1 : f1.offset = P.cellsOf A) (h2 : f2.offset = P.cellsOf A + P.cellsOf B) (h3 : f3.offset = P.cellsOf A + P.cellsOf B + P.cellsOf C) (hc : P.cellsOf T = P.cellsOf A + P.cellsOf B + P.cellsOf C + P.cellsOf E) :
  RdF P T (fun x : α × β × γ × δ => ea x.1 ++ (eb x.2.1 ++ (ec x.2.2.1 ++ ed x.2.2.2))) (fun x => oa x.1 ∧ ob x.2.1 ∧ oc x.2.2.1 ∧ od x.2.2.2) (n + 1) := by
 constructor
 intro H e w base spare held cs x hx
 obtain ⟨xs, n', hn', rfl, hl, hxs, hat⟩ := DataW.trod_struct h hx
 obtain rfl : n' = n := by omega
 have hxs' : xs.length = 4 := hxs
 have g0 := hat 0 f0 rfl
 have g1 := hat 1 f1 rfl
 have g2 := hat 2 f2 rfl
 have g3 := hat 3 f3 rfl
 have e0 : xs[0]? = some (xs[0]'(by omega)) := List.getElem?_eq_getElem (by omega)
 have e1 : xs[1]? = some (xs[1]'(by omega)) := List.getElem?_eq_getElem (by omega)
 have e2 : xs[2]? = some (xs[2]'(by omega)) := List.getElem?_eq_getElem (by omega)
 have e3 : xs[3]? = some (xs[3]'(by omega)) := List.getElem?_eq_getElem (by omega)
 rw [e0, h0, hA] at g0
 rw [e1, h1, hB] at g1
 rw [e2, h2, hC] at g2
 rw [e3, h3, hE] at g3
 obtain ⟨y, k1, k2⟩ := r.sound e w base spare held _ _ g0
 obtain ⟨z, m1, m2⟩ := s.sound e w base spare held _ _ g1
 obtain ⟨q, p1, p2⟩ := t.sound e w base spare held _ _ g2
 obtain ⟨v, q1, q2⟩ := u.sound e w base spare held _ _ g3
 refine ⟨(y, z, q, v), ?_, fun hli => ?_⟩
 rotate_left
 ·unfold Light at hli k2 m2 p2 q2
  have e2 : xs = [xs[0]'(by omega), xs[1]'(by omega), xs[2]'(by omega), xs[3]'(by omega)] := list4 hxs'
  rw [e2] at hli
  simp only [List.map_cons, List.map_nil, DataW.weights, h, DataW.weightsEach, hA, hB, hC, hE, List.all_append, Bool.and_eq_true] at hli
  exact ⟨k2 hli.1, m2 hli.2.1, p2 hli.2.2.1, q2 hli.2.2.2.1⟩
 have hcs : cs = (cs.drop 0).take (P.cellsOf A) ++ ((cs.drop (P.cellsOf A)).take (P.cellsOf B) ++ ((cs.drop (P.cellsOf A + P.cellsOf B)).take (P.cellsOf C) ++ (cs.drop (P.cellsOf A + P.cellsOf B + P.cellsOf C)).take (P.cellsOf E))) := by
  have : (cs.drop (P.cellsOf A + P.cellsOf B + P.cellsOf C)).take (P.cellsOf E) = cs.drop (P.cellsOf A + P.cellsOf B + P.cellsOf C) := List.take_of_length_le (by simp; omega)
  rw [this]
  have e3 := List.take_append_drop (P.cellsOf C) (cs.drop (P.cellsOf A + P.cellsOf B))
  have e2 := List.take_append_drop (P.cellsOf B) (cs.drop (P.cellsOf A))
  rw [List.drop_drop] at e3 e2
  rw [e3, e2, List.drop_zero, List.take_append_drop]
 rw [hcs]
 exact k1.append (m1.append (p1.append q1))
theorem by_int : Tryz.prog.bytesOf 3 = 8 := by kernel_rfl
theorem by_edge : Tryz.prog.bytesOf 139 = 24 := by kernel_rfl
theorem rdInts_ok {l : List Int} (h : rdInts.ok l) : l.length ≤ bigN := by
 have h2 : l.length * Tryz.prog.bytesOf 3 ≤ reachBytes := h.2
 rw [by_int] at h2; unfold reachBytes at h2; rw [bigN_eq]; omega
theorem rdEdges_ok {l : List E} (h : rdEdges.ok l) : l.length ≤ bigN := by
 have h2 : l.length * Tryz.prog.bytesOf 139 ≤ reachBytes := h.2
 rw [by_edge] at h2; unfold reachBytes at h2; rw [bigN_eq]; omega
structure Gr.Big (g : Gr) : Prop where
 n : g.nodes.length ≤ bigN
 e : g.edges.length ≤ bigN
def rdGraphB : Rdr Tryz.prog 29 Gr := rdGraph0.map (fun x => ⟨x.1, x.2⟩) (fun g => [ints g.nodes, AM.edges g.edges]) Gr.Big (fun _ => rfl) (fun _ h => ⟨rdInts_ok h.1, rdEdges_ok h.2⟩) (fun _ => by kernel_rfl)
def rdMorph0 : Rdr Tryz.prog 38 (List Int × List Int) := Rdr.struct2 rdInts rdInts Tryz.underlying38 rfl rfl rfl (by kernel_rfl) (by kernel_rfl)
def Cd.rowD (c : Cd) : List D := [.raw (.int .i64 c.kind), conds c.kids, ints c.m.nodes, ints c.m.edges, ints c.g.nodes, AM.edges c.g.edges, slots c.sl, .raw (.int .i64 c.vars), tests c.te]
end Go.AM
namespace Go.AM
open Go Go.Proofs Go.ChangeShapes
def Rdr.str {P : Program} {T : TypeId} (h : P.underlying T = some .string) (hc : P.cellsOf T = 1) : Rdr P T ByteArray where
 enc n := [.raw (.string n)]
 ok n := n.size ≤ maxLen
 len _ := by simp [hc]
 sound e w base spare held fuel cs x hx := by
  cases fuel with
  | zero => simp [DataW.trod] at hx
  | succ n =>
   unfold DataW.trod at hx
   rw [h] at hx
   split at hx <;> simp_all
   exact ⟨_, Rd.one (.raw rfl), fun _ => hx.1⟩
def Rdr.bool {P : Program} {T : TypeId} (h : P.underlying T = some .bool) (hc : P.cellsOf T = 1) : Rdr P T Bool where
 enc n := [.raw (.bool n)]
 ok n := True
 len _ := by simp [hc]
 sound e w base spare held fuel cs x hx := by
  cases fuel with
  | zero => simp [DataW.trod] at hx
  | succ n =>
   unfold DataW.trod at hx
   rw [h] at hx
   split at hx <;> first | (simp_all; done) | skip
   exact ⟨_, Rd.one (.raw rfl), fun _ => trivial⟩
end Go.AM
namespace Go.AM
open Go Go.Proofs Go.ChangeShapes
def rdStr : Rdr Tryz.prog 9 ByteArray := Rdr.str Tryz.underlying9 (by kernel_rfl)
def Ru.rowD (r : Ru) : List D := [.raw (.string r.name), ints r.lg.nodes, AM.edges r.lg.edges, slots r.lsl, .raw (.int .i64 r.lv), tests r.lte, ints r.rg.nodes, AM.edges r.rg.edges, slots r.rsl, .raw (.int .i64 r.rv), tests r.rte,
 ints r.k.nodes, ints r.k.edges, ints r.i.nodes, ints r.i.edges, .raw (.bool r.inj)] ++ r.c.cells
end Go.AM
namespace Go.AM
open Go Go.Proofs Go.ChangeShapes
structure At.Big (a : At) : Prop where
 n : a.name.size ≤ maxLen
 l : a.names.length ≤ bigN
 s : ∀ x ∈ a.names, x.size ≤ maxLen
structure NT.Big (x : NT) : Prop where
 n : x.name.size ≤ maxLen
 l : x.own.length ≤ bigN
 a : ∀ y ∈ x.own, y.Big
structure Ty.Big (t : Ty) : Prop where
 n : t.nodes.length ≤ bigN
 e : t.edges.length ≤ bigN
 nn : ∀ x ∈ t.nodes, x.Big
 en : ∀ x ∈ t.edges, x.name.size ≤ maxLen
end Go.AM
namespace Go.AM
open Go Go.Proofs Go.ChangeShapes
structure Xt.Big (x : Xt) : Prop where
 mn : x.m.nodes.length ≤ bigN
 me : x.m.edges.length ≤ bigN
 g : x.g.Big
structure Co.Big (c : Co) : Prop where
 name : c.name.size ≤ maxLen
 g : c.g.Big
 n : c.exts.length ≤ bigN
 exts : ∀ x ∈ c.exts, x.Big
theorem by_xt : Tryz.prog.bytesOf 146 = 96 := by kernel_rfl
def rdXt0 : Rdr Tryz.prog 146 ((List Int × List Int) × Gr) := Rdr.struct2 rdMorph0 rdGraphB Tryz.underlying146 rfl rfl rfl (by kernel_rfl) (by kernel_rfl)
def rdXt : Rdr Tryz.prog 146 Xt := rdXt0.map (fun x => ⟨⟨x.1.1, x.1.2⟩, x.2⟩) Xt.cells Xt.Big (fun _ => rfl) (fun x h => ⟨rdInts_ok h.1.1, rdInts_ok h.1.2, h.2⟩) (fun _ => by kernel_rfl)
def rdXts : Rdr Tryz.prog 30 (List Xt) := rdXt.sliceN 4 Tryz.underlying30 (by kernel_rfl) (by kernel_rfl)
theorem rdXts_ok {l : List Xt} (h : rdXts.ok l) : l.length ≤ bigN ∧ ∀ x ∈ l, x.Big := by
 have h2 : l.length * Tryz.prog.bytesOf 146 ≤ reachBytes := h.2
 rw [by_xt] at h2
 have : reachBytes = 140737488351232 := rfl
 exact ⟨by rw [bigN_eq]; omega, h.1⟩
abbrev CoT := ByteArray × Int × Gr × List Xt
theorem rdCo_n (n : Nat) : RdF Tryz.prog 32 (fun x : CoT => rdStr.enc x.1 ++ (rdInt.enc x.2.1 ++ (rdGraphB.enc x.2.2.1 ++ rdXts.enc x.2.2.2))) (fun x => rdStr.ok x.1 ∧ rdInt.ok x.2.1 ∧ rdGraphB.ok x.2.2.1 ∧ rdXts.ok x.2.2.2) n := by
 cases n with
 | zero => exact .zero
 | succ n => exact RdF.struct4 (rdStr.f n) (rdInt.f n) (rdGraphB.f n) (rdXts.f n) Tryz.underlying32 rfl rfl rfl rfl rfl (by kernel_rfl) (by kernel_rfl) (by kernel_rfl) (by kernel_rfl)
def rdCo0 : Rdr Tryz.prog 32 CoT := Rdr.ofF _ _ (fun x => by simp [rdStr.len, rdInt.len, rdGraphB.len, rdXts.len]; kernel_rfl) rdCo_n
def Co.rowD (c : Co) : List D := [.raw (.string c.name), .raw (.int .i64 c.kind), ints c.g.nodes, AM.edges c.g.edges, xts c.exts]
def rdCo : Rdr Tryz.prog 32 Co := rdCo0.map (fun x => ⟨x.1, x.2.1, x.2.2.1, x.2.2.2⟩) Co.rowD Co.Big (fun _ => rfl) (fun x h => ⟨h.1, h.2.2.1, (rdXts_ok h.2.2.2).1, (rdXts_ok h.2.2.2).2⟩) (fun _ => by kernel_rfl)
set_option maxRecDepth 100000 in
theorem arg_constraint {ps : Array TypeId} {args : Array Value} {W : World} {base base' : Nat} {sp : Nat → Bool} {held : Bool} {H : Type} {enc : TypeId × Value → H} (hval : ∀ (j : Nat) t v, ps[j]? = some t → args[j]? = some v → Value.okWide Tryz.prog W .any base t v)
  (j : Nat) (v : Value) (hp : ps[j]? = some 32) (ha : args[j]? = some v) {d : DataW H} {p : List MemPlace} (h : DataW.Trod enc Tryz.prog W base' sp held 32 v d p) (hli : Light Tryz.prog 32 d) : ∃ c : Co, c.Big ∧ RV G0 W c.av v := by
 refine Exists.elim (arg_agg hval j 32 v hp ha rdCo aggT_32 h hli) fun c hc => ⟨c, hc.1, ?_⟩
 have h2 : RV G0 W (.agg (c.rowD.map .d)) v := hc.2
 exact h2
end Go.AM
namespace Go.AM
open Go Go.Proofs
def fewX (x : Xt) : Bool := if fewG x.g = true then fewM x.m 140 else false
def fewC (c : Co) : Bool := if 60 < c.name.size then false else if 10 < c.exts.length then false else if fewG c.g = true then allP fewX c.exts else false
theorem allP_mem {α : Type} {p : α → Bool} {l : List α} (h : allP p l = true) : ∀ x ∈ l, p x = true := List.all_eq_true.1 h
theorem fewC_fit {c : Co} (h : fewC c = true) : c.Fit ∧ c.exts.length ≤ 10 := by
 unfold fewC at h
 split at h
 ·cases h
 rename_i h1
 split at h
 ·cases h
 rename_i h2
 split at h
 ·rename_i h3
  refine ⟨⟨by omega, fewG_fit h3, by omega, fun x hx => ?_⟩, by omega⟩
  have := allP_mem h x hx
  unfold fewX at this
  split at this
  ·rename_i h4; exact ⟨fewM_fit2 this, fewG_fit h4⟩
  ·cases this
 ·cases h
def stFc (c : Co) (nb : Nat) (box : Bxs) (tok : Tks) (nt : Nat) (i : Nat) : AState :=
 ⟨tl [(3, I i), (1, .ptr (nb + 1) 0 0)], lb nb box [(1, [c.row])], tok, nt⟩
theorem few42_c (c : Co) (hc : c.Big) (tok : Tks) (nt : Nat) : DCall Tryz.prog 14 [c.av] tok nt (B (fewC c)) tok nt := by
 intro box nb
 have hn := hc.n
 rw [bigN_eq] at hn
 have hnm := hc.name
 have h1 := few05_c c.g
 obtain ⟨N, hN⟩ : ∃ N, fewC c = N := ⟨_, rfl⟩
 rw [hN]
 unfold fewC at hN
 by_cases e1 : 60 < c.name.size
 ·have e1' : (60 : Int) < c.name.size := by omega
  rw [if_pos e1] at hN
  refine sB Tryz.func14 Tryz.ntmps14 ?_
  intro hbox htok
  simp only at hbox htok
  apply AL.start
  try (simp [e1, e1'])
  repeat (first | (refine sR ?_; simp [e1, e1']) | (refine sC ?_; simp [e1, e1']) | (refine sX ?_; simp only [AU, ↓reduceIte]))
  refine sT ?_
  try simp only [AU]
  refine ⟨by simp, sF hbox htok (fun _ h => h) (Nat.le_refl _) ?_⟩
  simp [packA, ← hN]
 ·have e1' : ¬ (60 : Int) < c.name.size := by omega
  rw [if_neg e1] at hN
  by_cases e2 : 10 < c.exts.length
  ·have e2' : (10 : Int) < c.exts.length := by omega
   rw [if_pos e2] at hN
   refine sB Tryz.func14 Tryz.ntmps14 ?_
   intro hbox htok
   simp only at hbox htok
   apply AL.start
   try (simp [e1, e1', e2, e2'])
   repeat (first | (refine sR ?_; simp [e1, e1', e2, e2']) | (refine sC ?_; simp [e1, e1', e2, e2']) | (refine sX ?_; simp only [AU, ↓reduceIte]))
   refine sT ?_
   try simp only [AU]
   refine ⟨by simp, sF hbox htok (fun _ h => h) (Nat.le_refl _) ?_⟩
   simp [packA, ← hN]
  ·have e2' : ¬ (10 : Int) < c.exts.length := by omega
   rw [if_neg e2] at hN
   refine sB Tryz.func14 Tryz.ntmps14 ?_
   intro hbox htok
   simp only at hbox htok
   apply AL.start
   try (simp [e1, e1', e2, e2'])
   repeat (first | (refine sR ?_; simp [e1, e1', e2, e2']) | (refine sC ?_; simp [e1, e1', e2, e2']) | (refine sX ?_; simp only [AU, ↓reduceIte]))
   refine Stop.of_d (h1 _ _) ?_
   simp
   cases e3 : fewG c.g
   ·rw [e3, if_neg (by simp)] at hN
    try (simp)
    repeat (first | (refine sR ?_; simp) | (refine sC ?_; simp) | (refine sX ?_; simp only [AU, ↓reduceIte]))
    refine sT ?_
    try simp only [AU]
    refine ⟨by simp, sF hbox htok (fun _ h => h) (Nat.le_refl _) ?_⟩
    simp [packA, ← hN]
   ·rw [e3, if_pos rfl] at hN
    try (simp)
    repeat (first | (refine sR ?_; simp) | (refine sC ?_; simp) | (refine sX ?_; simp only [AU, ↓reduceIte]))
    refine sN ?_
    refine AL.loopT (stFc c nb box tok nt) (fun i => i ≤ c.exts.length ∧ allP fewX (c.exts.take i) = true) (fun i => c.exts.length - i) 0 ⟨Nat.zero_le _, by simp [allP]⟩ (Weaks.mk (Nat.le_refl _) rfl (by simp [ToL, lk, lb_at]) (by simp [BoxL, lk])) ?_
    rintro i S' ⟨hi, hok⟩ hS
    simp only [stFc] at hS
    subst hS
    have hw := sW (i := i) (by omega)
    try (simp)
    repeat (refine sR ?_; simp)
    refine sC ?_
    simp
    refine ⟨fun hlt => ?_, fun hge => ?_⟩
    ·have hno := fun h => all_no (p := fewX) hlt h
     have hyes := fun h => all_more (p := fewX) hlt hok h
     have hb := hc.exts _ (List.getElem_mem hlt)
     have b1 := hb.mn
     have b2 := hb.me
     rw [bigN_eq] at b1 b2
     have c1 := few05_c c.exts[i].g
     have c2 := few06_c c.exts[i].m 140 (by omega) (by omega)
     have hd : fewX c.exts[i] = if fewG c.exts[i].g = true then fewM c.exts[i].m 140 else false := rfl
     try (simp [hlt])
     repeat (refine sR ?_; simp [hlt])
     refine Stop.of_d (c1 _ _) ?_
     simp
     cases e4 : fewG c.exts[i].g
     ·rw [e4, if_neg (by simp)] at hd
      rw [hno hd] at hN
      try (simp)
      repeat (first | (refine sR ?_; simp) | (refine sC ?_; simp) | (refine sX ?_; simp only [AU, ↓reduceIte]))
      refine sT ?_
      try simp only [AU]
      refine ⟨by simp, sF hbox htok (fun _ h => h) (Nat.le_refl _) ?_⟩
      simp [packA, ← hN]
     ·rw [e4, if_pos rfl] at hd
      try (simp [hlt])
      repeat (first | (refine sR ?_; simp [hlt]) | (refine sC ?_; simp [hlt]) | (refine sX ?_; simp only [AU, ↓reduceIte]))
      refine Stop.of_d (c2 _ _) ?_
      simp
      cases e5 : fewM c.exts[i].m 140
      ·rw [e5] at hd
       rw [hno hd] at hN
       try (simp)
       repeat (first | (refine sR ?_; simp) | (refine sC ?_; simp) | (refine sX ?_; simp only [AU, ↓reduceIte]))
       refine sT ?_
       try simp only [AU]
       refine ⟨by simp, sF hbox htok (fun _ h => h) (Nat.le_refl _) ?_⟩
       simp [packA, ← hN]
      ·rw [e5] at hd
       try (simp [hw])
       repeat (first | (refine sR ?_; simp [hw]) | (refine sC ?_; simp [hw]) | (refine sX ?_; simp only [AU, ↓reduceIte]))
       refine sE ?_
       exact ⟨i + 1, ⟨hlt, hyes hd⟩, by omega, Weaks.mk (Nat.le_refl _) rfl (by simp [ToL, lk, lb_at]) (by simp [BoxL, lk])⟩
    ·refine sX ?_
     simp only [AU, ↓reduceIte]
     have : i = c.exts.length := by omega
     subst this
     rw [List.take_length] at hok
     rw [hok] at hN
     try (simp)
     repeat (refine sR ?_; simp)
     refine sT ?_
     try simp only [AU]
     refine ⟨by simp, sF hbox htok (fun _ h => h) (Nat.le_refl _) ?_⟩
     simp [packA, ← hN]
end Go.AM
namespace Go.AM
open Go
variable {P : Program}
theorem wpOps_glue {ops ops' : Array Oper} {Q : Exit → Act → World → Prop} {l2 : List Nat} : ∀ (l : List Nat), (∀ i ∈ l, ∃ o, ops[i]? = some o ∧ ops'[i]? = some o ∧ o.guard = none) → ∀ (a : Act) (w : World),
  wpOps P ops' (fun e a w => match e with | .normal => wpOps P ops Q l2 a w | e => Q e a w) l a w → wpOps P ops Q (l ++ l2) a w
 | [], _, a, w, h => h
 | i :: l, hl, a, w, h => by
  obtain ⟨o, h1, h2, h3⟩ := hl i (by simp)
  have ih := wpOps_glue (Q := Q) (l2 := l2) l fun j hj => hl j (by simp [hj])
  rw [List.cons_append]
  unfold wpOps at h ⊢
  rw [h2] at h
  rw [h1]
  have hw : ∀ y, Region.wanted o y = true := fun y => by unfold Region.wanted; rw [h3]
  simp only [hw, ↓reduceIte] at h ⊢
  have hlo : LetsOut (fun e a w => match e with | .normal => wpOps P ops Q l2 a w | e => Q e a w) → LetsOut Q := fun ⟨a, w, h⟩ => ⟨a, w, h⟩
  rcases h with h | ⟨h, k⟩
  ·left
   unfold Oper.wp at h ⊢
   generalize (execOp a.eval o).run P w = r at *
   cases r with
   | ok n w' =>
    cases n <;> simp only [Oper.upon] at h ⊢ <;>
     first
      | exact ih _ _ h
      | exact Calls.mono h (fun e w'' he => by cases e <;> first | exact ih _ _ he | exact hlo he | exact he)
      | exact Rows.mono h (fun _ _ he => ih _ _ he)
   | halt x w' => cases x <;> simp only [Oper.upon] at h ⊢ <;> first | exact h | exact hlo h
  ·exact .inr ⟨h, hlo k⟩
def IdxK (P : Program) (T E : TypeId) (x i : Operand) (d1 d2 : Tmp) (K : AState → Prop) (S : AState) : Prop := match S.ev x, S.ev i with
 | .stk t sz es, .d (.raw (.int k q)) => match es[q.toNat]? with
  | some [.raw v] => 0 ≤ q ∧ S.tok t = true ∧ K ⟨putT (putT S.tmps (some d1) .bot) (some d2) (.d (.raw v)), S.box, S.tok, S.nt⟩
  | _ => False
 | _, _ => False
def idxT (P : Program) (T E : TypeId) : Bool := match rowT P T with
 | some (_, sz, _) => decide (sz = 1) && (match aggT P E with | some false => true | _ => false)
 | none => false
theorem idx_pair {G : Gh} {m : AMem} {w : World} {T E t sz : Nat} {es : List (List D)} {k : IntKind} {q : Int} {v xv : Value} (hT : idxT P T E = true) (hm : RelM G m w) (ht : m.tok t = true) (hx : RV G w (.stk t sz es) xv) (h0 : 0 ≤ q) (he : es[q.toNat]? = some [.raw v]) :
  ∃ a : Addr, (Instr.indexAt T xv (.int k q)).run P w = .ok (.pointer (some a)) w ∧ (loadVar E a).run P w = .ok v w ∧ RV G w (.d (.raw v)) v := by
 have hd := lent_cell hm (.stk ht) hx
 unfold idxT at hT
 split at hT
 ·rename_i E' sz' by' hrow
  simp only [Bool.and_eq_true, decide_eq_true_eq] at hT
  obtain ⟨rfl, hag⟩ := hT
  obtain ⟨hE, hs, hp⟩ := rowT_sz hrow
  have hag : aggT P E = some false := by
   split at hag
   ·assumption
   ·cases hag
  obtain ⟨hlt, hel⟩ := List.getElem?_eq_some_iff.1 he
  cases hd with
  | sl u hcap hmax hsz hA hc hr =>
   rename_i A cap
   obtain ⟨a, rfl⟩ := hA (fun e => by rw [e] at hlt; simp at hlt)
   have hsz1 : sz = 1 := by
    have := hsz _ (List.getElem_mem hlt)
    rw [hel] at this
    simpa using this.symm
   subst hsz1
   have hc1 := (hc a rfl q.toNat 0 hlt (by omega)).2
   have hr1 := hr q.toNat 0 hlt (by rw [hel]; simp)
   simp only [hel, List.getElem_cons_zero] at hr1
   cases hr1 with
   | raw h1 =>
    refine ⟨_, run_indexAt_slice' hE hs a es.length cap k q h0 (by omega) w, ?_, .d (.raw h1)⟩
    exact run_loadVar_one hag (by simpa using hc1)
 ·cases hT
theorem pend_no {base : Nat} {o : Oper} {G : Gh} {box : Bxs} (h : isAlloc o.op = false) : Pend P base o G box := by
 unfold Pend
 split
 ·rename_i h1 _
  rw [h1] at h
  cases h
 ·trivial
theorem AT.idx {cx : Cx} {nt0 id : Nat} {ops : Array Oper} {S : AState} {K : Exit → AState → Prop} (p : Nat) (o1 o2 : Oper) {T E : TypeId} {x i : Operand} {d1 d2 : Tmp} (hnb : cx.base + cx.n ≤ cx.nb) (hok : regionOk cx.n ops false = true) (hok2 : regionOk cx.n (ops.extract 0 p) false = true)
  (hng : (ops.toList.all fun o => o.guard.isNone && !isAlloc o.op) = true) (h1 : ops[p]? = some o1) (h2 : ops[p + 1]? = some o2) (e1 : o1.op = .indexAddr T x i) (e2 : o2.op = .load E (.tmp d1)) (f1 : o1.dst = some d1) (f2 : o2.dst = some d2) (hT : idxT P T E = true)
  (h : AOps P cx (ops.extract 0 p) (ops.toList.take p) S (IdxK P T E x i d1 d2 fun S2 => AOps P cx ops (ops.toList.drop (p + 2)) S2 (K .normal))) : AT P cx nt0 (.region id ops false) S K := by
 simp only [regionOk, Bool.and_eq_true, Bool.not_false, Bool.true_or, and_true] at hok hok2
 obtain ⟨hal, hdst⟩ := hok
 obtain ⟨hal2, hdst2⟩ := hok2
 have hd := dstOk_spec hdst
 have hd2 := dstOk_spec hdst2
 have hall := List.all_eq_true.1 hng
 have hgd : ∀ o ∈ ops, o.guard = none ∧ isAlloc o.op = false := fun o ho => by
  have := hall o (by simpa using ho)
  simp only [Bool.and_eq_true, Option.isNone_iff_eq_none, Bool.not_eq_true'] at this
  exact this
 have hp1 : p + 1 < ops.size := (Array.getElem?_eq_some_iff.1 h2).1
 have m1 : o1 ∈ ops := Array.mem_of_getElem? h1
 have m2 : o2 ∈ ops := Array.mem_of_getElem? h2
 intro G0 w0 he hn G a w hr hl
 refine wp_region ?_
 have hsplit : List.range ops.size = List.range' 0 p ++ (p :: (p + 1) :: List.range' (p + 2) (ops.size - (p + 2))) := by
  rw [List.range_eq_range', show ops.size = p + (1 + (1 + (ops.size - (p + 2)))) by omega, ← List.range'_append_1, ← List.range'_append_1, ← List.range'_append_1]
  simp only [Nat.zero_add]
  rw [show p + (1 + (1 + (ops.size - (p + 2)))) - (p + 2) = ops.size - (p + 2) by omega]
  rfl
 rw [hsplit]
 refine wpOps_glue (ops' := ops.extract 0 p) (List.range' 0 p) (fun j hj => ?_) a w ?_
 ·have hj' : j < p := by simpa using hj
  have hjs : j < ops.size := by omega
  refine ⟨ops[j], by simp [hjs], ?_, (hgd _ (Array.getElem_mem hjs)).1⟩
  rw [Array.getElem?_extract]
  have hmin : j < min p ops.size := by omega
  simp [hj', hjs, hmin]
 have hlp : (ops.toList.take p).length = p := by simp; omega
 have := aops_sound (ops := ops.extract 0 p) (G0 := G0) (w0 := w0) (K := IdxK P T E x i d1 d2 fun S2 => AOps P cx ops (ops.toList.drop (p + 2)) S2 (K .normal))
  (Q := fun e a' w' => match e with | .normal => wpOps P ops (fun e a' w' => ∃ S' G', K e S' ∧ RelS cx.n cx.nb G' S' a' w' ∧ LeC cx G0 w0 G' w' S') (p :: (p + 1) :: List.range' (p + 2) (ops.size - (p + 2))) a' w' | e => (fun e a' w' => ∃ S' G', K e S' ∧ RelS cx.n cx.nb G' S' a' w' ∧ LeC cx G0 w0 G' w' S') e a' w')
  hd2 hnb hal2 (fun S1 a1 w1 G1 hK hr1 hl1 => ?_) (ops.toList.take p) 0 S a w G (by simp [Array.toList_extract, List.extract_eq_take_drop]) (fun o ho => pend_no (hgd o (by simpa using List.mem_of_mem_take ho)).2) hr hl h
 ·rw [hlp] at this
  exact this
 ·unfold IdxK at hK
  split at hK
  ·rename_i t sz es k q hsx hsi
   split at hK
   ·rename_i v hes
    obtain ⟨h0, ht, hK⟩ := hK
    have hx := hr1.ev x
    rw [hsx] at hx
    have hi := hr1.ev i
    rw [hsi] at hi
    have hi2 : a1.eval i = .int k q := rawOf_spec rfl hi
    obtain ⟨ad, r1, r2, r3⟩ := idx_pair hT hr1.mem ht hx h0 hes
    have hd1 := hd o1 d1 m1 f1
    have hr2 := hr1.put (dst := some d1) (Le.refl G1 w1) (fun d e => by cases e; exact hd1) (v := .bot) (u := .pointer (some ad)) .bot hr1.mem
    have hr3 := hr2.put (dst := some d2) (Le.refl G1 w1) (fun d e => by cases e; exact hd o2 d2 m2 f2) (v := .d (.raw v)) (u := v) r3 hr2.mem
    rw [wpOps_cons]
    unfold wpOp
    rw [h1]
    have hw1 : ∀ y, Region.wanted o1 y = true := fun y => by unfold Region.wanted; rw [(hgd o1 m1).1]
    have hw2 : ∀ y, Region.wanted o2 y = true := fun y => by unfold Region.wanted; rw [(hgd o2 m2).1]
    simp only [hw1, ↓reduceIte]
    left
    unfold Oper.wp
    have x1 : (execOp a1.eval o1).run P w1 = .ok (.value (.pointer (some ad))) w1 := by simp only [execOp, e1, hi2, Sem.run_bind]; rw [r1]; simp only [Result.andThen_ok, Sem.run_pure]
    rw [x1, Oper.upon_value, f1, wpOps_cons]
    unfold wpOp
    rw [h2]
    simp only [hw2, ↓reduceIte]
    left
    unfold Oper.wp
    have hev : (a1.put (some d1) (.pointer (some ad))).eval (.tmp d1) = .pointer (some ad) := by
     have hsz := hr1.size
     simp [Act.put, Act.eval, hsz, hd1]
    have x2 : (execOp (a1.put (some d1) (.pointer (some ad))).eval o2).run P w1 = .ok (.value v) w1 := by simp only [execOp, e2, hev, Instr.loadAt, Instr.sureAddr, Sem.run_bind, Sem.run_pure, Result.andThen_ok, r2]
    rw [x2, Oper.upon_value, f2]
    have hl3 : LeC cx G0 w0 G1 w1 ⟨putT (putT S1.tmps (some d1) .bot) (some d2) (.d (.raw v)), S1.box, S1.tok, S1.nt⟩ := ⟨hl1.1, hl1.2⟩
    have hfin := aops_sound (ops := ops) (G0 := G0) (w0 := w0) (K := K .normal) (Q := fun e a' w' => ∃ S' G', K e S' ∧ RelS cx.n cx.nb G' S' a' w' ∧ LeC cx G0 w0 G' w' S') hd hnb hal (fun S' a' w' G' q1 q2 q3 => ⟨S', G', q1, q2, q3⟩) (ops.toList.drop (p + 2)) (p + 2) _ _ w1 G1 rfl (fun o ho => pend_no (hgd o (by simpa using List.mem_of_mem_drop ho)).2) hr3 hl3 hK
    simpa using hfin
   ·exact hK.elim
  ·exact hK.elim
theorem Op1.mono {cx : Cx} {o : Oper} {S : AState} {K K' : AState → Prop} (hk : ∀ S, K S → K' S) (h : Op1 P cx o S K) : Op1 P cx o S K' := by
 unfold Op1 at h ⊢
 split at h
 ·exact h.mono fun _ _ q => hk _ q
 ·rcases h with ⟨S1, a, b⟩ | ⟨t, es, a, b⟩
  ·exact .inl ⟨S1, a, hk _ b⟩
  ·exact .inr ⟨t, es, a, fun x y => hk _ (b x y)⟩
theorem AOps.mono {cx : Cx} {ops : Array Oper} {K K' : AState → Prop} (hk : ∀ S, K S → K' S) : ∀ (l : List Oper) (S : AState), AOps P cx ops l S K → AOps P cx ops l S K'
 | [], S, h => hk S h
 | o :: r, S, h => by
  unfold AOps at h ⊢
  split at h
  ·exact h.mono fun S1 q => AOps.mono hk r S1 q
  ·split at h
   ·exact ⟨fun e => (h.1 e).mono fun S1 q => AOps.mono hk r S1 q, fun e => AOps.mono hk r _ (h.2 e)⟩
   ·exact h
theorem IdxK.mono {T E : TypeId} {x i : Operand} {d1 d2 : Tmp} {K K' : AState → Prop} (hk : ∀ S, K S → K' S) {S : AState} (h : IdxK P T E x i d1 d2 K S) : IdxK P T E x i d1 d2 K' S := by
 unfold IdxK at h ⊢
 split at h
 ·split at h
  ·exact ⟨h.1, h.2.1, hk _ h.2.2⟩
  ·exact h
 ·exact h
theorem AL.idx {cx : Cx} {nt0 id : Nat} {ops : Array Oper} {S : AState} {K : Exit → AState → Prop} {r : List CI} (p : Nat) {o1 o2 : Oper} {pre post : List Oper} {T E : TypeId} {x i : Operand} {d1 d2 : Tmp} (hnb : cx.base + cx.n ≤ cx.nb) (hok : regionOk cx.n ops false = true) (hok2 : regionOk cx.n (ops.extract 0 p) false = true)
  (hng : (ops.toList.all fun o => o.guard.isNone && !isAlloc o.op) = true) (h1 : ops[p]? = some o1) (h2 : ops[p + 1]? = some o2) (h3 : ops.toList.take p = pre) (h4 : ops.toList.drop (p + 2) = post) (e1 : o1.op = .indexAddr T x i) (e2 : o2.op = .load E (.tmp d1)) (f1 : o1.dst = some d1) (f2 : o2.dst = some d2) (hT : idxT P T E = true)
  (h : FOps P cx (ops.extract 0 p) false pre (IdxK P T E x i d1 d2 (FOps P cx ops false post (AL P cx nt0 K r))) S) : AL P cx nt0 K (.c (.region id ops false) :: r) S := by
 subst h3 h4
 simp only [AL]
 refine AT.idx p o1 o2 hnb hok hok2 hng h1 h2 e1 e2 f1 f2 hT ?_
 exact AOps.mono (fun S1 q => IdxK.mono (fun S2 q2 => fOps_false _ _ q2) q) _ _ (fOps_false _ _ h)
theorem wpOps_glueG {ops ops' : Array Oper} {Q : Exit → Act → World → Prop} {l2 : List Nat} : ∀ (l : List Nat), (∀ i ∈ l, ∃ o, ops[i]? = some o ∧ ops'[i]? = some o ∧ ∀ tm, Region.wanted o (yielded ops' tm) = Region.wanted o (yielded ops tm)) → ∀ (a : Act) (w : World),
  wpOps P ops' (fun e a w => match e with | .normal => wpOps P ops Q l2 a w | e => Q e a w) l a w → wpOps P ops Q (l ++ l2) a w
 | [], _, a, w, h => h
 | i :: l, hl, a, w, h => by
  obtain ⟨o, h1, h2, h3⟩ := hl i (by simp)
  have ih := wpOps_glueG (Q := Q) (l2 := l2) l fun j hj => hl j (by simp [hj])
  rw [List.cons_append]
  unfold wpOps at h ⊢
  rw [h2] at h
  rw [h1]
  simp only at h ⊢
  rw [h3] at h
  have hlo : LetsOut (fun e a w => match e with | .normal => wpOps P ops Q l2 a w | e => Q e a w) → LetsOut Q := fun ⟨a, w, h⟩ => ⟨a, w, h⟩
  split at h
  ·rename_i hw
   rw [if_pos hw]
   rcases h with h | ⟨h, k⟩
   ·left
    unfold Oper.wp at h ⊢
    generalize (execOp a.eval o).run P w = r at *
    cases r with
    | ok n w' =>
     cases n <;> simp only [Oper.upon] at h ⊢ <;>
      first
       | exact ih _ _ h
       | exact Calls.mono h (fun e w'' he => by cases e <;> first | exact ih _ _ he | exact hlo he | exact he)
       | exact Rows.mono h (fun _ _ he => ih _ _ he)
    | halt x w' => cases x <;> simp only [Oper.upon] at h ⊢ <;> first | exact h | exact hlo h
   ·exact .inr ⟨h, hlo k⟩
  ·rename_i hw
   rw [if_neg hw]
   exact ih _ _ h
def Seg (P : Program) (cx : Cx) (ops : Array Oper) (k : Nat) (K : AState → Prop) (S : AState) : Prop := ∀ (G0 : Gh) (w0 : World) (Q : Exit → Act → World → Prop), (∀ S a w G, K S → RelS cx.n cx.nb G S a w → LeC cx G0 w0 G w S → Q .normal a w) →
 ∀ G a w, RelS cx.n cx.nb G S a w → LeC cx G0 w0 G w S → wpOps P ops Q (List.range' k (ops.size - k)) a w
def noAl (ops : Array Oper) : Bool := ops.toList.all fun o => !isAlloc o.op
theorem noAl_spec {ops : Array Oper} (h : noAl ops = true) {o : Oper} (ho : o ∈ ops) : isAlloc o.op = false := by
 have := List.all_eq_true.1 h o (by simpa using ho)
 simpa using this
theorem regOk_two {n : Nat} {ops : Array Oper} (h : regionOk n ops false = true) : allocOk ops = true ∧ dstOk n ops = true := by
 simpa [regionOk] using h
def gdOk (ops : Array Oper) (p : Nat) : Bool := (ops.toList.take p).all fun o => match o.guard with | none => true | some (j, _) => decide (j < p)
theorem Seg.pre {cx : Cx} {ops : Array Oper} {k : Nat} {K : AState → Prop} {S : AState} (p : Nat) (hkp : k ≤ p) (hps : p ≤ ops.size) (hnb : cx.base + cx.n ≤ cx.nb) (hok : regionOk cx.n (ops.extract 0 p) false = true) (hna : noAl ops = true) (hg : gdOk ops p = true) {ops' : Array Oper} {mid : List Oper} (hx : ops.extract 0 p = ops') (hm : ops'.toList.drop k = mid)
  (h : FOps P cx ops' false mid (Seg P cx ops p K) S) : Seg P cx ops k K S := by
 subst hx hm
 intro G0 w0 Q hQ G a w hr hl
 have hsplit : List.range' k (ops.size - k) = List.range' k (p - k) ++ List.range' p (ops.size - p) := by
  rw [show ops.size - k = (p - k) + (ops.size - p) by omega, ← List.range'_append_1, show k + (p - k) = p by omega]
 rw [hsplit]
 have hlook : ∀ j, j < p → (ops.extract 0 p)[j]? = ops[j]? := fun j hj => by
  rw [Array.getElem?_extract]
  have : j < min p ops.size := by omega
  simp [this]
 refine wpOps_glueG (ops' := ops.extract 0 p) (List.range' k (p - k)) (fun j hj => ?_) a w ?_
 ·have hj' : j < p := by simp at hj; omega
  have hjs : j < ops.size := by omega
  refine ⟨ops[j], by simp [hjs], by rw [hlook j hj']; simp [hjs], fun tm => ?_⟩
  have h5 := List.all_eq_true.1 hg ops[j] (by rw [List.mem_take_iff_getElem]; exact ⟨j, by simp; omega, by simp⟩)
  unfold Region.wanted
  cases hgu : ops[j].guard with
  | none => rfl
  | some g =>
   obtain ⟨q, want⟩ := g
   rw [hgu] at h5
   have hq : q < p := by simpa using h5
   simp only
   unfold yielded
   rw [hlook q hq]
 have hmem : ∀ o, o ∈ (ops.extract 0 p).toList.drop k → o ∈ ops := fun o ho => by
  have := List.mem_of_mem_drop ho
  rw [Array.toList_extract, List.extract_eq_take_drop] at this
  simpa using List.mem_of_mem_take this
 have := aops_sound (ops := ops.extract 0 p) (G0 := G0) (w0 := w0) (K := Seg P cx ops p K) (Q := fun e a' w' => match e with | .normal => wpOps P ops Q (List.range' p (ops.size - p)) a' w' | e => Q e a' w')
  (dstOk_spec (regOk_two hok).2) hnb (regOk_two hok).1 (fun S1 a1 w1 G1 hK hr1 hl1 => hK G0 w0 Q hQ G1 a1 w1 hr1 hl1) ((ops.extract 0 p).toList.drop k) k S a w G rfl (fun o ho => pend_no (noAl_spec hna (hmem o ho))) hr hl (fOps_false _ _ h)
 have hlen : ((ops.extract 0 p).toList.drop k).length = p - k := by simp; omega
 rw [hlen] at this
 exact this
def GdI (ops : Array Oper) (g : Option (Nat × Bool)) (S : AState) (K1 K2 : Prop) : Prop := match g with
 | none => K1
 | some (j, want) => match yieldA ops S j with
  | some b => (b = some want → K1) ∧ (b ≠ some want → K2)
  | none => False
theorem yielded_put {ops : Array Oper} {a : Act} {d j : Nat} {v : Value} (h : (ops[j]?).bind (·.dst) ≠ some d) : yielded ops (a.put (some d) v).tmps j = yielded ops a.tmps j := by
 unfold yielded
 cases hj : (ops[j]?).bind (·.dst) with
 | none => rfl
 | some q =>
  rw [hj] at h
  have hq : d ≠ q := fun e => h (by rw [e])
  simp only [Act.put, Option.bind_some]
  rw [Array.getElem?_setIfInBounds_ne hq]
theorem Seg.idx {cx : Cx} {ops : Array Oper} {S : AState} {K : AState → Prop} {p : Nat} {o1 o2 : Oper} {T E : TypeId} {x i : Operand} {d1 d2 : Tmp} (g : Option (Nat × Bool)) (hok : regionOk cx.n ops false = true)
  (h1 : ops[p]? = some o1) (h2 : ops[p + 1]? = some o2) (e1 : o1.op = .indexAddr T x i) (e2 : o2.op = .load E (.tmp d1)) (f1 : o1.dst = some d1) (f2 : o2.dst = some d2) (g1 : o1.guard = g) (g2 : o2.guard = g) (hT : idxT P T E = true) (hgd : ∀ j want, g = some (j, want) → (ops[j]?).bind (·.dst) ≠ some d1)
  (h : GdI ops g S (IdxK P T E x i d1 d2 (Seg P cx ops (p + 2) K) S) (Seg P cx ops (p + 2) K ⟨putT (putT S.tmps (some d1) (.tup [])) (some d2) (.tup []), S.box, S.tok, S.nt⟩)) : Seg P cx ops p K S := by
 have hd := dstOk_spec (regOk_two hok).2
 have hp1 : p + 1 < ops.size := (Array.getElem?_eq_some_iff.1 h2).1
 have m1 : o1 ∈ ops := Array.mem_of_getElem? h1
 have m2 : o2 ∈ ops := Array.mem_of_getElem? h2
 have hd1 := hd o1 d1 m1 f1
 have hd2 := hd o2 d2 m2 f2
 intro G0 w0 Q hQ G a w hr hl
 have hsplit : List.range' p (ops.size - p) = p :: (p + 1) :: List.range' (p + 2) (ops.size - (p + 2)) := by
  rw [show ops.size - p = 1 + (1 + (ops.size - (p + 2))) by omega, ← List.range'_append_1, ← List.range'_append_1]
  rfl
 rw [hsplit]
 -- both are taken
 have yes : IdxK P T E x i d1 d2 (Seg P cx ops (p + 2) K) S → (Region.wanted o1 (yielded ops a.tmps) = true) → (∀ v, Region.wanted o2 (yielded ops (a.put (some d1) v).tmps) = true) → wpOps P ops Q (p :: (p + 1) :: List.range' (p + 2) (ops.size - (p + 2))) a w := by
  intro hK hw1 hw2
  unfold IdxK at hK
  split at hK
  ·rename_i t sz es k q hsx hsi
   split at hK
   ·rename_i v hes
    obtain ⟨h0, ht, hK⟩ := hK
    have hx := hr.ev x
    rw [hsx] at hx
    have hi := hr.ev i
    rw [hsi] at hi
    have hi2 : a.eval i = .int k q := rawOf_spec rfl hi
    obtain ⟨ad, r1, r2, r3⟩ := idx_pair hT hr.mem ht hx h0 hes
    have hr2 := hr.put (dst := some d1) (Le.refl G w) (fun d e => by cases e; exact hd1) (v := .bot) (u := .pointer (some ad)) .bot hr.mem
    have hr3 := hr2.put (dst := some d2) (Le.refl G w) (fun d e => by cases e; exact hd2) (v := .d (.raw v)) (u := v) r3 hr2.mem
    rw [wpOps_cons]
    unfold wpOp
    rw [h1]
    simp only [hw1, ↓reduceIte]
    left
    unfold Oper.wp
    have x1 : (execOp a.eval o1).run P w = .ok (.value (.pointer (some ad))) w := by simp only [execOp, e1, hi2, Sem.run_bind]; rw [r1]; simp only [Result.andThen_ok, Sem.run_pure]
    rw [x1, Oper.upon_value, f1, wpOps_cons]
    unfold wpOp
    rw [h2]
    simp only [hw2, ↓reduceIte]
    left
    unfold Oper.wp
    have hev : (a.put (some d1) (.pointer (some ad))).eval (.tmp d1) = .pointer (some ad) := by
     have hsz := hr.size
     simp [Act.put, Act.eval, hsz, hd1]
    have x2 : (execOp (a.put (some d1) (.pointer (some ad))).eval o2).run P w = .ok (.value v) w := by simp only [execOp, e2, hev, Instr.loadAt, Instr.sureAddr, Sem.run_bind, Sem.run_pure, Result.andThen_ok, r2]
    rw [x2, Oper.upon_value, f2]
    exact hK G0 w0 Q hQ G _ w hr3 ⟨hl.1, hl.2⟩
   ·exact hK.elim
  ·exact hK.elim
 cases g with
 | none => exact yes h (by simp [Region.wanted, g1]) (fun v => by simp [Region.wanted, g2])
 | some jw =>
  obtain ⟨j, want⟩ := jw
  unfold GdI at h
  simp only at h
  split at h
  ·rename_i b hy
   have hy' := yieldA_spec hr hy (fun o d q1 q2 => hd o d (Array.mem_of_getElem? q1) q2)
   have hne := hgd j want rfl
   by_cases e : b = some want
   ·exact yes (h.1 e) (by simp [Region.wanted, g1, hy', e]) (fun v => by simp only [Region.wanted, g2]; rw [yielded_put hne, hy', e]; simp)
   ·have n1 : ¬ Region.wanted o1 (yielded ops a.tmps) = true := by simp [Region.wanted, g1, hy', e]
    have n2 : ∀ v, ¬ Region.wanted o2 (yielded ops (a.put (some d1) v).tmps) = true := fun v => by simp only [Region.wanted, g2]; rw [yielded_put hne, hy']; simp [e]
    have hr2 := hr.put (dst := some d1) (Le.refl G w) (fun d e => by cases e; exact hd1) RV.undef hr.mem
    have hr3 := hr2.put (dst := some d2) (Le.refl G w) (fun d e => by cases e; exact hd2) RV.undef hr2.mem
    rw [wpOps_cons]
    unfold wpOp
    rw [h1]
    simp only [n1, ↓reduceIte]
    rw [f1, wpOps_cons]
    unfold wpOp
    rw [h2]
    simp only [n2, ↓reduceIte]
    rw [f2]
    exact h.2 e G0 w0 Q hQ G _ w hr3 ⟨hl.1, hl.2⟩
  ·exact h.elim
end Go.AM
namespace Go.AM
open Go
variable {P : Program}
def pureOp : Op → Bool
 | .alloc _ => false
 | .buildSlice .. => false
 | _ => true
set_option maxHeartbeats 1000000 in
theorem stillN {base : Nat} {o : Oper} {ρ : Operand → AV} {ρv : Operand → Value} {G : Gh} {w : World} {v : AV} (hpu : pureOp o.op = true) (h : EffN P base o ρ v)
  (hρ : ∀ x ∈ o.op.operands, RV G w (ρ x) (ρv x)) : ∃ u, (execOp ρv o).run P w = .ok (.value u) w ∧ RV G w v u := by
 have keep : ∀ u, (execOp ρv o).run P w = .ok (.value u) w → RV G w v u → ∃ u, (execOp ρv o).run P w = .ok (.value u) w ∧ RV G w v u := fun u h1 h2 => ⟨u, h1, h2⟩
 unfold EffN at h
 split at h
 ·rename_i x ho
  subst h
  exact keep (ρv x) (by simp only [execOp, ho, Sem.run_pure]) (hρ x (by rw [ho]; simp [Op.operands]))
 ·rename_i x ho
  subst h
  exact keep (ρv x) (by simp only [execOp, ho, Sem.run_pure]) (hρ x (by rw [ho]; simp [Op.operands]))
 ·rename_i c a b ho
  split at h
  ·rename_i t hc
   have h1 := hρ c (by rw [ho]; simp [Op.operands])
   rw [hc] at h1
   have h2 : ρv c = .bool t := rawOf_spec rfl h1
   subst h
   cases t with
   | true => exact keep (ρv a) (by simp [execOp, ho, h2, asBool]) (hρ a (by rw [ho]; simp [Op.operands]))
   | false => exact keep (ρv b) (by simp [execOp, ho, h2, asBool]) (hρ b (by rw [ho]; simp [Op.operands]))
  ·exact h.elim
 ·rename_i T ho
  rw [ho] at hpu
  cases hpu
 ·rename_i T parts ho
  split at h
  ·rename_i pl zs hpl hz
   split at h
   ·rename_i cs hcs
    subst h
    obtain ⟨u, h1, h2⟩ := build_sound (ρv := ρv) hpl hz hcs (fun p hp => hρ p.2 (by rw [ho]; simp only [Op.operands]; rw [← Array.mem_toList_iff]; simpa using ⟨p.1, by simpa using hp⟩))
    exact keep u (by simp only [execOp, ho, Sem.run_bind, h1, Result.andThen_ok, Sem.run_pure]) h2
   ·exact h.elim
  ·exact h.elim
 ·rename_i T len parts ho
  rw [ho] at hpu
  cases hpu
 ·rename_i x ho
  have h1 := hρ x (by rw [ho]; simp [Op.operands])
  split at h
  ·rename_i k i off hx
   subst h
   rw [hx] at h1
   generalize hv : ρv x = xv at h1
   have h1' := h1
   cases h1' with
   | ptr hb => exact keep _ (by simp only [execOp, ho, hv, Sem.run_pure]) h1
  ·rename_i cs off hx
   subst h
   rw [hx] at h1
   generalize hv : ρv x = xv at h1
   have h1' := h1
   cases h1' with
   | cptr a u hc hr => exact keep _ (by simp only [execOp, ho, hv, Sem.run_pure]) h1
  ·rename_i f caps hx
   subst h
   rw [hx] at h1
   generalize hv : ρv x = xv at h1
   have h1' := h1
   cases h1' with
   | fn hl hh => exact keep _ (by simp only [execOp, ho, hv, Sem.run_pure]) h1
  ·exact h.elim
 ·rename_i op T x y T2 ho
  split at h
  ·rename_i a b ha hb
   obtain ⟨r, hr, rfl⟩ := h
   have h1 := rawOf_spec ha (hρ x (by rw [ho]; simp [Op.operands]))
   have h2 := rawOf_spec hb (hρ y (by rw [ho]; simp [Op.operands]))
   refine keep r ?_ (.raw hr.1)
   have := hr.2 x y w
   simp only [execOp, ho, h1, h2, Sem.run_bind, Sem.run_pure] at this ⊢
   rw [this]
   rfl
  ·exact h.elim
 ·rename_i op T x ho
  split at h
  ·rename_i a ha
   obtain ⟨r, hr, rfl⟩ := h
   have h1 := rawOf_spec ha (hρ x (by rw [ho]; simp [Op.operands]))
   exact keep r (by simp only [execOp, ho, h1, Sem.run_bind, hr.2 w, Result.andThen_ok, Sem.run_pure]) (.raw hr.1)
  ·exact h.elim
 ·rename_i s t x ho
  split at h
  ·rename_i a ha
   obtain ⟨r, hr, rfl⟩ := h
   have h1 := rawOf_spec ha (hρ x (by rw [ho]; simp [Op.operands]))
   exact keep r (by simp only [execOp, ho, h1, Sem.run_bind, hr.2 w, Result.andThen_ok, Sem.run_pure]) (.raw hr.1)
  ·exact h.elim
 ·rename_i fn first caps ho
  obtain ⟨h0, rfl⟩ := h
  have hf : first = #[] := by rw [← Array.toArray_toList (xs := first), h0]
  subst hf
  refine keep (.func fn #[] (caps.map ρv)) (by simp [execOp, ho, Instr.makeFunc]) ?_
  have := RV.fn (G := G) (w := w) (f := fn) (caps := caps.toList.map ρ) (vs := caps.toList.map ρv) (by simp) (fun i h1 h2 => by
   simp only [List.getElem_map]
   exact hρ _ (by rw [ho]; simp only [Op.operands]; rw [← Array.mem_toList_iff]; simp))
  have e : caps.map ρv = (caps.toList.map ρv).toArray := by rw [← Array.toList_map, Array.toArray_toList]
  rw [e]
  exact this
 ·rename_i T x f ho
  have h1 := hρ x (by rw [ho]; simp [Op.operands])
  split at h
  ·rename_i pl hpl
   split at h
   ·rename_i off n cs o' hf hx
    obtain ⟨hn, rfl⟩ := h
    rw [hx] at h1
    generalize hv : ρv x = xv at h1
    cases h1 with
    | cptr a u hc hr =>
     refine keep _ (by simp only [execOp, ho, hv, Sem.run_bind, run_fieldAt hpl hf hn, Result.andThen_ok, Sem.run_pure]; rfl) ?_
     rw [add_add]
     exact .cptr a u hc hr
   ·rename_i off n k i o' hf hx
    obtain ⟨hn, rfl⟩ := h
    rw [hx] at h1
    generalize hv : ρv x = xv at h1
    cases h1 with
    | ptr hb =>
     refine keep _ (by simp only [execOp, ho, hv, Sem.run_bind, run_fieldAt hpl hf hn, Result.andThen_ok, Sem.run_pure]; rfl) ?_
     rw [add_none, Nat.add_assoc]
     exact .ptr hb
   ·exact h.elim
  ·exact h.elim
 ·rename_i T x f ho
  have h1 := hρ x (by rw [ho]; simp [Op.operands])
  split at h
  ·rename_i ft off cs hf hx
   split at h
   ·rename_i ag n hag hn
    rw [hx] at h1
    generalize hv : ρv x = xv at h1
    cases h1 with
    | agg hl hh hone =>
     rename_i vs
     obtain ⟨u, h2, h3⟩ := cells_get ⟨hl, hh⟩ h hone
     unfold fieldT at hf
     split at hf
     ·rename_i fs hfs
      obtain ⟨fd, hfd, hfe⟩ := Option.map_eq_some_iff.1 hf
      simp only [Prod.mk.injEq] at hfe
      obtain ⟨rfl, rfl⟩ := hfe
      refine keep u ?_ h3
      have hpr : (part fd.type vs.toArray fd.offset).run P w = .ok u w := run_part hag hn (by simpa using h2) w
      simp only [execOp, ho, hv, Instr.field, Sem.run_bind, run_underlying hfs, Result.andThen_ok, hfd, asAgg, Sem.run_pure, hpr]
     ·cases hf
   ·exact h.elim
  ·exact h.elim
 ·rename_i T x i ho
  split at h
  ·rename_i k n hi
   have h1 := hρ x (by rw [ho]; simp [Op.operands])
   have h2 := hρ i (by rw [ho]; simp [Op.operands])
   rw [hi] at h2
   have h3 : ρv i = .int k n := rawOf_spec rfl h2
   obtain ⟨u, h4, h5⟩ := idxOf_sound (k := k) h h1
   exact keep u (by simp only [execOp, ho, h3, Sem.run_bind, h4, Result.andThen_ok, Sem.run_pure]) h5
  ·exact h.elim
 ·rename_i T x i ho
  split at h
  ·rename_i s k n hx hi
   obtain ⟨hT, h0, b, hb, rfl⟩ := h
   have h1 := hρ x (by rw [ho]; simp [Op.operands])
   have h2 := hρ i (by rw [ho]; simp [Op.operands])
   rw [hx] at h1
   rw [hi] at h2
   have h3 : ρv x = .string s := rawOf_spec rfl h1
   have h4 : ρv i = .int k n := rawOf_spec rfl h2
   refine keep (.int .u8 b.toNat) ?_ (.raw rfl)
   simp only [execOp, ho, h3, h4, Instr.index, Sem.run_bind, run_asIntOf, Result.andThen_ok, run_underlying (strT_spec hT), h0, ↓reduceIte, hb, Sem.run_pure]
  ·exact h.elim
 ·rename_i t i ho
  split at h
  ·rename_i vs ht
   have h1 := hρ t (by rw [ho]; simp [Op.operands])
   rw [ht] at h1
   generalize hv : ρv t = tv at h1
   cases h1 with
   | tup hl hh =>
    rename_i us
    obtain ⟨u, hu, hr⟩ := RVs.get ⟨hl, hh⟩ h
    refine keep u ?_ hr
    have hu' : us.toArray[i]? = some u := by simpa using hu
    simp only [execOp, ho, hv, Instr.extract, hu', Sem.run_bind, Sem.run_pure, Result.andThen_ok]
  ·exact h.elim
 ·rename_i T x lo hi mx ho
  have h1 := hρ x (by rw [ho]; simp [Op.operands])
  obtain ⟨u, h2, h3⟩ := sliceOf_sound (ρv := ρv) h h1 (fun y hy => hρ y (by rw [ho]; simp [Op.operands, hy])) (fun y hy => hρ y (by rw [ho]; simp [Op.operands, hy])) (fun y hy => hρ y (by rw [ho]; simp [Op.operands, hy]))
  exact keep u (by simp only [execOp, ho, Sem.run_bind, h2, Result.andThen_ok, Sem.run_pure]) h3
 ·rename_i c ho
  split at h
  ·rename_i xa T hcal hargs htys
   obtain ⟨x, hargs2, rfl⟩ := List.map_eq_singleton_iff.1 hargs
   have ha : c.args = #[x] := by rw [← Array.toArray_toList (xs := c.args), hargs2]
   have hb : c.argTypes = #[T] := by rw [← Array.toArray_toList (xs := c.argTypes), htys]
   have h1 := hρ x (by rw [ho]; simp [Op.operands, Call.operands, hcal, ha])
   obtain ⟨u, h2, h3⟩ := lenOf_sound (ty := o.type) h h1
   refine keep u ?_ h3
   simp only [execOp, ho, resolve, hcal, ha, hb, List.map_toArray, List.map_cons, List.map_nil, Sem.run_bind, Sem.run_pure, Result.andThen_ok, invoke, builtin, h2]
  ·exact h.elim
  ·rename_i args tys b hn1 hcal hn2
   split at h
   ·rename_i vs hvs
    obtain ⟨r, hr, rfl⟩ := h
    have hmap : (c.args.map ρv) = vs.toArray := by
     have := rawsOf_get (ρv := ρv) (G := G) (w := w) hvs (fun x hx => hρ x (by rw [ho]; simp only [Op.operands, Call.operands, hcal]; rw [← Array.mem_toList_iff]; simpa using hx))
     rw [← this, ← Array.toList_map, Array.toArray_toList]
    refine keep r ?_ (.raw hr.1)
    simp only [execOp, ho, resolve, hcal, Sem.run_bind, Sem.run_pure, Result.andThen_ok, invoke, hmap, hr.2]
   ·exact h.elim
  ·exact h.elim
 ·exact h.elim
def stillOp (o : Oper) : Bool := (match cls o.op with | .n => true | .r => true | _ => false) && pureOp o.op
theorem still_step {cx : Cx} {o : Oper} {S S1 : AState} {G : Gh} {w : World} {a : Act} (hs : stillOp o = true) (h : Step P false cx.base o S S1) (hr : RelS cx.n cx.nb G S a w) (hd : ∀ d, o.dst = some d → d < cx.n) :
  S1.box = S.box ∧ S1.tok = S.tok ∧ S1.nt = S.nt ∧ ∃ u, (execOp a.eval o).run P w = .ok (.value u) w ∧ RelS cx.n cx.nb G S1 (a.put o.dst u) w := by
 unfold stillOp at hs
 rw [Bool.and_eq_true] at hs
 obtain ⟨hc, hpu⟩ := hs
 obtain ⟨v, box', tok', nt', he, rfl⟩ := h
 unfold Eff at he
 split at he
 ·obtain ⟨he, rfl, rfl, rfl⟩ := he
  obtain ⟨u, h1, h2⟩ := stillN (ρv := a.eval) (G := G) (w := w) hpu he (fun x _ => hr.ev x)
  exact ⟨rfl, rfl, rfl, u, h1, hr.put (Le.refl G w) hd h2 hr.mem⟩
 ·obtain ⟨he, rfl, rfl, rfl⟩ := he
  obtain ⟨u, h1, h2⟩ := effR_sound (ρv := a.eval) (G := G) (w := w) (m := ⟨S.box, cx.nb, S.tok, S.nt⟩) he (fun x _ => hr.ev x) hr.mem
  exact ⟨rfl, rfl, rfl, u, h1, hr.put (Le.refl G w) hd h2 hr.mem⟩
 ·rename_i h0; rw [h0] at hc; cases hc
 ·rename_i h0; rw [h0] at hc; cases hc
theorem still_run {cx : Cx} {ops : Array Oper} (hd : ∀ (o : Oper) d, o ∈ ops → o.dst = some d → d < cx.n) : ∀ (mid : List Oper) (S S1 : AState), (mid.all stillOp) = true → (∀ o ∈ mid, o ∈ ops) → ARun P false cx.base ops mid S S1 → ∀ (G : Gh) (w : World) (Q : Act → Prop) (l : List Oper) (a : Act), RelS cx.n cx.nb G S a w →
  (S1.box = S.box → S1.tok = S.tok → ∀ a1, RelS cx.n cx.nb G S1 a1 w → wpStill P ops w Q l a1) → wpStill P ops w Q (mid ++ l) a
 | [], S, S1, _, _, h, G, w, Q, l, a, hr, k => by
  have h : S1 = S := h
  subst h
  exact k rfl rfl a hr
 | o :: mid, S, S1, hs, hin, h, G, w, Q, l, a, hr, k => by
  obtain ⟨S2, h1, h2⟩ := h
  rw [List.all_cons, Bool.and_eq_true] at hs
  have ho := hin o (by simp)
  have hd' := fun d => hd o d ho
  have rest := fun (a2 : Act) (q : RelS cx.n cx.nb G S2 a2 w) (q1 : S2.box = S.box) (q2 : S2.tok = S.tok) => still_run hd mid S2 S1 hs.2 (fun o h => hin o (by simp [h])) h2 G w Q l a2 q (fun e1 e2 => k (e1.trans q1) (e2.trans q2))
  rw [List.cons_append]
  unfold wpStill
  unfold GStep at h1
  split at h1
  ·rename_i hg
   rw [if_pos (by simp [Region.wanted, hg])]
   obtain ⟨q1, q2, _, u, q3, q4⟩ := still_step hs.1 h1 hr hd'
   unfold Oper.still
   rw [q3, Oper.stillUpon_value]
   exact rest _ q4 q1 q2
  ·rename_i j want hg
   split at h1
   ·rename_i b hy
    have hy' := yieldA_spec hr hy (fun o d q1 q2 => hd o d (Array.mem_of_getElem? q1) q2)
    by_cases e : b = some want
    ·rw [if_pos e] at h1
     rw [if_pos (by simp [Region.wanted, hg, hy', e])]
     obtain ⟨q1, q2, _, u, q3, q4⟩ := still_step hs.1 h1 hr hd'
     unfold Oper.still
     rw [q3, Oper.stillUpon_value]
     exact rest _ q4 q1 q2
    ·rw [if_neg e] at h1
     subst h1
     rw [if_neg (by simp [Region.wanted, hg, hy', e])]
     exact rest _ (hr.put (Le.refl G w) hd' RV.undef hr.mem) rfl rfl
   ·exact h1.elim
def SegS (P : Program) (cx : Cx) (ops : Array Oper) (l : List Oper) (K : AState → Prop) (S : AState) : Prop := ∀ (G : Gh) (w : World) (Q : Act → Prop), (∀ S' a, K S' → S'.box = S.box → S'.tok = S.tok → RelS cx.n cx.nb G S' a w → Q a) → ∀ a, RelS cx.n cx.nb G S a w → wpStill P ops w Q l a
theorem SegS.nil {cx : Cx} {ops : Array Oper} {K : AState → Prop} {S : AState} (h : K S) : SegS P cx ops [] K S := fun G w Q hQ a hr => hQ S a h rfl rfl hr
theorem SegS.run {cx : Cx} {ops : Array Oper} {K : AState → Prop} {S : AState} (p k : Nat) (hd : dstOk cx.n ops = true) {mid rest l : List Oper} (hl : ops.toList.drop p = l) (hm : l.take k = mid) (hr : l.drop k = rest) (hs : mid.all stillOp = true) (h : FOps P cx ops true mid (SegS P cx ops rest K) S) : SegS P cx ops l K S := by
 obtain ⟨S1, h1, h2⟩ := fOps_true _ _ h
 intro G w Q hQ a hra
 have hlm : l = mid ++ rest := by rw [← hm, ← hr, List.take_append_drop]
 rw [hlm]
 refine still_run (dstOk_spec hd) mid S S1 hs (fun o ho => ?_) h1 G w Q rest a hra (fun e1 e2 a1 hr1 => h2 G w Q (fun S' a' q1 q2 q3 q4 => hQ S' a' q1 (q2.trans e1) (q3.trans e2) q4) a1 hr1)
 rw [← hm, ← hl] at ho
 simpa using List.mem_of_mem_drop (List.mem_of_mem_take ho)
theorem SegS.idx {cx : Cx} {ops : Array Oper} {S : AState} {K : AState → Prop} {o1 o2 : Oper} {rest : List Oper} {T E : TypeId} {x i : Operand} {d1 d2 : Tmp} (g : Option (Nat × Bool)) (hok : dstOk cx.n ops = true)
  (h1 : o1 ∈ ops) (h2 : o2 ∈ ops) (e1 : o1.op = .indexAddr T x i) (e2 : o2.op = .load E (.tmp d1)) (f1 : o1.dst = some d1) (f2 : o2.dst = some d2) (g1 : o1.guard = g) (g2 : o2.guard = g) (hT : idxT P T E = true) (hgd : ∀ j want, g = some (j, want) → (ops[j]?).bind (·.dst) ≠ some d1)
  (h : GdI ops g S (IdxK P T E x i d1 d2 (SegS P cx ops rest K) S) (SegS P cx ops rest K ⟨putT (putT S.tmps (some d1) (.tup [])) (some d2) (.tup []), S.box, S.tok, S.nt⟩)) : SegS P cx ops (o1 :: o2 :: rest) K S := by
 have hd := dstOk_spec hok
 have hd1 := hd o1 d1 h1 f1
 have hd2 := hd o2 d2 h2 f2
 intro G w Q hQ a hr
 have yes : IdxK P T E x i d1 d2 (SegS P cx ops rest K) S → (Region.wanted o1 (yielded ops a.tmps) = true) → (∀ v, Region.wanted o2 (yielded ops (a.put (some d1) v).tmps) = true) → wpStill P ops w Q (o1 :: o2 :: rest) a := by
  intro hK hw1 hw2
  unfold IdxK at hK
  split at hK
  ·rename_i t sz es k q hsx hsi
   split at hK
   ·rename_i v hes
    obtain ⟨h0, ht, hK⟩ := hK
    have hx := hr.ev x
    rw [hsx] at hx
    have hi := hr.ev i
    rw [hsi] at hi
    have hi2 : a.eval i = .int k q := rawOf_spec rfl hi
    obtain ⟨ad, r1, r2, r3⟩ := idx_pair hT hr.mem ht hx h0 hes
    have hr2 := hr.put (dst := some d1) (Le.refl G w) (fun d e => by cases e; exact hd1) (v := .bot) (u := .pointer (some ad)) .bot hr.mem
    have hr3 := hr2.put (dst := some d2) (Le.refl G w) (fun d e => by cases e; exact hd2) (v := .d (.raw v)) (u := v) r3 hr2.mem
    have x1 : (execOp a.eval o1).run P w = .ok (.value (.pointer (some ad))) w := by simp only [execOp, e1, hi2, Sem.run_bind]; rw [r1]; simp only [Result.andThen_ok, Sem.run_pure]
    have hev : (a.put (some d1) (.pointer (some ad))).eval (.tmp d1) = .pointer (some ad) := by
     have hsz := hr.size
     simp [Act.put, Act.eval, hsz, hd1]
    have x2 : (execOp (a.put (some d1) (.pointer (some ad))).eval o2).run P w = .ok (.value v) w := by simp only [execOp, e2, hev, Instr.loadAt, Instr.sureAddr, Sem.run_bind, Sem.run_pure, Result.andThen_ok, r2]
    unfold wpStill
    rw [if_pos hw1]
    unfold Oper.still
    rw [x1, Oper.stillUpon_value, f1]
    unfold wpStill
    rw [if_pos (hw2 _)]
    unfold Oper.still
    rw [x2, Oper.stillUpon_value, f2]
    exact hK G w Q (fun S' a' q1 q2 q3 q4 => hQ S' a' q1 q2 q3 q4) _ hr3
   ·exact hK.elim
  ·exact hK.elim
 cases g with
 | none => exact yes h (by simp [Region.wanted, g1]) (fun v => by simp [Region.wanted, g2])
 | some jw =>
  obtain ⟨j, want⟩ := jw
  unfold GdI at h
  simp only at h
  split at h
  ·rename_i b hy
   have hy' := yieldA_spec hr hy (fun o d q1 q2 => hd o d (Array.mem_of_getElem? q1) q2)
   have hne := hgd j want rfl
   by_cases e : b = some want
   ·exact yes (h.1 e) (by simp [Region.wanted, g1, hy', e]) (fun v => by simp only [Region.wanted, g2]; rw [yielded_put hne, hy', e]; simp)
   ·have n1 : ¬ Region.wanted o1 (yielded ops a.tmps) = true := by simp [Region.wanted, g1, hy', e]
    have n2 : ∀ v, ¬ Region.wanted o2 (yielded ops (a.put (some d1) v).tmps) = true := fun v => by simp only [Region.wanted, g2]; rw [yielded_put hne, hy']; simp [e]
    have hr2 := hr.put (dst := some d1) (Le.refl G w) (fun d e => by cases e; exact hd1) RV.undef hr.mem
    have hr3 := hr2.put (dst := some d2) (Le.refl G w) (fun d e => by cases e; exact hd2) RV.undef hr2.mem
    unfold wpStill
    rw [if_neg n1, f1]
    unfold wpStill
    rw [if_neg (n2 _), f2]
    exact h.2 e G w Q (fun S' a' q1 q2 q3 q4 => hQ S' a' q1 q2 q3 q4) _ hr3
  ·exact h.elim
end Go.AM
namespace Go.AM
open Go
variable {P : Program}
theorem wpAny_splitG {ops : Array Oper} {o : Oper} {Q Qm : Exit → Act → World → Prop} (hdown : downOk (ops.push o) = true) (htied : tiedAll (ops.push o) ops.size = true) (hgo : guardOk ops = true)
  (hq : ∀ e a w, e ≠ .normal → Qm e a w → Q e a w) (hn : ∀ a w, Qm .normal a w → wpOp P (ops.push o) Q ops.size (Q .normal) a w) :
  ∀ (fuel : Nat) (listed l' : Array Bool), listed.size = ops.size + 1 → l'.size = ops.size → (∀ i, i < ops.size → l'[i]? = listed[i]?) → listed[ops.size]? = some false →
   (∀ i x, (ops.push o)[i]? = some x → listed.getD i false = true → ∀ j ∈ direct x, listed.getD j false = true) →
   ∀ a w, wpAny P .any ops Qm fuel l' a w → wpAny P .any (ops.push o) Q (fuel + 1) listed a w := by
 have hsL : (ops.push o).size = ops.size + 1 := Array.size_push _
 have hat : ∀ i, i < ops.size → (ops.push o)[i]? = ops[i]? := fun i hi => by rw [Array.getElem?_push, if_neg (by omega)]
 have hlast : (ops.push o)[ops.size]? = some o := by rw [Array.getElem?_push, if_pos rfl]
 have fin : ∀ (listed : Array Bool), listed.size = ops.size + 1 → (∀ i, i < ops.size → listed[i]? = some true) → listed[ops.size]? = some false → ∀ a w, Qm .normal a w → ∀ n, wpAny P .any (ops.push o) Q (n + 1) listed a w := by
  intro listed hsz hall hls a w hQ n
  have hm : ops.size ∈ Region.ready .any (ops.push o) listed := ready_mem.2 ⟨by omega, getD_some hls, o, hlast, fun j hj => getD_some (hall j (downOk_spec hdown hlast j hj))⟩
  refine ⟨fun h0 => absurd hm (by rw [h0]; simp), fun i hi => ?_⟩
  have him : i = ops.size := by
   obtain ⟨h1, h2, _⟩ := ready_mem.1 hi
   rcases Nat.lt_or_ge i ops.size with h | h
   ·rw [getD_some (hall i h)] at h2; cases h2
   ·omega
  subst him
  have hall2 : Region.ready .any (ops.push o) (listed.setIfInBounds ops.size true) = [] := by
   rw [List.eq_nil_iff_forall_not_mem]
   intro i hi
   obtain ⟨h1, h2, _⟩ := ready_mem.1 hi
   have : (listed.setIfInBounds ops.size true)[i]? = some true := by
    rw [Array.getElem?_setIfInBounds]
    by_cases e : ops.size = i
    ·rw [if_pos e, if_pos (by omega)]
    ·rw [if_neg e]; exact hall i (by omega)
   rw [getD_some this] at h2
   cases h2
  have hK : ∀ a w, Q .normal a w → wpAny P .any (ops.push o) Q n (listed.setIfInBounds ops.size true) a w := by
   intro a w hq
   cases n with
   | zero => exact ⟨hall2, hq⟩
   | succ n => exact ⟨fun _ => hq, fun i hi => by rw [hall2] at hi; cases hi⟩
  exact wpOp_mono hK (hn a w hQ)
 intro fuel
 induction fuel with
 | zero =>
  intro listed l' hsz hsz' hll hls hcl a w h
  obtain ⟨h1, h2⟩ := h
  refine fin listed hsz ?_ hls a w h2 0
  have hC : ∀ n i, i < n → i < ops.size → listed[i]? = some true := by
   intro n
   induction n with
   | zero => intro i hi; omega
   | succ n ihn =>
    intro i hi him
    cases e : listed[i]? with
    | none => rw [Array.getElem?_eq_none_iff] at e; omega
    | some v =>
     cases v with
     | true => rfl
     | false =>
      exfalso
      have : i ∈ Region.ready .any ops l' := ready_mem.2 ⟨him, getD_some ((hll i him).trans e), ops[i], by simp [him], fun j hj => by
       have hji := downOk_spec hdown (by rw [hat i him]; simp [him]) j hj
       exact getD_some ((hll j (by omega)).trans (ihn j (by omega) (by omega)))⟩
      rw [h1] at this
      cases this
  exact fun i hi => hC (i + 1) i (Nat.lt_succ_self _) hi
 | succ k ih =>
  intro listed l' hsz hsz' hll hls hcl a w h
  obtain ⟨h1, h2⟩ := h
  have hval : ∀ i, i < ops.size → listed[i]? = some true ∨ listed[i]? = some false := fun i hi => by
   cases e : listed[i]? with
   | none => rw [Array.getElem?_eq_none_iff] at e; omega
   | some v => cases v <;> simp
  have hrd : ∀ i, i < ops.size → (i ∈ Region.ready .any (ops.push o) listed ↔ i ∈ Region.ready .any ops l') := by
   intro i hi
   have hd : ∀ x, ops[i]? = some x → ((∀ j ∈ direct x, listed.getD j false = true) ↔ ∀ j ∈ direct x, l'.getD j false = true) := fun x hx => by
    have hj := downOk_spec hdown ((hat i hi).trans hx)
    constructor
    ·exact fun h j hj' => getD_some ((hll j (by have := hj j hj'; omega)).trans (of_getD (h j hj')))
    ·exact fun h j hj' => getD_some ((hll j (by have := hj j hj'; omega)).symm.trans (of_getD (h j hj')))
   rw [ready_mem, ready_mem, hat i hi]
   have hg2 : listed.getD i true = l'.getD i true := by rw [Array.getD_eq_getD_getElem?, Array.getD_eq_getD_getElem?, hll i hi]
   constructor
   ·rintro ⟨_, g2, x, g3, g4⟩
    exact ⟨hi, hg2 ▸ g2, x, g3, (hd x g3).1 g4⟩
   ·rintro ⟨_, g2, x, g3, g4⟩
    exact ⟨by omega, hg2.symm ▸ g2, x, g3, (hd x g3).2 g4⟩
  by_cases hall : ∀ i, i < ops.size → listed[i]? = some true
  ·refine fin listed hsz hall hls a w (h1 ?_) (k + 1)
   rw [List.eq_nil_iff_forall_not_mem]
   intro i hi
   obtain ⟨g1, g2, _⟩ := ready_mem.1 hi
   rw [getD_some ((hll i g1).trans (hall i g1))] at g2
   cases g2
  ·have hnm : ops.size ∉ Region.ready .any (ops.push o) listed := by
    intro hm
    refine hall ?_
    obtain ⟨_, _, x, hx, hx2⟩ := ready_mem.1 hm
    rw [hlast] at hx
    cases hx
    have hD : ∀ n j, ops.size - j ≤ n → j < ops.size → listed[j]? = some true := by
     intro n
     induction n with
     | zero => intro j h; omega
     | succ n ihn =>
      intro j hj hjm
      obtain ⟨i, x, hji, him, hx, hjx⟩ := tiedAll_spec htied hjm
      by_cases e : i = ops.size
      ·subst e
       rw [hlast] at hx
       cases hx
       exact of_getD (hx2 j hjx)
      ·exact of_getD (hcl i x hx (getD_some (ihn i (by omega) (by omega))) j hjx)
    exact fun i hi => hD _ i (Nat.le_refl _) hi
   refine ⟨fun h0 => ?_, fun i hi => ?_⟩
   ·exfalso
    refine hall ?_
    have hC : ∀ n i, i < n → i < ops.size → listed[i]? = some true := by
     intro n
     induction n with
     | zero => intro i hi; omega
     | succ n ihn =>
      intro i hi him
      rcases hval i him with e | e
      ·exact e
      ·exfalso
       have : i ∈ Region.ready .any (ops.push o) listed := ready_mem.2 ⟨by omega, getD_some e, ops[i], by rw [hat i him]; simp [him], fun j hj => by
        have hji := downOk_spec hdown (by rw [hat i him]; simp [him]) j hj
        exact getD_some (ihn j (by omega) (by omega))⟩
       rw [h0] at this
       cases this
    exact fun i hi => hC (i + 1) i (Nat.lt_succ_self _) hi
   ·have him : i < ops.size := by
     obtain ⟨g1, _⟩ := ready_mem.1 hi
     rcases Nat.lt_or_ge i ops.size with h | h
     ·exact h
     ·exfalso
      have : i = ops.size := by omega
      subst this
      exact hnm hi
    have h3 := wpOp_exits hq (h2 i ((hrd i him).1 hi))
    obtain ⟨_, g2, x, g3, g4⟩ := ready_mem.1 hi
    have hx : ops[i]? = some x := (hat i him).symm.trans g3
    have hIH : ∀ a w, wpAny P .any ops Qm k (l'.setIfInBounds i true) a w → wpAny P .any (ops.push o) Q (k + 1) (listed.setIfInBounds i true) a w := by
     intro a w hh
     refine ih _ _ (by simpa using hsz) (by simpa using hsz') ?_ ?_ ?_ a w hh
     ·intro j hj
      rw [Array.getElem?_setIfInBounds, Array.getElem?_setIfInBounds]
      by_cases e : i = j
      ·rw [if_pos e, if_pos e, if_pos (by omega), if_pos (by omega)]
      ·rw [if_neg e, if_neg e]; exact hll j hj
     ·rw [Array.getElem?_setIfInBounds, if_neg (by omega)]; exact hls
     ·intro i2 y hy hl2 j hj
      have hset : ∀ q, (listed.setIfInBounds i true)[q]? = some true ↔ (q = i ∨ listed[q]? = some true) := by
       intro q
       rw [Array.getElem?_setIfInBounds]
       by_cases e : i = q
       ·rw [if_pos e, if_pos (by omega)]; simp [e]
       ·rw [if_neg e]
        constructor
        ·exact .inr
        ·rintro (h | h)
         ·exact absurd h.symm e
         ·exact h
      refine getD_some ((hset j).2 ?_)
      rcases (hset i2).1 (of_getD hl2) with e | e
      ·subst e
       rw [g3] at hy
       cases hy
       exact .inr (of_getD (g4 j hj))
      ·exact .inr (of_getD (hcl i2 y hy (getD_some e) j hj))
    unfold wpOp at h3 ⊢
    rw [hx] at h3
    rw [g3]
    simp only at h3 ⊢
    have hwan : Region.wanted x (yielded (ops.push o) a.tmps) = Region.wanted x (yielded ops a.tmps) := by
     unfold Region.wanted
     cases hgx : x.guard with
     | none => rfl
     | some jw =>
      obtain ⟨j, want⟩ := jw
      have hj : j < ops.size := by
       unfold guardOk at hgo
       have := Array.all_eq_true'.1 hgo x (Array.mem_of_getElem? hx)
       rw [hgx] at this
       simpa using this
      simp only [yielded, hat j hj]
    rw [hwan]
    split
    ·rename_i hw
     rw [if_pos hw] at h3
     exact h3.imp (Oper.wp_mono hIH) id
    ·rename_i hw
     rw [if_neg hw] at h3
     exact hIH _ _ h3
def AnyS (P : Program) (cx : Cx) (L : Array Oper) (K : AState → Prop) (S : AState) : Prop := ∀ (G0 : Gh) (w0 : World) (Q : Exit → Act → World → Prop), (∀ S a w G, K S → RelS cx.n cx.nb G S a w → LeC cx G0 w0 G w S → Q .normal a w) →
 ∀ G a w, RelS cx.n cx.nb G S a w → LeC cx G0 w0 G w S → wpAny P .any L Q L.size (Array.replicate L.size false) a w
theorem AnyS.still {cx : Cx} {L : Array Oper} {K : AState → Prop} {S : AState} {l : List Oper} (hB : Region.lexB .any L = true) (hl : L.toList = l) (h : SegS P cx L l K S) : AnyS P cx L K S := by
 subst hl
 intro G0 w0 Q hQ G a w hr hlc
 simp only [Region.lexB, Bool.and_eq_true] at hB
 refine wpAny_of_still (Q := fun a' => Q .normal a' w) (fun _ h => h) _ _ _ ?_
 have := wpAnyS_lex (md := .any) hB.1 L.toList 0 (Array.replicate L.size false) a (by simp) (by simpa using hB.2)
  (h G w (fun a' => Q .normal a' w) (fun S' a' q1 q2 q3 q4 => hQ S' a' w G q1 q4 ⟨hlc.1, fun k hk hg => by rw [q2]; exact hlc.2 k hk hg⟩) a hr)
 simpa using this
def pushOk (n : Nat) (ops : Array Oper) (o : Oper) : Bool := regionOk n (ops.push o) false && (!isAlloc o.op && (downOk (ops.push o) && (tiedAll (ops.push o) ops.size && guardOk ops)))
theorem AnyS.push {cx : Cx} {ops L : Array Oper} {o : Oper} {K : AState → Prop} {S : AState} (hL : L = ops.push o) (hnb : cx.base + cx.n ≤ cx.nb) (hok : pushOk cx.n ops o = true) (h : AnyS P cx ops (FOps P cx L false [o] K) S) : AnyS P cx L K S := by
 subst hL
 unfold pushOk at hok
 simp only [Bool.and_eq_true, Bool.not_eq_true'] at hok
 obtain ⟨hreg, hna, hdown, htied, hgo⟩ := hok
 obtain ⟨hal, hdst⟩ := regOk_two hreg
 intro G0 w0 Q hQ G a w hr hl
 rw [Array.size_push]
 refine wpAny_splitG (Qm := fun e a' w' => match e with | .normal => wpOp P (ops.push o) Q ops.size (Q .normal) a' w' | e => False) hdown htied hgo (fun e a w hne hh => by cases e <;> first | exact absurd rfl hne | exact hh.elim) (fun a w hh => hh) ops.size _ (Array.replicate ops.size false) (by simp) (by simp) (fun i hi => by simp [Array.getElem?_replicate, hi]; omega) (by simp [Array.getElem?_replicate]) ?_ a w ?_
 ·intro i x hx hl2
  have := of_getD hl2
  rw [Array.getElem?_replicate] at this
  split at this
  ·cases this
  ·cases this
 ·refine h G0 w0 _ (fun S' a' w' G' hK hr' hl' => ?_) G a w hr hl
  have := aops_sound (ops := ops.push o) (G0 := G0) (w0 := w0) (K := K) (Q := Q) (dstOk_spec hdst) hnb hal (fun S' a' w' G' q1 q2 q3 => hQ S' a' w' G' q1 q2 q3) [o] ops.size S' a' w' G' (by simp) (fun o' ho' => by rw [List.mem_singleton.1 ho']; exact pend_no hna) hr' hl' (fOps_false _ _ hK)
  rw [show List.range' ops.size [o].length = [ops.size] from rfl, wpOps_cons] at this
  exact this
theorem AL.anyS {cx : Cx} {nt0 id : Nat} {L : Array Oper} {S : AState} {K : Exit → AState → Prop} {r : List CI} (hf : P.follows .mixedOrders = true) (h : AnyS P cx L (AL P cx nt0 K r) S) : AL P cx nt0 K (.c (.region id L true) :: r) S := by
 simp only [AL]
 intro G0 w0 he hn G a w hr hl
 refine wp_region_any hf ?_
 have hrd : RelS cx.n cx.nb G S a w.drew := hr.drew
 have hld : LeC cx G0 w0 G w.drew S := hl.step ⟨Le.drew, fun k _ hg => ⟨hg, rfl⟩⟩
 exact h G0 w0 _ (fun S' a' w' G' q1 q2 q3 => ⟨S', G', q1, q2, q3⟩) G a w.drew hrd hld
theorem AnyS.pushL {cx : Cx} {L : List Oper} {o : Oper} {K : AState → Prop} {S : AState} (hl : L.getLast? = some o) (hL : L = L.dropLast ++ [o]) (hnb : cx.base + cx.n ≤ cx.nb) (hok : pushOk cx.n L.dropLast.toArray o = true) (h : AnyS P cx L.dropLast.toArray (FOps P cx L.toArray false [o] K) S) : AnyS P cx L.toArray K S := by
 refine AnyS.push (ops := L.dropLast.toArray) (o := o) ?_ hnb hok h
 rw [List.push_toArray, ← hL]
end Go.AM
namespace Go.AM
open Go Go.Proofs
def emE (a b : Gr) (N E : List Int) (k : Nat) : Bool := if b.edges.getD k default = wantX a N E.length then !decide ((k : Int) ∈ E) else false
def emN (a b : Gr) (N : List Int) (k : Nat) : Bool := if b.nodes.getD k 0 = a.nodes.getD N.length 0 then !decide ((k : Int) ∈ N) else false
def fstE (ok : List Int → Nat → Bool) (m : Nat) : Nat → List Int → Option (List Int)
 | 0, E => some E
 | r + 1, E => (List.range m).findSome? fun k => if ok E k = true then fstE ok m r (E ++ [(k : Int)]) else none
def fstN (okN : List Int → Nat → Bool) (okE : List Int → List Int → Nat → Bool) (mn me re : Nat) : Nat → List Int → Option Mo
 | 0, N => (fstE (okE N) me re []).map (Mo.mk N)
 | r + 1, N => (List.range mn).findSome? fun k => if okN N k = true then fstN okN okE mn me re r (N ++ [(k : Int)]) else none
abbrev emRow (a b : Gr) (N : List Int) (t : Nat) (E : List Int) (u : Nat) : List AV := [.d (ints a.nodes), .d (AM.edges a.edges), .d (ints b.nodes), .d (AM.edges b.edges), .stk t 1 (rI N), .stk u 1 (rI E)]
def QEm (a b : Gr) (box : Bxs) (nb k : Nat) (mtok : Tks) (nt0 nt : Nat) (N E : List Int) (R : Option Mo) (v : AV) (m : AMem) : Prop :=
 ∃ t u tok nt', v = B R.isSome ∧ m = ⟨upd box k (some [match R with | none => emRow a b N t E u | some x => emRow a b x.nodes t x.edges u]), nb, tok, nt'⟩ ∧ TK mtok nt0 tok nt' [.tok t, .tok u] ∧ nt ≤ nt'
theorem fS_none {α : Type} {m : Nat} {f : Nat → Option α} (h : ∀ j, j < m → f j = none) : (List.range m).findSome? f = none := by
 rw [List.findSome?_eq_none_iff]
 exact fun j hj => h j (List.mem_range.1 hj)
theorem fS_some {α : Type} {m i : Nat} {f : Nat → Option α} {y : α} (hi : i < m) (h : ∀ j, j < i → f j = none) (hy : f i = some y) : (List.range m).findSome? f = some y := by
 rw [List.findSome?_eq_some_iff]
 refine ⟨List.range i, i, (List.range m).drop (i + 1), ?_, hy, fun j hj => h j (List.mem_range.1 hj)⟩
 have h1 : (List.range m).take i = List.range i := by rw [List.take_range, Nat.min_eq_left (by omega)]
 have h2 : i < (List.range m).length := by simpa using hi
 conv => lhs; rw [← List.take_append_drop i (List.range m)]
 rw [h1, List.drop_eq_getElem_cons h2]
 simp
theorem E.ext3' {e : E} {a b c : Int} (h1 : e.ty = a) (h2 : e.fr = b) (h3 : e.to = c) : e = ⟨a, b, c⟩ := by
 cases e; simp at h1 h2 h3; simp [h1, h2, h3]
structure EmX where
 i : Nat
 t : Nat
 u : Nat
 tok : Nat → Bool
 nt : Nat
theorem outEm {a b : Gr} {N E : List Int} {t u : Nat} {box : Bxs} {k base : Nat} {p q : Nat → Prop} (hq : ∀ t, q t) : ∀ k' rows, k' < base → (upd box k (some [emRow a b N t E u])) k' = some rows → box k' = some rows ∨ ∀ r ∈ rows, ∀ x ∈ r, OkIn p q x := by
 intro k' rows hk' hr
 by_cases e : k' = k
 ·subst e
  rw [upd_same] at hr
  cases hr
  exact .inr (by simp [hq])
 ·rw [upd_other _ _ e] at hr
  exact .inl hr
def NoE (a b : Gr) (N E : List Int) (n i : Nat) : Prop := ∀ j, j < i → (if emE a b N E j = true then fstE (emE a b N) b.edges.length n (E ++ [(j : Int)]) else none) = none
def emX1 (a b : Gr) (N E : List Int) (nb k : Nat) (box : Bxs) (x : EmX) : AState :=
 ⟨tl [(34, I x.i), (33, I b.edges.length), (32, .d (AM.edges b.edges)), (3, I E.length), (4, .ptr (nb + 4) 0 0), (0, .ptr k 0 0)], lb nb (upd box k (some [emRow a b N x.t E x.u])) [(4, [[I (a.edges.getD E.length default).ty, I (a.edges.getD E.length default).fr, I (a.edges.getD E.length default).to]])], x.tok, x.nt⟩
set_option maxRecDepth 100000 in
theorem links_c (a b : Gr) (ha : a.Fit) (hb : b.Fit) (hv : ∀ e ∈ a.edges, 0 ≤ e.fr ∧ e.fr < a.nodes.length ∧ 0 ≤ e.to ∧ e.to < a.nodes.length) (N : List Int) (hN : N.length = a.nodes.length) (mtok : Tks) (nt0 : Nat) : ∀ (n : Nat) (E : List Int) (t u : Nat) (box : Bxs) (nb k : Nat) (tok : Tks) (nt : Nat), E.length + n = a.edges.length →
  box k = some [emRow a b N t E u] → TK mtok nt0 tok nt [.tok t, .tok u] → ACalls Tryz.prog 142 [.ptr k 0 0] ⟨box, nb, tok, nt⟩ (QEm a b box nb k mtok nt0 nt N E ((fstE (emE a b N) b.edges.length n E).map (Mo.mk N))) := by
 intro n
 induction n with
 | zero =>
  intro E t u box nb k tok nt hE hk htk
  refine sB Tryz.func142 Tryz.ntmps142 ?_
  intro hbox htok
  simp only at hbox htok
  apply AL.start
  have hkn := key_lt hbox hk
  have hEl : E.length = a.edges.length := by omega
  have hself : box = upd box k (some [emRow a b N t E u]) := (upd_self box k _ hk).symm
  have b1 : ((E.length : Int) == (a.edges.length : Int)) = true := by simp [hEl]
  try (simp [lb_out hkn, hk, b1])
  repeat (first | (refine sR ?_; simp [lb_out hkn, hk, b1]) | (refine sC ?_; simp [lb_out hkn, hk, b1]) | (refine sX ?_; simp only [AU, ↓reduceIte]))
  refine sT ?_
  try simp only [AU]
  refine ⟨by simp, (Fin.own (av := B true) (by simp [resAs, resA]; rfl) hbox rfl (Nat.le_refl _) (by simp [packA])).mono fun v m hq => ⟨t, u, tok, nt, ?_, ?_, htk, Nat.le_refl _⟩⟩
  ·rw [hq.1]; rfl
  ·rw [hq.2]; simp only [fstE, Option.map_some]; rw [← hself]
 | succ n ih =>
  intro E t u box nb k tok nt hE hk htk
  have hlt : E.length < a.edges.length := by omega
  have hself : box = upd box k (some [emRow a b N t E u]) := (upd_self box k _ hk).symm
  have b1 : ((E.length : Int) == (a.edges.length : Int)) = false := by simp; omega
  obtain ⟨R, hR⟩ : ∃ R, fstE (emE a b N) b.edges.length (n + 1) E = R := ⟨_, rfl⟩
  rw [hR]
  unfold fstE at hR
  have han := ha.n
  have hae := ha.e
  have hbe := hb.e
  refine sB Tryz.func142 Tryz.ntmps142 ?_
  intro hbox htok
  simp only at hbox htok
  apply AL.start
  have hkn := key_lt hbox hk
  try (simp [lb_out hkn, hk, hlt, b1])
  repeat (first | (refine sR ?_; simp [lb_out hkn, hk, hlt, b1]) | (refine sC ?_; simp [lb_out hkn, hk, hlt, b1]) | (refine sX ?_; simp only [AU, ↓reduceIte]))
  refine sN ?_
  have hlb : ∀ loc, lb nb box loc = lb nb (upd box k (some [emRow a b N t E u])) loc := fun loc => by rw [← hself]
  rw [hlb]
  refine AL.loopT (emX1 a b N E nb k box) (fun x => x.i ≤ b.edges.length ∧ NoE a b N E n x.i ∧ TK mtok nt0 x.tok x.nt [.tok x.t, .tok x.u] ∧ nt ≤ x.nt) (fun x => b.edges.length - x.i)
   ⟨0, t, u, tok, nt⟩ ⟨Nat.zero_le _, fun j hj => absurd hj (Nat.not_lt_zero _), htk, Nat.le_refl _⟩ (Weaks.mk' (Nat.le_refl _) (by simp [ToL, lk, hlt]; exact to_ptr (by rw [lb_out hkn, upd_same]; simp)) (by simp [BoxL, lk, hlt]) (outEm (fun _ => trivial))) ?_
  rintro ⟨i, t2, u2, tok2, nt2⟩ S ⟨hi, hno, htk2, hnt2⟩ hS
  simp only [emX1] at hS hi hno htk2 hnt2
  subst hS
  have hw : IntKind.i64.wrap (↑i + 1) = ((i + 1 : Nat) : Int) := by rw [wrap_in (by omega) (by omega)]; omega
  have htu : tok2 u2 = true := htk2.swap.live
  have htt : tok2 t2 = true := htk2.live
  by_cases hli : i < b.edges.length
  ·obtain ⟨x1, x2, x3, x4⟩ := hv _ (List.getElem_mem hlt)
   have y0 : a.edges[E.length].fr < N.length := by omega
   have y9 : a.edges[E.length].to < N.length := by omega
   have y1 : a.edges[E.length].fr.toNat < N.length := by omega
   have y2 : a.edges[E.length].to.toNat < N.length := by omega
   have hwx : wantX a N E.length = ⟨a.edges[E.length].ty, N[a.edges[E.length].fr.toNat], N[a.edges[E.length].to.toNat]⟩ := by simp [wantX, hlt, y1, y2]
   have hgi : b.edges.getD i default = b.edges[i] := by simp [hli]
   have hok : emE a b N E i = if b.edges[i] = ⟨a.edges[E.length].ty, N[a.edges[E.length].fr.toNat], N[a.edges[E.length].to.toNat]⟩ then !decide ((i : Int) ∈ E) else false := by unfold emE; rw [hwx, hgi]
   have go : emE a b N E i = false → NoE a b N E n (i + 1) := fun h j hj => (Nat.lt_or_ge j i).elim (hno j) fun hh => by rw [show j = i by omega, h]; rfl
   by_cases c1 : b.edges[i].ty = a.edges[E.length].ty
   ·have d1 : (b.edges[i].ty != a.edges[E.length].ty) = false := by simp [c1]
    by_cases c2 : b.edges[i].fr = N[a.edges[E.length].fr.toNat]
    ·have d2 : (b.edges[i].fr != N[a.edges[E.length].fr.toNat]) = false := by simp [c2]
     by_cases c3 : b.edges[i].to = N[a.edges[E.length].to.toNat]
     ·have d3 : (b.edges[i].to != N[a.edges[E.length].to.toNat]) = false := by simp [c3]
      rw [if_pos (_root_.Go.AM.E.ext3' c1 c2 c3)] at hok
      refine sR ?_
      simp [lb_out hkn, upd_same, hli]
      refine sC ?_
      simp [hli]
      refine sR ?_
      simp [lb_out hkn, upd_same, hli, hlt]
      refine sN ?_
      refine AL.anyS follows_Tryz ?_
      refine AnyS.pushL rfl rfl (Nat.le_refl _) (by kernel_rfl) ?_
      refine AnyS.pushL rfl rfl (Nat.le_refl _) (by kernel_rfl) ?_
      simp only [List.dropLast]
      refine AnyS.still (by kernel_rfl) rfl ?_
      refine SegS.run 0 14 (by kernel_rfl) rfl rfl rfl (by kernel_rfl) ?_
      simp [lb_out hkn, upd_same, hli, hlt, d1, d2, d3]
      refine SegS.idx (some (5, false)) (by kernel_rfl) (by simp) (by simp) rfl rfl rfl rfl rfl rfl (by kernel_rfl) (by rintro j want ⟨⟩; simp) ?_
      simp [GdI, IdxK, x1, y0, y1, htt]
      refine SegS.run 16 11 (by kernel_rfl) rfl rfl rfl (by kernel_rfl) ?_
      simp [lb_out hkn, upd_same, hli, hlt, d1, d2, d3]
      refine SegS.idx (some (18, false)) (by kernel_rfl) (by simp) (by simp) rfl rfl rfl rfl rfl rfl (by kernel_rfl) (by rintro j want ⟨⟩; simp) ?_
      simp [GdI, IdxK, x3, y9, y2, htt]
      refine SegS.run 29 8 (by kernel_rfl) rfl rfl rfl (by kernel_rfl) ?_
      simp [lb_out hkn, upd_same, hli, hlt, d1, d2, d3]
      refine SegS.nil ?_
      simp [lb_out hkn, upd_same, hli, hlt, d1, d2, d3]
      refine Stop.of_r (RCall.lends rfl (fun tok => contains_c E i (by omega) tok nt2) ⟨.stk htu, .same (by simp), trivial⟩) ?_
      cases ed : decide ((i : Int) ∈ E)
      ·rw [ed] at hok
       have hok : emE a b N E i = true := hok
       have hsome : ∀ y, fstE (emE a b N) b.edges.length n (E ++ [(i : Int)]) = some y → R = some y := fun y hy => by rw [← hR]; exact fS_some hli hno (by rw [if_pos hok]; exact hy)
       have hcut := rI_cut E (i : Int)
       try (simp [lb_out hkn, upd_same])
       repeat (first | (refine sR ?_; simp [lb_out hkn, upd_same]) | (refine sC ?_; simp [lb_out hkn, upd_same]) | (refine sX ?_; simp only [AU, ↓reduceIte]))
       refine ⟨⟨by omega, htu⟩, ?_⟩
       have htk3 := htk2.swap.app.swap
       try simp only [upd_lb_out hkn, upd_upd]
       try (simp [lb_out hkn, upd_same])
       repeat (first | (refine sR ?_; simp [lb_out hkn, upd_same]) | (refine sC ?_; simp [lb_out hkn, upd_same]) | (refine sX ?_; simp only [AU, ↓reduceIte]))
       refine Stop.of_a (ih (E ++ [(i : Int)]) t2 nt2 _ _ k _ _ (by simp; omega) (by simp [lb_out hkn, upd_same]) htk3) ?_
       rintro v m' ⟨t3, u3, tok3, nt3, rfl, rfl, htk4, hle4⟩
       have hle4 : nt2 + 1 ≤ nt3 := hle4
       have hle5 : nt ≤ nt3 := by omega
       cases hF : fstE (emE a b N) b.edges.length n (E ++ [(i : Int)]) with
       | none =>
        have go : NoE a b N E n (i + 1) := fun j hj => (Nat.lt_or_ge j i).elim (hno j) fun hh => by rw [show j = i by omega, if_pos hok]; exact hF
        simp [upd_lb_out hkn, upd_upd]
        try (simp [lb_out hkn, upd_same, hcut, hw])
        repeat (first | (refine sR ?_; simp [lb_out hkn, upd_same, hcut, hw]) | (refine sC ?_; simp [lb_out hkn, upd_same, hcut, hw]) | (refine sX ?_; simp only [AU, ↓reduceIte]))
        try simp only [upd_lb_out hkn, upd_upd]
        refine sE ?_
        exact ⟨⟨i + 1, t3, u3, tok3, nt3⟩, ⟨hli, go, htk4, hle5⟩, by simp only; omega, Weaks.mk' hle5 (by simp [ToL, lk, hlt]; exact to_ptr (by rw [lb_out hkn, upd_same]; simp)) (by simp [BoxL, lk, hlt]) (outEm (a := a) (b := b) (N := N) (E := E) (t := t3) (u := u3) (fun _ => trivial))⟩
       | some y =>
        have hRy := hsome y hF
        subst hRy
        simp [upd_lb_out hkn, upd_upd]
        try (simp [lb_out hkn, upd_same])
        repeat (first | (refine sR ?_; simp [lb_out hkn, upd_same]) | (refine sC ?_; simp [lb_out hkn, upd_same]) | (refine sX ?_; simp only [AU, ↓reduceIte]))
        try simp only [upd_lb_out hkn, upd_upd]
        refine sT ?_
        try simp only [AU]
        exact ⟨by simp, (Fin.gen (av := B true) (tok' := tok3) (nt' := nt3) (by simp [resAs, resA]; rfl) (by rw [← upd_lb_out hkn, hbox]) hle5 (Nat.le_refl _) (fun t h => ⟨h, .inl rfl⟩) (outEm (fun _ => .inl rfl)) (by simp [packA])).mono fun v m hq => ⟨t3, u3, tok3, nt3, hq.1, hq.2, htk4, hle5⟩⟩
      ·rw [ed] at hok
       have go := go hok
       try (simp [lb_out hkn, upd_same, hw])
       repeat (first | (refine sR ?_; simp [lb_out hkn, upd_same, hw]) | (refine sC ?_; simp [lb_out hkn, upd_same, hw]) | (refine sX ?_; simp only [AU, ↓reduceIte]))
       refine sE ?_
       exact ⟨⟨i + 1, t2, u2, tok2, nt2⟩, ⟨hli, go, htk2, hnt2⟩, by simp only; omega, Weaks.mk' hnt2 (by simp [ToL, lk, hlt]; exact to_ptr (by rw [lb_out hkn, upd_same]; simp)) (by simp [BoxL, lk, hlt]) (outEm (fun _ => trivial))⟩
     ·have d3 : (b.edges[i].to != N[a.edges[E.length].to.toNat]) = true := by simp [c3]
      rw [if_neg fun h => c3 (by rw [h])] at hok
      have go := go hok
      refine sR ?_
      simp [lb_out hkn, upd_same, hli]
      refine sC ?_
      simp [hli]
      refine sR ?_
      simp [lb_out hkn, upd_same, hli, hlt]
      refine sN ?_
      refine AL.anyS follows_Tryz ?_
      refine AnyS.pushL rfl rfl (Nat.le_refl _) (by kernel_rfl) ?_
      refine AnyS.pushL rfl rfl (Nat.le_refl _) (by kernel_rfl) ?_
      simp only [List.dropLast]
      refine AnyS.still (by kernel_rfl) rfl ?_
      refine SegS.run 0 14 (by kernel_rfl) rfl rfl rfl (by kernel_rfl) ?_
      simp [lb_out hkn, upd_same, hli, hlt, d1, d2, d3]
      refine SegS.idx (some (5, false)) (by kernel_rfl) (by simp) (by simp) rfl rfl rfl rfl rfl rfl (by kernel_rfl) (by rintro j want ⟨⟩; simp) ?_
      simp [GdI, IdxK, x1, y0, y1, htt]
      refine SegS.run 16 11 (by kernel_rfl) rfl rfl rfl (by kernel_rfl) ?_
      simp [lb_out hkn, upd_same, hli, hlt, d1, d2, d3]
      refine SegS.idx (some (18, false)) (by kernel_rfl) (by simp) (by simp) rfl rfl rfl rfl rfl rfl (by kernel_rfl) (by rintro j want ⟨⟩; simp) ?_
      simp [GdI, IdxK, x3, y9, y2, htt]
      refine SegS.run 29 8 (by kernel_rfl) rfl rfl rfl (by kernel_rfl) ?_
      simp [lb_out hkn, upd_same, hli, hlt, d1, d2, d3]
      refine SegS.nil ?_
      simp [lb_out hkn, upd_same, hli, hlt, d1, d2, d3]
      try (simp [lb_out hkn, upd_same, hw])
      repeat (first | (refine sR ?_; simp [lb_out hkn, upd_same, hw]) | (refine sC ?_; simp [lb_out hkn, upd_same, hw]) | (refine sX ?_; simp only [AU, ↓reduceIte]))
      refine sE ?_
      exact ⟨⟨i + 1, t2, u2, tok2, nt2⟩, ⟨hli, go, htk2, hnt2⟩, by simp only; omega, Weaks.mk' hnt2 (by simp [ToL, lk, hlt]; exact to_ptr (by rw [lb_out hkn, upd_same]; simp)) (by simp [BoxL, lk, hlt]) (outEm (fun _ => trivial))⟩
    ·have d2 : (b.edges[i].fr != N[a.edges[E.length].fr.toNat]) = true := by simp [c2]
     rw [if_neg fun h => c2 (by rw [h])] at hok
     have go := go hok
     refine sR ?_
     simp [lb_out hkn, upd_same, hli]
     refine sC ?_
     simp [hli]
     refine sR ?_
     simp [lb_out hkn, upd_same, hli, hlt]
     refine sN ?_
     refine AL.anyS follows_Tryz ?_
     refine AnyS.pushL rfl rfl (Nat.le_refl _) (by kernel_rfl) ?_
     refine AnyS.pushL rfl rfl (Nat.le_refl _) (by kernel_rfl) ?_
     simp only [List.dropLast]
     refine AnyS.still (by kernel_rfl) rfl ?_
     refine SegS.run 0 14 (by kernel_rfl) rfl rfl rfl (by kernel_rfl) ?_
     simp [lb_out hkn, upd_same, hli, hlt, d1, d2]
     refine SegS.idx (some (5, false)) (by kernel_rfl) (by simp) (by simp) rfl rfl rfl rfl rfl rfl (by kernel_rfl) (by rintro j want ⟨⟩; simp) ?_
     simp [GdI, IdxK, x1, y0, y1, htt]
     refine SegS.run 16 11 (by kernel_rfl) rfl rfl rfl (by kernel_rfl) ?_
     simp [lb_out hkn, upd_same, hli, hlt, d1, d2]
     refine SegS.idx (some (18, false)) (by kernel_rfl) (by simp) (by simp) rfl rfl rfl rfl rfl rfl (by kernel_rfl) (by rintro j want ⟨⟩; simp) ?_
     simp [GdI, IdxK, x3, y9, y2, htt]
     refine SegS.run 29 8 (by kernel_rfl) rfl rfl rfl (by kernel_rfl) ?_
     simp [lb_out hkn, upd_same, hli, hlt, d1, d2]
     refine SegS.nil ?_
     simp [lb_out hkn, upd_same, hli, hlt, d1, d2]
     try (simp [lb_out hkn, upd_same, hw])
     repeat (first | (refine sR ?_; simp [lb_out hkn, upd_same, hw]) | (refine sC ?_; simp [lb_out hkn, upd_same, hw]) | (refine sX ?_; simp only [AU, ↓reduceIte]))
     refine sE ?_
     exact ⟨⟨i + 1, t2, u2, tok2, nt2⟩, ⟨hli, go, htk2, hnt2⟩, by simp only; omega, Weaks.mk' hnt2 (by simp [ToL, lk, hlt]; exact to_ptr (by rw [lb_out hkn, upd_same]; simp)) (by simp [BoxL, lk, hlt]) (outEm (fun _ => trivial))⟩
   ·have d1 : (b.edges[i].ty != a.edges[E.length].ty) = true := by simp [c1]
    rw [if_neg fun h => c1 (by rw [h])] at hok
    have go := go hok
    refine sR ?_
    simp [lb_out hkn, upd_same, hli]
    refine sC ?_
    simp [hli]
    refine sR ?_
    simp [lb_out hkn, upd_same, hli, hlt]
    refine sN ?_
    refine AL.anyS follows_Tryz ?_
    refine AnyS.pushL rfl rfl (Nat.le_refl _) (by kernel_rfl) ?_
    refine AnyS.pushL rfl rfl (Nat.le_refl _) (by kernel_rfl) ?_
    simp only [List.dropLast]
    refine AnyS.still (by kernel_rfl) rfl ?_
    refine SegS.run 0 14 (by kernel_rfl) rfl rfl rfl (by kernel_rfl) ?_
    simp [lb_out hkn, upd_same, hli, hlt, d1]
    refine SegS.idx (some (5, false)) (by kernel_rfl) (by simp) (by simp) rfl rfl rfl rfl rfl rfl (by kernel_rfl) (by rintro j want ⟨⟩; simp) ?_
    simp [GdI, IdxK, x1, y0, y1, htt]
    refine SegS.run 16 11 (by kernel_rfl) rfl rfl rfl (by kernel_rfl) ?_
    simp [lb_out hkn, upd_same, hli, hlt, d1]
    refine SegS.idx (some (18, false)) (by kernel_rfl) (by simp) (by simp) rfl rfl rfl rfl rfl rfl (by kernel_rfl) (by rintro j want ⟨⟩; simp) ?_
    simp [GdI, IdxK, x3, y9, y2, htt]
    refine SegS.run 29 8 (by kernel_rfl) rfl rfl rfl (by kernel_rfl) ?_
    simp [lb_out hkn, upd_same, hli, hlt, d1]
    refine SegS.nil ?_
    simp [lb_out hkn, upd_same, hli, hlt, d1]
    try (simp [lb_out hkn, upd_same, hw])
    repeat (first | (refine sR ?_; simp [lb_out hkn, upd_same, hw]) | (refine sC ?_; simp [lb_out hkn, upd_same, hw]) | (refine sX ?_; simp only [AU, ↓reduceIte]))
    refine sE ?_
    exact ⟨⟨i + 1, t2, u2, tok2, nt2⟩, ⟨hli, go, htk2, hnt2⟩, by simp only; omega, Weaks.mk' hnt2 (by simp [ToL, lk, hlt]; exact to_ptr (by rw [lb_out hkn, upd_same]; simp)) (by simp [BoxL, lk, hlt]) (outEm (fun _ => trivial))⟩
  ·have : i = b.edges.length := by omega
   subst this
   have hR2 : R = none := by rw [← hR]; exact fS_none hno
   subst hR2
   try (simp [lb_out hkn, upd_same])
   repeat (first | (refine sR ?_; simp [lb_out hkn, upd_same]) | (refine sC ?_; simp [lb_out hkn, upd_same]) | (refine sX ?_; simp only [AU, ↓reduceIte]))
   refine sT ?_
   try simp only [AU]
   refine ⟨by simp, (Fin.gen (av := B false) (tok' := tok2) (nt' := nt2) (by simp [resAs, resA]; rfl) (by rw [← upd_lb_out hkn, hbox]) hnt2 (Nat.le_refl _) (fun t h => ⟨h, .inl rfl⟩) (outEm (fun _ => .inl rfl)) (by simp [packA])).mono fun v m hq => ⟨t2, u2, tok2, nt2, hq.1, hq.2, htk2, hnt2⟩⟩
end Go.AM
namespace Go.AM
open Go Go.Proofs
def NoN (a b : Gr) (N : List Int) (n i : Nat) : Prop := ∀ j, j < i → (if emN a b N j = true then fstN (emN a b) (emE a b) b.nodes.length b.edges.length a.edges.length n (N ++ [(j : Int)]) else none) = none
def emX2 (a b : Gr) (N : List Int) (nb k : Nat) (box : Bxs) (x : EmX) : AState :=
 ⟨tl [(27, I x.i), (26, I b.nodes.length), (25, .d (ints b.nodes)), (3, I N.length), (0, .ptr k 0 0)], lb nb (upd box k (some [emRow a b N x.t [] x.u])) [], x.tok, x.nt⟩
set_option maxRecDepth 100000 in
theorem places_c (a b : Gr) (ha : a.Fit) (hb : b.Fit) (hv : ∀ e ∈ a.edges, 0 ≤ e.fr ∧ e.fr < a.nodes.length ∧ 0 ≤ e.to ∧ e.to < a.nodes.length) (mtok : Tks) (nt0 : Nat) : ∀ (n : Nat) (N : List Int) (t u : Nat) (box : Bxs) (nb k : Nat) (tok : Tks) (nt : Nat), N.length + n = a.nodes.length →
  box k = some [emRow a b N t [] u] → TK mtok nt0 tok nt [.tok t, .tok u] → ACalls Tryz.prog 73 [.ptr k 0 0] ⟨box, nb, tok, nt⟩ (QEm a b box nb k mtok nt0 nt N [] (fstN (emN a b) (emE a b) b.nodes.length b.edges.length a.edges.length n N)) := by
 intro n
 induction n with
 | zero =>
  intro N t u box nb k tok nt hE hk htk
  have hNl : N.length = a.nodes.length := by omega
  refine sB Tryz.func73 Tryz.ntmps73 ?_
  intro hbox htok
  simp only at hbox htok
  apply AL.start
  have hkn := key_lt hbox hk
  have hself : box = upd box k (some [emRow a b N t [] u]) := (upd_self box k _ hk).symm
  have b1 : ((N.length : Int) == (a.nodes.length : Int)) = true := by simp [hNl]
  try (simp [lb_out hkn, hk, b1])
  repeat (first | (refine sR ?_; simp [lb_out hkn, hk, b1]) | (refine sC ?_; simp [lb_out hkn, hk, b1]) | (refine sX ?_; simp only [AU, ↓reduceIte]))
  refine Stop.of_a (links_c a b ha hb hv N hNl mtok nt0 a.edges.length [] t u _ _ k _ _ (by simp) (by simp only; rw [lb_out hkn]; exact hk) htk) ?_
  rintro v m' ⟨t3, u3, tok3, nt3, rfl, rfl, htk4, hle4⟩
  have hle5 : nt ≤ nt3 := hle4
  obtain ⟨F, hF⟩ : ∃ F, (fstE (emE a b N) b.edges.length a.edges.length []).map (Mo.mk N) = F := ⟨_, rfl⟩
  have hF2 : fstN (emN a b) (emE a b) b.nodes.length b.edges.length a.edges.length 0 N = F := hF
  rw [hF, hF2]
  cases F with
  | none =>
   simp [upd_lb_out hkn, upd_upd]
   try (simp [lb_out hkn, upd_same])
   repeat (first | (refine sR ?_; simp [lb_out hkn, upd_same]) | (refine sC ?_; simp [lb_out hkn, upd_same]) | (refine sX ?_; simp only [AU, ↓reduceIte]))
   try simp only [upd_lb_out hkn, upd_upd]
   refine sT ?_
   try simp only [AU]
   exact ⟨by simp, (Fin.gen (av := B false) (tok' := tok3) (nt' := nt3) (by simp [resAs, resA]; rfl) (by rw [← upd_lb_out hkn, hbox]) hle5 (Nat.le_refl _) (fun t h => ⟨h, .inl rfl⟩) (outEm (fun _ => .inl rfl)) (by simp [packA])).mono fun v m hq => ⟨t3, u3, tok3, nt3, hq.1, hq.2, htk4, hle5⟩⟩
  | some y =>
   simp [upd_lb_out hkn, upd_upd]
   try (simp [lb_out hkn, upd_same])
   repeat (first | (refine sR ?_; simp [lb_out hkn, upd_same]) | (refine sC ?_; simp [lb_out hkn, upd_same]) | (refine sX ?_; simp only [AU, ↓reduceIte]))
   try simp only [upd_lb_out hkn, upd_upd]
   refine sT ?_
   try simp only [AU]
   exact ⟨by simp, (Fin.gen (av := B true) (tok' := tok3) (nt' := nt3) (by simp [resAs, resA]; rfl) (by rw [← upd_lb_out hkn, hbox]) hle5 (Nat.le_refl _) (fun t h => ⟨h, .inl rfl⟩) (outEm (fun _ => .inl rfl)) (by simp [packA])).mono fun v m hq => ⟨t3, u3, tok3, nt3, hq.1, hq.2, htk4, hle5⟩⟩
 | succ n ih =>
  intro N t u box nb k tok nt hE hk htk
  have hlt : N.length < a.nodes.length := by omega
  have hself : box = upd box k (some [emRow a b N t [] u]) := (upd_self box k _ hk).symm
  have b1 : ((N.length : Int) == (a.nodes.length : Int)) = false := by simp; omega
  obtain ⟨R, hR⟩ : ∃ R, fstN (emN a b) (emE a b) b.nodes.length b.edges.length a.edges.length (n + 1) N = R := ⟨_, rfl⟩
  rw [hR]
  unfold fstN at hR
  have han := ha.n
  have hbn := hb.n
  refine sB Tryz.func73 Tryz.ntmps73 ?_
  intro hbox htok
  simp only at hbox htok
  apply AL.start
  have hkn := key_lt hbox hk
  try (simp [lb_out hkn, hk, hlt, b1])
  repeat (first | (refine sR ?_; simp [lb_out hkn, hk, hlt, b1]) | (refine sC ?_; simp [lb_out hkn, hk, hlt, b1]) | (refine sX ?_; simp only [AU, ↓reduceIte]))
  refine sN ?_
  have hlb : ∀ loc, lb nb box loc = lb nb (upd box k (some [emRow a b N t [] u])) loc := fun loc => by rw [← hself]
  rw [hlb]
  refine AL.loopT (emX2 a b N nb k box) (fun x => x.i ≤ b.nodes.length ∧ NoN a b N n x.i ∧ TK mtok nt0 x.tok x.nt [.tok x.t, .tok x.u] ∧ nt ≤ x.nt) (fun x => b.nodes.length - x.i)
   ⟨0, t, u, tok, nt⟩ ⟨Nat.zero_le _, fun j hj => absurd hj (Nat.not_lt_zero _), htk, Nat.le_refl _⟩ (Weaks.mk' (Nat.le_refl _) (by simp [ToL, lk]; exact to_ptr (by rw [lb_out hkn, upd_same]; simp)) (by simp [BoxL, lk]) (outEm (fun _ => trivial))) ?_
  rintro ⟨i, t2, u2, tok2, nt2⟩ S ⟨hi, hno, htk2, hnt2⟩ hS
  simp only [emX2] at hS hi hno htk2 hnt2
  subst hS
  have hw : IntKind.i64.wrap (↑i + 1) = ((i + 1 : Nat) : Int) := by rw [wrap_in (by omega) (by omega)]; omega
  have htt : tok2 t2 = true := htk2.live
  by_cases hli : i < b.nodes.length
  ·have hok : emN a b N i = if b.nodes[i] = a.nodes[N.length] then !decide ((i : Int) ∈ N) else false := by unfold emN; simp [hli, hlt]
   have go : emN a b N i = false → NoN a b N n (i + 1) := fun h j hj => (Nat.lt_or_ge j i).elim (hno j) fun hh => by rw [show j = i by omega, h]; rfl
   by_cases c1 : b.nodes[i] = a.nodes[N.length]
   ·have d1 : (b.nodes[i] != a.nodes[N.length]) = false := by simp [c1]
    rw [if_pos c1] at hok
    try (simp [lb_out hkn, upd_same, hli, hlt, d1])
    repeat (first | (refine sR ?_; simp [lb_out hkn, upd_same, hli, hlt, d1]) | (refine sC ?_; simp [lb_out hkn, upd_same, hli, hlt, d1]) | (refine sX ?_; simp only [AU, ↓reduceIte]))
    refine Stop.of_r (RCall.lends rfl (fun tok => contains_c N i (by omega) tok nt2) ⟨.stk htt, .same (by simp), trivial⟩) ?_
    cases ed : decide ((i : Int) ∈ N)
    ·rw [ed] at hok
     have hok : emN a b N i = true := hok
     have hsome : ∀ y, fstN (emN a b) (emE a b) b.nodes.length b.edges.length a.edges.length n (N ++ [(i : Int)]) = some y → R = some y := fun y hy => by rw [← hR]; exact fS_some hli hno (by rw [if_pos hok]; exact hy)
     have hcut := rI_cut N (i : Int)
     try (simp [lb_out hkn, upd_same])
     repeat (first | (refine sR ?_; simp [lb_out hkn, upd_same]) | (refine sC ?_; simp [lb_out hkn, upd_same]) | (refine sX ?_; simp only [AU, ↓reduceIte]))
     refine ⟨⟨by omega, htt⟩, ?_⟩
     have htk3 := htk2.app
     try simp only [upd_lb_out hkn, upd_upd]
     try (simp [lb_out hkn, upd_same])
     repeat (first | (refine sR ?_; simp [lb_out hkn, upd_same]) | (refine sC ?_; simp [lb_out hkn, upd_same]) | (refine sX ?_; simp only [AU, ↓reduceIte]))
     refine Stop.of_a (ih (N ++ [(i : Int)]) nt2 u2 _ _ k _ _ (by simp; omega) (by simp [lb_out hkn, upd_same]) htk3) ?_
     rintro v m' ⟨t3, u3, tok3, nt3, rfl, rfl, htk4, hle4⟩
     have hle4 : nt2 + 1 ≤ nt3 := hle4
     have hle5 : nt ≤ nt3 := by omega
     cases hF : fstN (emN a b) (emE a b) b.nodes.length b.edges.length a.edges.length n (N ++ [(i : Int)]) with
     | none =>
      have go : NoN a b N n (i + 1) := fun j hj => (Nat.lt_or_ge j i).elim (hno j) fun hh => by rw [show j = i by omega, if_pos hok]; exact hF
      simp [upd_lb_out hkn, upd_upd]
      try (simp [lb_out hkn, upd_same, hcut, hw])
      repeat (first | (refine sR ?_; simp [lb_out hkn, upd_same, hcut, hw]) | (refine sC ?_; simp [lb_out hkn, upd_same, hcut, hw]) | (refine sX ?_; simp only [AU, ↓reduceIte]))
      try simp only [upd_lb_out hkn, upd_upd]
      refine sE ?_
      exact ⟨⟨i + 1, t3, u3, tok3, nt3⟩, ⟨hli, go, htk4, hle5⟩, by simp only; omega, Weaks.mk' hle5 (by simp [ToL, lk]; exact to_ptr (by rw [lb_out hkn, upd_same]; simp)) (by simp [BoxL, lk]) (outEm (a := a) (b := b) (N := N) (E := []) (t := t3) (u := u3) (fun _ => trivial))⟩
     | some y =>
      have hRy := hsome y hF
      subst hRy
      simp [upd_lb_out hkn, upd_upd]
      try (simp [lb_out hkn, upd_same])
      repeat (first | (refine sR ?_; simp [lb_out hkn, upd_same]) | (refine sC ?_; simp [lb_out hkn, upd_same]) | (refine sX ?_; simp only [AU, ↓reduceIte]))
      try simp only [upd_lb_out hkn, upd_upd]
      refine sT ?_
      try simp only [AU]
      exact ⟨by simp, (Fin.gen (av := B true) (tok' := tok3) (nt' := nt3) (by simp [resAs, resA]; rfl) (by rw [← upd_lb_out hkn, hbox]) hle5 (Nat.le_refl _) (fun t h => ⟨h, .inl rfl⟩) (outEm (fun _ => .inl rfl)) (by simp [packA])).mono fun v m hq => ⟨t3, u3, tok3, nt3, hq.1, hq.2, htk4, hle5⟩⟩
    ·rw [ed] at hok
     have go := go hok
     try (simp [lb_out hkn, upd_same, hw])
     repeat (first | (refine sR ?_; simp [lb_out hkn, upd_same, hw]) | (refine sC ?_; simp [lb_out hkn, upd_same, hw]) | (refine sX ?_; simp only [AU, ↓reduceIte]))
     refine sE ?_
     exact ⟨⟨i + 1, t2, u2, tok2, nt2⟩, ⟨hli, go, htk2, hnt2⟩, by simp only; omega, Weaks.mk' hnt2 (by simp [ToL, lk]; exact to_ptr (by rw [lb_out hkn, upd_same]; simp)) (by simp [BoxL, lk]) (outEm (fun _ => trivial))⟩
   ·have d1 : (b.nodes[i] != a.nodes[N.length]) = true := by simp [c1]
    rw [if_neg c1] at hok
    have go := go hok
    try (simp [lb_out hkn, upd_same, hli, hlt, d1, hw])
    repeat (first | (refine sR ?_; simp [lb_out hkn, upd_same, hli, hlt, d1, hw]) | (refine sC ?_; simp [lb_out hkn, upd_same, hli, hlt, d1, hw]) | (refine sX ?_; simp only [AU, ↓reduceIte]))
    refine sE ?_
    exact ⟨⟨i + 1, t2, u2, tok2, nt2⟩, ⟨hli, go, htk2, hnt2⟩, by simp only; omega, Weaks.mk' hnt2 (by simp [ToL, lk]; exact to_ptr (by rw [lb_out hkn, upd_same]; simp)) (by simp [BoxL, lk]) (outEm (fun _ => trivial))⟩
  ·have : i = b.nodes.length := by omega
   subst this
   have hR2 : R = none := by rw [← hR]; exact fS_none hno
   subst hR2
   try (simp [lb_out hkn, upd_same])
   repeat (first | (refine sR ?_; simp [lb_out hkn, upd_same]) | (refine sC ?_; simp [lb_out hkn, upd_same]) | (refine sX ?_; simp only [AU, ↓reduceIte]))
   refine sT ?_
   try simp only [AU]
   refine ⟨by simp, (Fin.gen (av := B false) (tok' := tok2) (nt' := nt2) (by simp [resAs, resA]; rfl) (by rw [← upd_lb_out hkn, hbox]) hnt2 (Nat.le_refl _) (fun t h => ⟨h, .inl rfl⟩) (outEm (fun _ => .inl rfl)) (by simp [packA])).mono fun v m hq => ⟨t2, u2, tok2, nt2, hq.1, hq.2, htk2, hnt2⟩⟩
end Go.AM
namespace Go.AM
open Go Go.Proofs
def subF (a b : Gr) : Option Mo := fstN (emN a b) (emE a b) b.nodes.length b.edges.length a.edges.length a.nodes.length []
def subR (a b : Co) : Bool × Mo × Int := if shpE a ≠ 0 then (false, ⟨[], []⟩, shpE a) else if shpE b ≠ 0 then (false, ⟨[], []⟩, shpE b) else if a.kind ≠ 1 then (false, ⟨[], []⟩, 8) else if b.kind ≠ 1 then (false, ⟨[], []⟩, 8) else
 match subF a.g b.g with | some m => (true, m, 0) | none => (false, ⟨[], []⟩, 10)
set_option maxRecDepth 100000 in
theorem subsumesK_c (a b : Co) (ha : a.Fit) (hb : b.Fit) (tok : Tks) (nt : Nat) : DCall Tryz.prog 21 [a.av, b.av] tok nt (.tup [B (subR a b).1, (subR a b).2.1.av, I (subR a b).2.2]) tok nt := by
 intro box nb
 have h1 := shpK_c a ha
 have h2 := shpK_c b hb
 have hv := @shpE_zero a
 obtain ⟨N, hN⟩ : ∃ N, subR a b = N := ⟨_, rfl⟩
 rw [hN]
 unfold subR at hN
 generalize shpE a = S at *
 generalize shpE b = T at *
 refine sB Tryz.func21 Tryz.ntmps21 ?_
 intro hbox htok
 simp only at hbox htok
 apply AL.start
 try (simp)
 repeat (refine sR ?_; simp)
 refine Stop.of_d (h1 _ _) ?_
 simp
 try (simp)
 repeat (refine sR ?_; simp)
 by_cases e1 : S = 0
 ·rw [if_neg (by simp [e1])] at hN
  try (simp [e1])
  repeat (first | (refine sR ?_; simp [e1]) | (refine sC ?_; simp [e1]) | (refine sX ?_; simp only [AU, ↓reduceIte]))
  refine Stop.of_d (h2 _ _) ?_
  simp
  try (simp)
  repeat (refine sR ?_; simp)
  by_cases e2 : T = 0
  ·rw [if_neg (by simp [e2])] at hN
   have hv0 := (hv e1).2.2.1
   by_cases e3 : a.kind = 1
   ·rw [if_neg (by simp [e3])] at hN
    by_cases e4 : b.kind = 1
    ·rw [if_neg (by simp [e4])] at hN
     have ba : (a.kind != 1) = false := by simp [e3]
     have bb : (b.kind != 1) = false := by simp [e4]
     refine sC ?_
     simp [e2]
     refine sR ?_
     simp [ba, bb]
     refine sC ?_
     simp [ba, bb]
     refine sR ?_
     simp
     refine AL.weak (Weaks.mk (l' := [(9, .ptr (nb + 9) 0 0), (5, .ptr (nb + 5) 0 0)]) (loc' := [(9, [[.d (ints a.g.nodes), .d (AM.edges a.g.edges), .d (ints b.g.nodes), .d (AM.edges b.g.edges), .osl 0 [] .full, .osl 0 [] .full]]), (5, [[.osl 0 [] .full, .osl 0 [] .full]])]) (Nat.le_refl _) rfl (by simp [ToL, lk]) (by simp [BoxL, lk])) ?_
     refine AL.trans (Trans.opn (l' := [(9, .ptr (nb + 9) 0 0), (5, .ptr (nb + 5) 0 0)]) (loc' := [(9, [[.d (ints a.g.nodes), .d (AM.edges a.g.edges), .d (ints b.g.nodes), .d (AM.edges b.g.edges), .stk nt 1 [], .osl 0 [] .full]]), (5, [[.osl 0 [] .full, .osl 0 [] .full]])]) 1 (by simp [CvL]) ⟨rfl, cvRs_one (cvR_cons .same (cvR_cons .same (cvR_cons .same (cvR_cons .same (cvR_cons .nil (cvR_cons .same cvR_nil)))))), rfl, cvRs_one (cvR_cons .same (cvR_cons .same cvR_nil)), trivial⟩) ?_
     refine AL.trans (Trans.opn (l' := [(9, .ptr (nb + 9) 0 0), (5, .ptr (nb + 5) 0 0)]) (loc' := [(9, [[.d (ints a.g.nodes), .d (AM.edges a.g.edges), .d (ints b.g.nodes), .d (AM.edges b.g.edges), .stk nt 1 [], .stk (nt + 1) 1 []]]), (5, [[.osl 0 [] .full, .osl 0 [] .full]])]) 1 (by simp [CvL]) ⟨rfl, cvRs_one (cvR_cons .same (cvR_cons .same (cvR_cons .same (cvR_cons .same (cvR_cons .same (cvR_cons .nil cvR_nil)))))), rfl, cvRs_one (cvR_cons .same (cvR_cons .same cvR_nil)), trivial⟩) ?_
     have htk0 := (TK.start htok).full.full.app.swap.app.swap
     try (simp)
     repeat (refine sR ?_; simp)
     refine Stop.of_a (places_c a.g b.g ha.g hb.g (validG_edges hv0) tok nt a.g.nodes.length [] nt (nt + 1) _ _ (nb + 9) _ _ (by simp) (by simp [lb_at]) htk0) ?_
     rintro v m' ⟨t3, u3, tok3, nt3, rfl, rfl, htk4, hle4⟩
     obtain ⟨F, hF⟩ : ∃ F, subF a.g b.g = F := ⟨_, rfl⟩
     rw [hF] at hN
     unfold subF at hF
     rw [hF]
     cases F with
     | none =>
      simp
      try (simp)
      repeat (first | (refine sR ?_; simp) | (refine sC ?_; simp) | (refine sX ?_; simp only [AU, ↓reduceIte]))
      refine sT ?_
      try simp only [AU]
      refine ⟨by simp, sF hbox htok htk4.old htk4.le ?_⟩
      simp [packA, ← hN, ints]
     | some y =>
      simp
      try (simp)
      repeat (refine sR ?_; simp)
      refine sC ?_
      simp
      refine sN ?_
      have htk5 := htk4.spend
      have hne : ¬ u3 = t3 := fun e => by
       have := htk5.live
       rw [e] at this
       simp [upd_same] at this
      refine AL.stkD t3 htk4.live ?_
      simp [AV.sdT, hne]
      refine AL.stkD u3 htk5.live ?_
      simp [AV.sdT]
      have htk6 := htk5.spend
      refine sN ?_
      refine AL.region2 follows_Tryz (Nat.le_refl _) (by kernel_rfl) (Side.of (by simp)) ?_
      simp
      try (simp)
      repeat (first | (refine sR ?_; simp) | (refine sC ?_; simp) | (refine sX ?_; simp only [AU, ↓reduceIte]))
      refine sT ?_
      try simp only [AU]
      refine ⟨by simp, sF hbox htok htk6.old htk6.le ?_⟩
      simp [packA, ← hN]
    ·rw [if_pos e4] at hN
     have ba : (a.kind != 1) = false := by simp [e3]
     have bb : (b.kind != 1) = true := by simp [e4]
     try (simp [e2, ba, bb])
     repeat (first | (refine sR ?_; simp [e2, ba, bb]) | (refine sC ?_; simp [e2, ba, bb]) | (refine sX ?_; simp only [AU, ↓reduceIte]))
     refine sT ?_
     try simp only [AU]
     refine ⟨by simp, sF hbox htok (fun _ h => h) (Nat.le_refl _) ?_⟩
     simp [packA, ← hN, ints]
   ·rw [if_pos e3] at hN
    have ba : (a.kind != 1) = true := by simp [e3]
    try (simp [e2, ba])
    repeat (first | (refine sR ?_; simp [e2, ba]) | (refine sC ?_; simp [e2, ba]) | (refine sX ?_; simp only [AU, ↓reduceIte]))
    refine sT ?_
    try simp only [AU]
    refine ⟨by simp, sF hbox htok (fun _ h => h) (Nat.le_refl _) ?_⟩
    simp [packA, ← hN, ints]
  ·rw [if_pos e2] at hN
   try (simp [e2])
   repeat (first | (refine sR ?_; simp [e2]) | (refine sC ?_; simp [e2]) | (refine sX ?_; simp only [AU, ↓reduceIte]))
   refine sT ?_
   try simp only [AU]
   refine ⟨by simp, sF hbox htok (fun _ h => h) (Nat.le_refl _) ?_⟩
   simp [packA, ← hN, ints]
 ·rw [if_pos e1] at hN
  try (simp [e1])
  repeat (first | (refine sR ?_; simp [e1]) | (refine sC ?_; simp [e1]) | (refine sX ?_; simp only [AU, ↓reduceIte]))
  refine sT ?_
  try simp only [AU]
  refine ⟨by simp, sF hbox htok (fun _ h => h) (Nat.le_refl _) ?_⟩
  simp [packA, ← hN, ints]
end Go.AM
namespace Go.AM
open Go Go.Proofs
theorem atB_nil (i k : Nat) : atB [] [] i k = true := by simp [atB, indexI]
theorem and_ite (x : Bool) (p : Prop) [Decidable p] : (x && (decide p && true)) = if p then x else false := by
 by_cases h : p <;> cases x <;> simp [h]
theorem fS_map {α β γ : Type} (f : β → γ) (g : α → Option β) : ∀ l : List α, (l.findSome? g).map f = l.findSome? fun x => (g x).map f
 | [] => rfl
 | x :: l => by
  rw [List.findSome?_cons, List.findSome?_cons]
  cases h : g x with
  | none => simpa using fS_map f g l
  | some y => simp
theorem exE_head (a b : Gr) (N : List Int) : ∀ (r : Nat) (E : List Int), (exE a b mNil mNil N r E).head? = (fstE (emE a b N) b.edges.length r E).map (Mo.mk N)
 | 0, E => rfl
 | r + 1, E => by
  unfold exE lst fstE
  rw [List.head?_flatMap, fS_map]
  refine congrArg (fun f => List.findSome? f (List.range b.edges.length)) (funext fun k => ?_)
  have h1 : (!decide ((k : Int) ∈ E) && okXE a b mNil mNil N E.length k) = emE a b N E k := by
   unfold okXE emE
   rw [atB_nil]
   exact and_ite _ _
  rw [h1]
  split
  ·exact exE_head a b N r (E ++ [(k : Int)])
  ·rfl
theorem exN_head (a b : Gr) : ∀ (r : Nat) (N : List Int), (exN a b mNil mNil r N).head? = fstN (emN a b) (emE a b) b.nodes.length b.edges.length a.edges.length r N
 | 0, N => exE_head a b N a.edges.length []
 | r + 1, N => by
  unfold exN lst fstN
  rw [List.head?_flatMap]
  refine congrArg (fun f => List.findSome? f (List.range b.nodes.length)) (funext fun k => ?_)
  have h1 : (!decide ((k : Int) ∈ N) && okXN a b mNil mNil N.length k) = emN a b N k := by
   unfold okXN emN
   rw [atB_nil]
   exact and_ite _ _
  rw [h1]
  split
  ·exact exN_head a b r (N ++ [(k : Int)])
  ·rfl
theorem subF_head (a b : Gr) : (exts a b mNil mNil).head? = subF a b := exN_head a b a.nodes.length []
end Go.AM
namespace Go.AM
open Go Go.Proofs
theorem lrg_six {g : Gr} (h : lrgB g = false) : g.nodes.length ≤ 6 ∧ g.edges.length ≤ 8 := by
 unfold lrgB at h
 split at h
 ·cases h
 ·simp at h; omega
theorem exts_few2 {p g : Gr} {x m : Mo} (hp : p.nodes.length ≤ 4 ∧ p.edges.length ≤ 5) (hg : g.nodes.length ≤ 6 ∧ g.edges.length ≤ 8) : (exts p g x m).length ≤ 100000000 := by
 have h := exN_len p g x m p.nodes.length []
 have h1 : g.nodes.length ^ p.nodes.length ≤ 1296 := Nat.le_trans (Nat.pow_le_pow_left hg.1 _) (Nat.le_trans (Nat.pow_le_pow_right (by decide) hp.1) (by decide))
 have h2 : g.edges.length ^ p.edges.length ≤ 32768 := Nat.le_trans (Nat.pow_le_pow_left hg.2 _) (Nat.le_trans (Nat.pow_le_pow_right (by decide) hp.2) (by decide))
 have h3 := Nat.mul_le_mul h1 h2
 have h4 : (exts p g x m).length = (exN p g x m p.nodes.length []).length := rfl
 omega
set_option maxRecDepth 100000 in
theorem subsumesS_c (a b : Co) (ha : a.Fit) (hb : b.Fit) (hs : shpE a = 0 → a.g.nodes.length ≤ 4 ∧ a.g.edges.length ≤ 5) (tok : Tks) (nt : Nat) : DCall Tryz.prog 22 [a.av, b.av] tok nt (.tup [B (subR a b).1, (subR a b).2.1.av, I (subR a b).2.2]) tok nt := by
 intro box nb
 have h1 := shpS_c a ha
 have h2 := shpS_c b hb
 have hv := @shpE_zero a
 have hvb := @shpE_zero b
 obtain ⟨N, hN⟩ : ∃ N, subR a b = N := ⟨_, rfl⟩
 rw [hN]
 unfold subR at hN
 generalize shpE a = S at *
 generalize shpE b = T at *
 refine sB Tryz.func22 Tryz.ntmps22 ?_
 intro hbox htok
 simp only at hbox htok
 apply AL.start
 try (simp)
 repeat (refine sR ?_; simp)
 refine Stop.of_d (h1 _ _) ?_
 simp
 try (simp)
 repeat (refine sR ?_; simp)
 by_cases e1 : S = 0
 ·rw [if_neg (by simp [e1])] at hN
  try (simp [e1])
  repeat (first | (refine sR ?_; simp [e1]) | (refine sC ?_; simp [e1]) | (refine sX ?_; simp only [AU, ↓reduceIte]))
  refine Stop.of_d (h2 _ _) ?_
  simp
  try (simp)
  repeat (refine sR ?_; simp)
  by_cases e2 : T = 0
  ·rw [if_neg (by simp [e2])] at hN
   have hv0 := (hv e1).2.2.1
   have hb0 := lrg_six (hvb e2).2.2.2.1
   have hs0 := hs e1
   have hx := extensions_c a.g b.g mNil mNil ⟨ha.g, hb.g, fit_nilM, validG_edges hv0, Nat.zero_le _, Nat.zero_le _⟩ (by have := exts_few2 (x := mNil) (m := mNil) hs0 hb0; omega)
   have hlen := exts_few2 (p := a.g) (g := b.g) (x := mNil) (m := mNil) hs0 hb0
   have hh := subF_head a.g b.g
   by_cases e3 : a.kind = 1
   ·rw [if_neg (by simp [e3])] at hN
    by_cases e4 : b.kind = 1
    ·rw [if_neg (by simp [e4])] at hN
     have ba : (a.kind != 1) = false := by simp [e3]
     have bb : (b.kind != 1) = false := by simp [e4]
     rw [← hh] at hN
     generalize exts a.g b.g mNil mNil = L at *
     try (simp [e2, ba, bb])
     repeat (first | (refine sR ?_; simp [e2, ba, bb]) | (refine sC ?_; simp [e2, ba, bb]) | (refine sX ?_; simp only [AU, ↓reduceIte]))
     refine Stop.sub (args' := [a.g.av, b.g.av, mNil.av, mNil.av]) ⟨Sub.refl _, Sub.refl _, noMoSub, noMoSub, trivial⟩ ?_
     refine Stop.of_d (hx _ _) ?_
     simp
     cases L with
     | nil =>
      try (simp)
      repeat (first | (refine sR ?_; simp) | (refine sC ?_; simp) | (refine sX ?_; simp only [AU, ↓reduceIte]))
      refine sT ?_
      try simp only [AU]
      refine ⟨by simp, sF hbox htok (fun _ h => h) (Nat.le_refl _) ?_⟩
      simp [packA, ← hN, ints]
     | cons y r =>
      have hl1 : ¬ ((r.length : Int) + 1 = 0) := by omega
      have hl2 : ((r.length : Int) + 1 == 0) = false := by simp [hl1]
      try (simp [hl1, hl2])
      repeat (first | (refine sR ?_; simp [hl1, hl2]) | (refine sC ?_; simp [hl1, hl2]) | (refine sX ?_; simp only [AU, ↓reduceIte]))
      refine sT ?_
      try simp only [AU]
      refine ⟨by simp, sF hbox htok (fun _ h => h) (Nat.le_refl _) ?_⟩
      simp [packA, ← hN]
    ·rw [if_pos e4] at hN
     have ba : (a.kind != 1) = false := by simp [e3]
     have bb : (b.kind != 1) = true := by simp [e4]
     try (simp [e2, ba, bb])
     repeat (first | (refine sR ?_; simp [e2, ba, bb]) | (refine sC ?_; simp [e2, ba, bb]) | (refine sX ?_; simp only [AU, ↓reduceIte]))
     refine sT ?_
     try simp only [AU]
     refine ⟨by simp, sF hbox htok (fun _ h => h) (Nat.le_refl _) ?_⟩
     simp [packA, ← hN, ints]
   ·rw [if_pos e3] at hN
    have ba : (a.kind != 1) = true := by simp [e3]
    try (simp [e2, ba])
    repeat (first | (refine sR ?_; simp [e2, ba]) | (refine sC ?_; simp [e2, ba]) | (refine sX ?_; simp only [AU, ↓reduceIte]))
    refine sT ?_
    try simp only [AU]
    refine ⟨by simp, sF hbox htok (fun _ h => h) (Nat.le_refl _) ?_⟩
    simp [packA, ← hN, ints]
  ·rw [if_pos e2] at hN
   try (simp [e2])
   repeat (first | (refine sR ?_; simp [e2]) | (refine sC ?_; simp [e2]) | (refine sX ?_; simp only [AU, ↓reduceIte]))
   refine sT ?_
   try simp only [AU]
   refine ⟨by simp, sF hbox htok (fun _ h => h) (Nat.le_refl _) ?_⟩
   simp [packA, ← hN, ints]
 ·rw [if_pos e1] at hN
  try (simp [e1])
  repeat (first | (refine sR ?_; simp [e1]) | (refine sC ?_; simp [e1]) | (refine sX ?_; simp only [AU, ↓reduceIte]))
  refine sT ?_
  try simp only [AU]
  refine ⟨by simp, sF hbox htok (fun _ h => h) (Nat.le_refl _) ?_⟩
  simp [packA, ← hN, ints]
end Go.AM
namespace Go.AM
open Go Go.Proofs
def fewL (c : Co) : Bool := if fewC c = true then (if c.g.nodes.length ≤ 4 then (if c.g.edges.length ≤ 5 then true else (shpE c != 0)) else (shpE c != 0)) else false
theorem fewL_spec {c : Co} (h : fewL c = true) : fewC c = true ∧ (shpE c = 0 → c.g.nodes.length ≤ 4 ∧ c.g.edges.length ≤ 5) := by
 unfold fewL at h
 split at h
 ·rename_i h0
  refine ⟨h0, fun hs => ?_⟩
  split at h
  ·split at h
   ·exact ⟨by assumption, by assumption⟩
   ·simp [hs] at h
  ·simp [hs] at h
 ·cases h
theorem fewL_c (c : Co) (hc : c.Big) (tok : Tks) (nt : Nat) : DCall Tryz.prog 20 [c.av] tok nt (B (fewL c)) tok nt := by
 intro box nb
 have h2 := few42_c c hc
 unfold fewL
 cases e2 : fewC c
 ·refine sB Tryz.func20 Tryz.ntmps20 ?_
  intro hbox htok
  simp only at hbox htok
  apply AL.start
  try (simp)
  repeat (first | (refine sR ?_; simp) | (refine sC ?_; simp) | (refine sX ?_; simp only [AU, ↓reduceIte]))
  refine Stop.of_d (h2 _ _) ?_
  simp
  try (simp [e2])
  repeat (first | (refine sR ?_; simp [e2]) | (refine sC ?_; simp [e2]) | (refine sX ?_; simp only [AU, ↓reduceIte]))
  refine sT ?_
  try simp only [AU]
  refine ⟨by simp, sF hbox htok (fun _ h => h) (Nat.le_refl _) ?_⟩
  simp [packA]
 ·obtain ⟨fc, _⟩ := fewC_fit e2
  have f1 := shpS_c c fc
  generalize shpE c = S at *
  by_cases n4 : c.g.nodes.length ≤ 4
  ·have n4' : (c.g.nodes.length : Int) ≤ 4 := by omega
   by_cases n5 : c.g.edges.length ≤ 5
   ·have n5' : (c.g.edges.length : Int) ≤ 5 := by omega
    refine sB Tryz.func20 Tryz.ntmps20 ?_
    intro hbox htok
    simp only at hbox htok
    apply AL.start
    try (simp)
    repeat (first | (refine sR ?_; simp) | (refine sC ?_; simp) | (refine sX ?_; simp only [AU, ↓reduceIte]))
    refine Stop.of_d (h2 _ _) ?_
    simp
    try (simp [e2, n4, n4', n5, n5'])
    repeat (first | (refine sR ?_; simp [e2, n4, n4', n5, n5']) | (refine sC ?_; simp [e2, n4, n4', n5, n5']) | (refine sX ?_; simp only [AU, ↓reduceIte]))
    refine sT ?_
    try simp only [AU]
    refine ⟨by simp, sF hbox htok (fun _ h => h) (Nat.le_refl _) ?_⟩
    simp [packA, n4, n5]
   ·have n5' : ¬ (c.g.edges.length : Int) ≤ 5 := by omega
    refine sB Tryz.func20 Tryz.ntmps20 ?_
    intro hbox htok
    simp only at hbox htok
    apply AL.start
    try (simp)
    repeat (first | (refine sR ?_; simp) | (refine sC ?_; simp) | (refine sX ?_; simp only [AU, ↓reduceIte]))
    refine Stop.of_d (h2 _ _) ?_
    simp
    try (simp [e2, n4, n4', n5, n5'])
    repeat (first | (refine sR ?_; simp [e2, n4, n4', n5, n5']) | (refine sC ?_; simp [e2, n4, n4', n5, n5']) | (refine sX ?_; simp only [AU, ↓reduceIte]))
    refine Stop.of_d (f1 _ _) ?_
    simp
    try (simp)
    repeat (first | (refine sR ?_; simp) | (refine sC ?_; simp) | (refine sX ?_; simp only [AU, ↓reduceIte]))
    refine sT ?_
    try simp only [AU]
    refine ⟨by simp, sF hbox htok (fun _ h => h) (Nat.le_refl _) ?_⟩
    simp [packA, n4, n5]
  ·have n4' : ¬ (c.g.nodes.length : Int) ≤ 4 := by omega
   refine sB Tryz.func20 Tryz.ntmps20 ?_
   intro hbox htok
   simp only at hbox htok
   apply AL.start
   try (simp)
   repeat (first | (refine sR ?_; simp) | (refine sC ?_; simp) | (refine sX ?_; simp only [AU, ↓reduceIte]))
   refine Stop.of_d (h2 _ _) ?_
   simp
   try (simp [e2, n4, n4'])
   repeat (first | (refine sR ?_; simp [e2, n4, n4']) | (refine sC ?_; simp [e2, n4, n4']) | (refine sX ?_; simp only [AU, ↓reduceIte]))
   refine Stop.of_d (f1 _ _) ?_
   simp
   try (simp)
   repeat (first | (refine sR ?_; simp) | (refine sC ?_; simp) | (refine sX ?_; simp only [AU, ↓reduceIte]))
   refine sT ?_
   try simp only [AU]
   refine ⟨by simp, sF hbox htok (fun _ h => h) (Nat.le_refl _) ?_⟩
   simp [packA, n4]
theorem subR_fit (a b : Co) : (subR a b).2.1.Fit := by
 unfold subR
 split
 ·exact fit_nilM
 ·rename_i h1
  split
  ·exact fit_nilM
  ·rename_i h2
   split
   ·exact fit_nilM
   ·split
    ·exact fit_nilM
    ·have ga := (shpE_zero (Decidable.not_not.1 h1)).2.2
     have gb := (shpE_zero (Decidable.not_not.1 h2)).2.2
     have la := lrg_six ga.2.1
     cases h : subF a.g b.g with
     | none => exact fit_nilM
     | some m => exact emb_fit (exts_emb ga.1 gb.1 (List.mem_of_head? ((subF_head a.g b.g).trans h))) (by omega) (by omega)
set_option maxRecDepth 100000 in
theorem lawCSubsumes_c (a b : Co) (ha : a.Big) (hb : b.Big) (tok : Tks) (nt : Nat) : DCall Tryz.prog 4 [a.av, b.av] tok nt (B true) tok nt := by
 intro box nb
 have hw := awake42_c
 have h1 := fewL_c a ha
 have h2 := few42_c b hb
 refine sB Tryz.func4 Tryz.ntmps4 ?_
 intro hbox htok
 simp only at hbox htok
 apply AL.start
 try (simp)
 repeat (refine sR ?_; simp)
 refine Stop.of_d (hw _ _) ?_
 simp
 try (simp)
 repeat (refine sR ?_; simp)
 refine Stop.of_d (h1 _ _) ?_
 simp
 cases e1 : fewL a
 ·try (simp)
  repeat (first | (refine sR ?_; simp) | (refine sC ?_; simp) | (refine sX ?_; simp only [AU, ↓reduceIte]))
  refine Stop.of_d (hw _ _) ?_
  simp
  try (simp)
  repeat (first | (refine sR ?_; simp) | (refine sC ?_; simp) | (refine sX ?_; simp only [AU, ↓reduceIte]))
  refine sT ?_
  try simp only [AU]
  refine ⟨by simp, sF hbox htok (fun _ h => h) (Nat.le_refl _) ?_⟩
  simp [packA]
 ·try (simp)
  repeat (first | (refine sR ?_; simp) | (refine sC ?_; simp) | (refine sX ?_; simp only [AU, ↓reduceIte]))
  refine Stop.of_d (h2 _ _) ?_
  simp
  cases e2 : fewC b
  ·try (simp)
   repeat (first | (refine sR ?_; simp) | (refine sC ?_; simp) | (refine sX ?_; simp only [AU, ↓reduceIte]))
   refine Stop.of_d (hw _ _) ?_
   simp
   try (simp)
   repeat (first | (refine sR ?_; simp) | (refine sC ?_; simp) | (refine sX ?_; simp only [AU, ↓reduceIte]))
   refine sT ?_
   try simp only [AU]
   refine ⟨by simp, sF hbox htok (fun _ h => h) (Nat.le_refl _) ?_⟩
   simp [packA]
  ·obtain ⟨k1, k2⟩ := fewL_spec e1
   obtain ⟨fa, _⟩ := fewC_fit k1
   obtain ⟨fb, _⟩ := fewC_fit e2
   have f1 := subsumesK_c a b fa fb
   have f2 := subsumesS_c a b fa fb k2
   have hfit := subR_fit a b
   generalize subR a b = L at *
   have f3 := same06_c L.2.1 L.2.1 hfit
   try (simp)
   repeat (first | (refine sR ?_; simp) | (refine sC ?_; simp) | (refine sX ?_; simp only [AU, ↓reduceIte]))
   refine Stop.of_d (f1 _ _) ?_
   simp
   try (simp)
   repeat (first | (refine sR ?_; simp) | (refine sC ?_; simp) | (refine sX ?_; simp only [AU, ↓reduceIte]))
   refine Stop.of_d (f2 _ _) ?_
   simp
   try (simp)
   repeat (first | (refine sR ?_; simp) | (refine sC ?_; simp) | (refine sX ?_; simp only [AU, ↓reduceIte]))
   refine Stop.of_d (f3 _ _) ?_
   simp
   try (simp)
   repeat (first | (refine sR ?_; simp) | (refine sC ?_; simp) | (refine sX ?_; simp only [AU, ↓reduceIte]))
   refine sT ?_
   try simp only [AU]
   refine ⟨by simp, sF hbox htok (fun _ h => h) (Nat.le_refl _) ?_⟩
   simp [packA]
end Go.AM
namespace Go.AM
open Go Go.Proofs Go.ChangeShapes
end Go.AM
namespace Go.AM
end Go.AM
