import Derived.Test.YtbihadcpidlfoaaGreatPSS6
/-
  shift.extender: node and edge.
-/
namespace Go.AM
open Go Go.Proofs
set_option linter.unusedSimpArgs false
set_option linter.unusedVariables false

/-- What the extender finds in an edge's place, and what it wants there. -/
def wantX (p : Gr) (N : List Int) (i : Nat) : E := ⟨(p.edges.getD i default).ty, N.getD (p.edges.getD i default).fr.toNat 0, N.getD (p.edges.getD i default).to.toNat 0⟩
def edgeB (p g : Gr) (acc : Mo → Bool) (N : List Int) : Nat → List Int → Bool
  | 0, Es => acc ⟨N, Es⟩
  | n + 1, Es => if 0 ≤ Es.getD (p.edges.length - (n + 1)) 0 then edgeB p g acc N n Es
    else (List.range g.edges.length).any fun k => decide (g.edges.getD k default = wantX p N (p.edges.length - (n + 1))) && !decide ((k : Int) ∈ Es) && edgeB p g acc N n (Es.set (p.edges.length - (n + 1)) k)

abbrev exRow (p g : Gr) (kn n ke m : Nat) (f : FuncId) (caps : List AV) : List AV := [.d (ints p.nodes), .d (AM.edges p.edges), .d (ints g.nodes), .d (AM.edges g.edges), .msl kn 0 n 1, .msl ke 0 m 1, .fn (.func f) caps]

theorem cloneN_c (xs : List Int) {n : Nat} (hn : n = xs.length) (hx : xs.length ≤ 1000000) {box : Nat → Option (List (List AV))} {k : Nat} (hk : box k = some (rowsI xs)) (tok : Nat → Bool) (nt : Nat) :
    RCall Tryz.prog 85 [.msl k 0 n 1] box tok nt (.d (ints xs)) tok nt := by subst hn; exact cloneM_c xs hx box k hk tok nt
theorem containsN_c (xs : List Int) (v : Int) {n : Nat} (hn : n = xs.length) (hx : xs.length ≤ 1000000) {box : Nat → Option (List (List AV))} {k : Nat} (hk : box k = some (rowsI xs)) (tok : Nat → Bool) (nt : Nat) :
    RCall Tryz.prog 73 [.msl k 0 n 1, I v] box tok nt (B (decide (v ∈ xs))) tok nt := by subst hn; exact containsM_c xs v hx box k hk tok nt

/-- The extender's boxes. -/
structure ExH (p g : Gr) (f : FuncId) (caps : List AV) (kx kn ke : Nat) (E0 : Nat → Option (List (List AV))) (N Es : List Int) (box : Nat → Option (List (List AV))) : Prop where
  ext : Ext E0 box
  x : box kx = some [exRow p g kn p.nodes.length ke p.edges.length f caps]
  n : box kn = some (rowsI N)
  e : box ke = some (rowsI Es)
  nl : N.length = p.nodes.length
  el : Es.length = p.edges.length

structure ExF (p g : Gr) (kx kn ke : Nat) (E0 : Nat → Option (List (List AV))) : Prop where
  fp : p.Fit
  fg : g.Fit
  pv : ∀ e ∈ p.edges, 0 ≤ e.fr ∧ e.fr < p.nodes.length ∧ 0 ≤ e.to ∧ e.to < p.nodes.length
  ne : kn ≠ ke
  nx : kn ≠ kx
  ex : ke ≠ kx
  e0 : E0 ke = none
  n0 : E0 kn = none

theorem ExH.setE {p g : Gr} {f : FuncId} {caps : List AV} {kx kn ke : Nat} {E0 : Nat → Option (List (List AV))} {N Es E' : List Int} {box : Nat → Option (List (List AV))} (hf : ExF p g kx kn ke E0) (h : ExH p g f caps kx kn ke E0 N Es box) (hl : E'.length = Es.length) :
    ExH p g f caps kx kn ke E0 N E' (upd box ke (some (rowsI E'))) := by
  refine ⟨fun k r hk => ?_, ?_, ?_, upd_same _ _ _, h.nl, hl.trans h.el⟩
  · rw [upd_other _ _ (fun e => by rw [e, hf.e0] at hk; cases hk)]; exact h.ext k r hk
  · rw [upd_other _ _ (Ne.symm hf.ex)]; exact h.x
  · rw [upd_other _ _ hf.ne]; exact h.n

def QEd (b : Bool) (Es : List Int) (ke : Nat) (box : Nat → Option (List (List AV))) (nb : Nat) (tok : Nat → Bool) (nt : Nat) (v : AV) (m : AMem) : Prop :=
  v = B b ∧ ∃ E' : List Int, E'.length = Es.length ∧ (b = false → E' = Es) ∧ m = ⟨upd box ke (some (rowsI E')), nb, tok, nt⟩

theorem outI {box : Nat → Option (List (List AV))} {ke base : Nat} {E' : List Int} {p q : Nat → Prop} : ∀ k rows, k < base → (upd box ke (some (rowsI E'))) k = some rows → box k = some rows ∨ ∀ r ∈ rows, ∀ x ∈ r, OkIn p q x := by
  intro k rows _ hr
  by_cases e : k = ke
  · subst e
    rw [upd_same] at hr
    cases hr
    refine .inr fun r hr x hx => ?_
    obtain ⟨n, _, rfl⟩ := List.mem_map.1 hr
    rw [List.mem_singleton] at hx
    subst hx
    exact .d
  · rw [upd_other _ _ e] at hr
    exact .inl hr

theorem ExH.lb {p g : Gr} {f : FuncId} {caps : List AV} {kx kn ke nb : Nat} {E0 : Nat → Option (List (List AV))} {N Es : List Int} {box : Nat → Option (List (List AV))} (h : ExH p g f caps kx kn ke E0 N Es box) (hb : lb nb box [] = box) (loc : List (Nat × List (List AV))) :
    ExH p g f caps kx kn ke E0 N Es (AM.lb nb box loc) :=
  ⟨Ext.lb h.ext hb loc, by rw [lb_out (key_lt hb h.x)]; exact h.x, by rw [lb_out (key_lt hb h.n)]; exact h.n, by rw [lb_out (key_lt hb h.e)]; exact h.e, h.nl, h.el⟩

def candE (p g : Gr) (acc : Mo → Bool) (N : List Int) (r i : Nat) (Es : List Int) (k : Nat) : Bool :=
  decide (g.edges.getD k default = wantX p N i) && !decide ((k : Int) ∈ Es) && edgeB p g acc N r (Es.set i k)
theorem edgeB_no {p g : Gr} {acc : Mo → Bool} {N : List Int} {r i : Nat} {Es : List Int} (hi : p.edges.length - (r + 1) = i) (h0 : ¬ 0 ≤ Es.getD i 0) (h : ∀ j, j < g.edges.length → candE p g acc N r i Es j = false) : edgeB p g acc N (r + 1) Es = false := by
  rw [edgeB, hi, if_neg h0, List.any_eq_false]
  intro j hj
  have := h j (by simpa using hj)
  unfold candE at this
  rw [this]; simp
theorem edgeB_yes {p g : Gr} {acc : Mo → Bool} {N : List Int} {r i : Nat} {Es : List Int} (hi : p.edges.length - (r + 1) = i) (h0 : ¬ 0 ≤ Es.getD i 0) {j : Nat} (hj : j < g.edges.length) (h : candE p g acc N r i Es j = true) : edgeB p g acc N (r + 1) Es = true := by
  rw [edgeB, hi, if_neg h0, List.any_eq_true]
  exact ⟨j, by simpa using hj, h⟩

def NonN (l : List Int) (i : Nat) : Prop := ∀ j, j < i → 0 ≤ l.getD j 0
theorem NonN.succ {l : List Int} {i : Nat} (h : NonN l i) (hi : i < l.length) (h0 : 0 ≤ l[i]) : NonN l (i + 1) := fun j hj => by
  by_cases e : j = i
  · subst e; simpa [hi] using h0
  · exact h j (by omega)
theorem NonN.set {l : List Int} {i : Nat} (h : NonN l i) (hi : i < l.length) (k : Nat) : NonN (l.set i k) (i + 1) := fun j hj => by
  by_cases e : j = i
  · subst e; simp [hi]
  · have := h j (by omega)
    simpa [List.getD, List.getElem?_set, Ne.symm e] using this
theorem NonN.all {l : List Int} {i : Nat} (h : NonN l i) (hi : i = l.length) : ∀ x ∈ l, 0 ≤ x := fun x hx => by
  obtain ⟨j, hj, rfl⟩ := List.getElem_of_mem hx
  have := h j (by omega)
  simpa [hj] using this

def stEd (g : Gr) (W : E) (kx i : Nat) (nb : Nat) (box : Nat → Option (List (List AV))) (tok : Nat → Bool) (nt : Nat) (k : Nat) : AState :=
  ⟨tl [(76, .d (AM.edges g.edges)), (77, I g.edges.length), (78, I k), (6, .ptr (nb + 6) 0 0), (0, .ptr kx 0 0), (1, I i)], lb nb box [(6, [[I W.ty, I W.fr, I W.to]])], tok, nt⟩

theorem edge86_c (p g : Gr) (acc : Mo → Bool) (N : List Int) (f : FuncId) (caps : List AV) (kx kn ke : Nat) (E0 : Nat → Option (List (List AV))) (hf : ExF p g kx kn ke E0)
    (hcap : ∀ c ∈ caps, OkIn (fun k => E0 k ≠ none) (fun _ => True) c)
    (hacc : ∀ (q : Mo) box nb tok nt, Ext E0 box → q.nodes.length = p.nodes.length → q.edges.length = p.edges.length → (∀ x ∈ q.nodes, 0 ≤ x) → (∀ x ∈ q.edges, 0 ≤ x) → ACalls Tryz.prog f (q.av :: caps) ⟨box, nb, tok, nt⟩ fun v m => v = B (acc q) ∧ m = ⟨box, nb, tok, nt⟩) (hN : ∀ x ∈ N, 0 ≤ x) :
    ∀ (r i : Nat), i + r = p.edges.length → ∀ (Es : List Int) (box : Nat → Option (List (List AV))) (nb : Nat) (tok : Nat → Bool) (nt : Nat), ExH p g f caps kx kn ke E0 N Es box → (∀ x ∈ Es, x < 0 → x = -1) → NonN Es i →
      ACalls Tryz.prog 72 [.ptr kx 0 0, I i] ⟨box, nb, tok, nt⟩ (QEd (edgeB p g acc N r Es) Es ke box nb tok nt)
  | 0, i, hir, Es, box, nb, tok, nt, h, hm, hnn => by
    refine ACalls.of_body Tryz.func72 rfl (by kernel_rfl) follows_Tryz (by kernel_rfl) (by simp [Tryz.ntmps72]) ?_
    intro hbox htok
    simp only at hbox htok
    apply AL.start
    have kxn := key_lt hbox h.x
    have knn := key_lt hbox h.n
    have ken := key_lt hbox h.e
    have hx := h.x
    have hn := h.n
    have he := h.e
    have hb1 : ((i : Int) == p.edges.length) = true := by rw [show i = p.edges.length by omega]; simp
    have hN1 := hf.fp.n
    have hE1 := hf.fp.e
    repeat (first | refine AL.seq ?_ | refine AL.block ?_ | refine AL.skip ?_ | refine AL.blk ?_)
    refine AL.region follows_Tryz (Nat.le_refl _) (by kernel_rfl) ?_
    simp
    repeat (first | refine AL.seq ?_ | refine AL.block ?_ | refine AL.skip ?_ | refine AL.blk ?_)
    refine AL.region follows_Tryz (Nat.le_refl _) (by kernel_rfl) ?_
    simp [lb_out kxn, hx, hb1]
    repeat (first | refine AL.seq ?_ | refine AL.block ?_ | refine AL.skip ?_ | refine AL.blk ?_)
    refine AL.cond ?_
    simp
    repeat (first | refine AL.seq ?_ | refine AL.block ?_ | refine AL.skip ?_ | refine AL.blk ?_)
    refine AL.region follows_Tryz (Nat.le_refl _) (by kernel_rfl) ?_
    simp [lb_out kxn, hx]
    refine Stop.of_r (cloneN_c N h.nl.symm (by rw [h.nl]; exact hN1) (by simp only; rw [lb_out knn]; exact hn) _ _) ?_
    simp [lb_out kxn, hx]
    refine Stop.of_r (cloneN_c Es h.el.symm (by rw [h.el]; exact hE1) (by simp only; rw [lb_out ken]; exact he) _ _) ?_
    simp [lb_out kxn, hx]
    refine Stop.of_r (v := B (acc ⟨N, Es⟩)) (fun box' nb' hb' => hacc ⟨N, Es⟩ box' nb' _ _ (h.ext.trans (by rw [hbox] at hb'; exact hb')) h.nl h.el hN (hnn.all (by rw [h.el]; omega))) ?_
    simp [lb_out kxn, hx]
    repeat (first | refine AL.seq ?_ | refine AL.block ?_ | refine AL.skip ?_ | refine AL.blk ?_)
    refine AL.ret ?_
    try simp only [AU]
    refine ⟨by simp, (Fin.data (av := B (acc ⟨N, Es⟩)) (by simp [resAs, resA]; rfl) hbox rfl htok (fun _ h => h) (Nat.le_refl _) (by simp [packA])).mono fun v m hq => ⟨hq.1, Es, rfl, fun _ => rfl, ?_⟩⟩
    rw [hq.2, upd_self _ _ _ he]
  | r + 1, i, hir, Es, box, nb, tok, nt, h, hm, hnn => by
    have ih := edge86_c p g acc N f caps kx kn ke E0 hf hcap hacc hN r (i + 1) (by omega)
    refine ACalls.of_body Tryz.func72 rfl (by kernel_rfl) follows_Tryz (by kernel_rfl) (by simp [Tryz.ntmps72]) ?_
    intro hbox htok
    simp only at hbox htok
    apply AL.start
    have kxn := key_lt hbox h.x
    have knn := key_lt hbox h.n
    have ken := key_lt hbox h.e
    have hx := h.x
    have hn := h.n
    have he := h.e
    have hL : ExH p g f caps kx kn ke E0 N Es (lb nb box []) := by rw [hbox]; exact h
    have hb1 : ((i : Int) == p.edges.length) = false := by simp; omega
    have hip : i < p.edges.length := by omega
    have hiE : i < Es.length := by rw [h.el]; exact hip
    have hw : IntKind.i64.wrap (↑i + 1) = ((i + 1 : Nat) : Int) := by have := hf.fp.e; rw [wrap_in (by omega) (by omega)]; rfl
    have hN1 := hf.fp.n
    have hE1 := hf.fp.e
    have hsub : p.edges.length - (r + 1) = i := by omega
    repeat (first | refine AL.seq ?_ | refine AL.block ?_ | refine AL.skip ?_ | refine AL.blk ?_)
    refine AL.region follows_Tryz (Nat.le_refl _) (by kernel_rfl) ?_
    simp
    repeat (first | refine AL.seq ?_ | refine AL.block ?_ | refine AL.skip ?_ | refine AL.blk ?_)
    refine AL.region follows_Tryz (Nat.le_refl _) (by kernel_rfl) ?_
    simp [lb_out kxn, hx, hb1]
    repeat (first | refine AL.seq ?_ | refine AL.block ?_ | refine AL.skip ?_ | refine AL.blk ?_)
    refine AL.cond ?_
    simp
    repeat (first | refine AL.seq ?_ | refine AL.block ?_ | refine AL.skip ?_ | refine AL.blk ?_)
    refine AL.region follows_Tryz (Nat.le_refl _) (by kernel_rfl) ?_
    simp [lb_out kxn, hx, lb_out ken, he, hiE, hip]
    by_cases h0 : 0 ≤ Es[i]
    · simp [h0]
      repeat (first | refine AL.seq ?_ | refine AL.block ?_ | refine AL.skip ?_ | refine AL.blk ?_)
      refine AL.cond ?_
      simp
      repeat (first | refine AL.seq ?_ | refine AL.block ?_ | refine AL.skip ?_ | refine AL.blk ?_)
      refine AL.region follows_Tryz (Nat.le_refl _) (by kernel_rfl) ?_
      simp [hw]
      refine Stop.of_a (ih Es _ _ _ _ hL hm (hnn.succ hiE h0)) ?_
      rintro v m ⟨rfl, E', hl, hE', rfl⟩
      simp [upd_lb_out ken]
      repeat (first | refine AL.seq ?_ | refine AL.block ?_ | refine AL.skip ?_ | refine AL.blk ?_)
      refine AL.ret ?_
      try simp only [AU]
      have hR : edgeB p g acc N (r + 1) Es = edgeB p g acc N r Es := by
        rw [edgeB, hsub, if_pos (by simpa [hiE] using h0)]
      refine ⟨by simp, (Fin.gen (av := B (edgeB p g acc N r Es)) (tok' := tok) (nt' := nt) (by simp [resAs, resA]; rfl) (by rw [← upd_lb_out ken, hbox]) (Nat.le_refl _) (Nat.le_refl _) (fun t ht => ⟨ht, .inl rfl⟩) outI (by simp [packA])).mono fun v m hq => ⟨by rw [hR]; exact hq.1, E', hl, by rw [hR]; exact hE', hq.2⟩⟩
    · simp [h0]
      repeat (first | refine AL.seq ?_ | refine AL.block ?_ | refine AL.skip ?_ | refine AL.blk ?_)
      refine AL.cond ?_
      simp
      obtain ⟨x1, x2, x3, x4⟩ := hf.pv _ (List.getElem_mem hip)
      have y1 : p.edges[i].fr.toNat < N.length := by rw [h.nl]; omega
      have y2 : p.edges[i].to.toNat < N.length := by rw [h.nl]; omega
      have z2 : p.edges[i].fr < (p.nodes.length : Int) := x2
      have z4 : p.edges[i].to < (p.nodes.length : Int) := x4
      repeat (first | refine AL.seq ?_ | refine AL.block ?_ | refine AL.skip ?_ | refine AL.blk ?_)
      refine AL.region follows_Tryz (Nat.le_refl _) (by kernel_rfl) ?_
      simp [lb_out kxn, hx, hip]
      repeat (first | refine AL.seq ?_ | refine AL.block ?_ | refine AL.skip ?_ | refine AL.blk ?_)
      refine AL.region follows_Tryz (Nat.le_refl _) (by kernel_rfl) ?_
      simp [lb_out kxn, hx, hip, lb_out knn, hn, x1, x2, x3, x4, y1, y2]
      repeat (first | refine AL.seq ?_ | refine AL.block ?_ | refine AL.skip ?_ | refine AL.blk ?_)
      refine AL.region follows_Tryz (Nat.le_refl _) (by kernel_rfl) ?_
      simp [lb_out kxn, hx]
      repeat (first | refine AL.seq ?_ | refine AL.block ?_ | refine AL.skip ?_ | refine AL.blk ?_)
      have hW1 : (wantX p N i).ty = p.edges[i].ty := by simp [wantX, hip]
      have hW2 : (wantX p N i).fr = N[p.edges[i].fr.toNat] := by simp [wantX, hip, y1]
      have hW3 : (wantX p N i).to = N[p.edges[i].to.toNat] := by simp [wantX, hip, y2]
      have hno := edgeB_no (g := g) (acc := acc) (N := N) (Es := Es) hsub (by simpa [hiE] using h0)
      have hyes := fun j hj => edgeB_yes (g := g) (acc := acc) (N := N) (Es := Es) (j := j) hsub (by simpa [hiE] using h0) hj
      have hmi : Es[i] = -1 := hm _ (List.getElem_mem hiE) (by omega)
      refine AL.loopT (stEd g (wantX p N i) kx i nb box tok nt) (fun k => k ≤ g.edges.length ∧ ∀ j, j < k → candE p g acc N r i Es j = false) (fun k => g.edges.length - k) 0 ⟨Nat.zero_le _, fun j hj => absurd hj (Nat.not_lt_zero _)⟩ (Weaks.mk (Nat.le_refl _) rfl (by simp [ToL, lk]; exact to_ptr (by rw [lb_out kxn, hx]; simp)) (by simp [BoxL, lk, hW1, hW2, hW3])) ?_
      rintro k S ⟨hk, hall⟩ hS
      simp only [stEd] at hS
      subst hS
      obtain ⟨W, hWd⟩ : ∃ W, wantX p N i = W := ⟨_, rfl⟩
      rw [hWd] at hW1 hW2 hW3
      rw [hWd]
      have hge := hf.fg.e
      have hwk : IntKind.i64.wrap (↑k + 1) = ((k + 1 : Nat) : Int) := by rw [wrap_in (by omega) (by omega)]; rfl
      repeat (first | refine AL.seq ?_ | refine AL.block ?_ | refine AL.skip ?_ | refine AL.blk ?_)
      refine AL.region follows_Tryz (Nat.le_refl _) (by kernel_rfl) ?_
      simp
      repeat (first | refine AL.seq ?_ | refine AL.block ?_ | refine AL.skip ?_ | refine AL.blk ?_)
      refine AL.cond ?_
      simp
      refine ⟨fun hlt => ?_, fun hgek => ?_⟩
      · have hg1 : g.edges.getD k default = g.edges[k] := by simp [hlt]
        have hcand : candE p g acc N r i Es k = (decide (g.edges[k] = W) && !decide ((k : Int) ∈ Es) && edgeB p g acc N r (Es.set i k)) := by
          unfold candE; rw [hg1, hWd]
        repeat (first | refine AL.seq ?_ | refine AL.block ?_ | refine AL.skip ?_ | refine AL.blk ?_)
        refine AL.region follows_Tryz (Nat.le_refl _) (by kernel_rfl) ?_
        simp [hlt]
        generalize g.edges[k] = z at *
        repeat (first | refine AL.seq ?_ | refine AL.block ?_ | refine AL.skip ?_ | refine AL.blk ?_)
        refine AL.region follows_Tryz (Nat.le_refl _) (by kernel_rfl) ?_
        simp [E.eq_and]
        by_cases hz : z = W
        · simp [hz, lb_out kxn, hx]
          refine Stop.of_r (containsN_c Es k h.el.symm (by rw [h.el]; exact hE1) (by simp only; rw [lb_out ken]; exact he) _ _) ?_
          by_cases hk' : (k : Int) ∈ Es
          · simp [hk']
            repeat (first | refine AL.seq ?_ | refine AL.block ?_ | refine AL.skip ?_ | refine AL.blk ?_)
            refine AL.cond ?_
            simp
            repeat (first | refine AL.seq ?_ | refine AL.block ?_ | refine AL.skip ?_ | refine AL.blk ?_)
            refine AL.exit ?_
            simp only [AU, ↓reduceIte]
            repeat (first | refine AL.seq ?_ | refine AL.block ?_ | refine AL.skip ?_ | refine AL.blk ?_)
            refine AL.region follows_Tryz (Nat.le_refl _) (by kernel_rfl) ?_
            simp [hwk]
            repeat (first | refine AL.seq ?_ | refine AL.block ?_ | refine AL.skip ?_ | refine AL.blk ?_)
            refine AL.nil ?_
            refine ⟨k + 1, ⟨hlt, fun j hj => ?_⟩, by omega, Weaks.mk (Nat.le_refl _) rfl (by simp [ToL, lk]; exact to_ptr (by rw [lb_out kxn, hx]; simp)) (by simp [BoxL, lk])⟩
            by_cases e : j = k
            · subst e; rw [hcand]; simp [hk']
            · exact hall j (by omega)
          · simp [hk']
            repeat (first | refine AL.seq ?_ | refine AL.block ?_ | refine AL.skip ?_ | refine AL.blk ?_)
            refine AL.cond ?_
            simp
            have hle : (Es.set i k).length = Es.length := by simp
            have hH2 := h.setE hf hle
            have hbox2 : AM.lb nb (upd box ke (some (rowsI (Es.set i k)))) [] = upd box ke (some (rowsI (Es.set i k))) := by rw [← upd_lb_out ken, hbox]
            have hm2 : ∀ x ∈ Es.set i (k : Int), x < 0 → x = -1 := fun x hx hneg => by
              rcases List.mem_or_eq_of_mem_set hx with h1 | h1
              · exact hm x h1 hneg
              · omega
            repeat (first | refine AL.seq ?_ | refine AL.block ?_ | refine AL.skip ?_ | refine AL.blk ?_)
            refine AL.region follows_Tryz (Nat.le_refl _) (by kernel_rfl) ?_
            simp [lb_out kxn, hx, hip, hiE, lb_out ken, he, upd_lb_out ken]
            repeat (first | refine AL.seq ?_ | refine AL.block ?_ | refine AL.skip ?_ | refine AL.blk ?_)
            refine AL.region follows_Tryz (Nat.le_refl _) (by kernel_rfl) ?_
            simp [hw]
            refine Stop.of_a (ih (Es.set i k) _ _ _ _ (hH2.lb hbox2 _) hm2 (hnn.set hiE k)) ?_
            rintro v m ⟨rfl, E', hl, hE', rfl⟩
            simp [upd_lb_out ken, upd_upd]
            have hl' : E'.length = Es.length := by rw [hl]; simp
            have hx2 : (upd box ke (some (rowsI E'))) kx = box kx := upd_other _ _ (Ne.symm hf.ex)
            by_cases hr : edgeB p g acc N r (Es.set i k) = true
            · have hR := hyes k hlt (by rw [hcand, hr]; simp [hz, hk'])
              simp [hr]
              repeat (first | refine AL.seq ?_ | refine AL.block ?_ | refine AL.skip ?_ | refine AL.blk ?_)
              refine AL.cond ?_
              simp
              repeat (first | refine AL.seq ?_ | refine AL.block ?_ | refine AL.skip ?_ | refine AL.blk ?_)
              refine AL.region follows_Tryz (Nat.le_refl _) (by kernel_rfl) ?_
              simp
              repeat (first | refine AL.seq ?_ | refine AL.block ?_ | refine AL.skip ?_ | refine AL.blk ?_)
              refine AL.ret ?_
              try simp only [AU]
              refine ⟨by simp, (Fin.gen (av := B true) (tok' := tok) (nt' := nt) (by simp [resAs, resA]; rfl) (by rw [← upd_lb_out ken, hbox]) (Nat.le_refl _) (Nat.le_refl _) (fun t ht => ⟨ht, .inl rfl⟩) outI (by simp [packA])).mono fun v m hq => ⟨by rw [hR]; exact hq.1, E', hl', by rw [hR]; simp, hq.2⟩⟩
            · have hr' : edgeB p g acc N r (Es.set i k) = false := by simpa using hr
              have hEE := hE' hr'
              have hback : (E'.set i (-1)) = Es := by
                rw [hEE, List.set_set, ← hmi, List.set_getElem_self]
              have hiE' : i < E'.length := by rw [hl']; exact hiE
              simp [hr']
              repeat (first | refine AL.seq ?_ | refine AL.block ?_ | refine AL.skip ?_ | refine AL.blk ?_)
              refine AL.cond ?_
              simp
              repeat (first | refine AL.seq ?_ | refine AL.block ?_ | refine AL.skip ?_ | refine AL.blk ?_)
              refine AL.region follows_Tryz (Nat.le_refl _) (by kernel_rfl) ?_
              simp [lb_out kxn, hx2, hx, hip, hiE', lb_out ken, upd_same, upd_lb_out ken, upd_upd, hback, upd_self _ _ _ he]
              repeat (first | refine AL.seq ?_ | refine AL.block ?_ | refine AL.skip ?_ | refine AL.blk ?_)
              refine AL.region follows_Tryz (Nat.le_refl _) (by kernel_rfl) ?_
              simp [hwk]
              repeat (first | refine AL.seq ?_ | refine AL.block ?_ | refine AL.skip ?_ | refine AL.blk ?_)
              refine AL.nil ?_
              refine ⟨k + 1, ⟨hlt, fun j hj => ?_⟩, by omega, Weaks.mk (Nat.le_refl _) rfl (by simp [ToL, lk]; exact to_ptr (by rw [lb_out kxn, hx]; simp)) (by simp [BoxL, lk])⟩
              by_cases e : j = k
              · subst e; rw [hcand, hr']; simp
              · exact hall j (by omega)
        · simp [hz]
          repeat (first | refine AL.seq ?_ | refine AL.block ?_ | refine AL.skip ?_ | refine AL.blk ?_)
          refine AL.cond ?_
          simp
          repeat (first | refine AL.seq ?_ | refine AL.block ?_ | refine AL.skip ?_ | refine AL.blk ?_)
          refine AL.exit ?_
          simp only [AU, ↓reduceIte]
          repeat (first | refine AL.seq ?_ | refine AL.block ?_ | refine AL.skip ?_ | refine AL.blk ?_)
          refine AL.region follows_Tryz (Nat.le_refl _) (by kernel_rfl) ?_
          simp [hwk]
          repeat (first | refine AL.seq ?_ | refine AL.block ?_ | refine AL.skip ?_ | refine AL.blk ?_)
          refine AL.nil ?_
          refine ⟨k + 1, ⟨hlt, fun j hj => ?_⟩, by omega, Weaks.mk (Nat.le_refl _) rfl (by simp [ToL, lk]; exact to_ptr (by rw [lb_out kxn, hx]; simp)) (by simp [BoxL, lk])⟩
          by_cases e : j = k
          · subst e; rw [hcand]; simp [hz]
          · exact hall j (by omega)
      · repeat (first | refine AL.seq ?_ | refine AL.block ?_ | refine AL.skip ?_ | refine AL.blk ?_)
        refine AL.exit ?_
        simp only [AU, ↓reduceIte]
        have hR := hno fun j hj => hall j (by omega)
        repeat (first | refine AL.seq ?_ | refine AL.block ?_ | refine AL.skip ?_ | refine AL.blk ?_)
        refine AL.region follows_Tryz (Nat.le_refl _) (by kernel_rfl) ?_
        simp
        repeat (first | refine AL.seq ?_ | refine AL.block ?_ | refine AL.skip ?_ | refine AL.blk ?_)
        refine AL.ret ?_
        try simp only [AU]
        refine ⟨by simp, (Fin.data (av := B false) (by simp [resAs, resA]; rfl) hbox rfl htok (fun _ h => h) (Nat.le_refl _) (by simp [packA])).mono fun v m hq => ⟨by rw [hR]; exact hq.1, Es, rfl, fun _ => rfl, ?_⟩⟩
        rw [hq.2, upd_self _ _ _ he]
end Go.AM
/-
  shift.extender: node.
-/
namespace Go.AM
open Go Go.Proofs
set_option linter.unusedSimpArgs false
set_option linter.unusedVariables false

def nodeB (p g : Gr) (acc : Mo → Bool) (Es : List Int) : Nat → List Int → Bool
  | 0, N => edgeB p g acc N p.edges.length Es
  | n + 1, N => if 0 ≤ N.getD (p.nodes.length - (n + 1)) 0 then nodeB p g acc Es n N
    else (List.range g.nodes.length).any fun k => decide (g.nodes.getD k 0 = p.nodes.getD (p.nodes.length - (n + 1)) 0) && !decide ((k : Int) ∈ N) && nodeB p g acc Es n (N.set (p.nodes.length - (n + 1)) k)

def QNd (b : Bool) (N Es : List Int) (kn ke : Nat) (box : Nat → Option (List (List AV))) (nb : Nat) (tok : Nat → Bool) (nt : Nat) (v : AV) (m : AMem) : Prop :=
  v = B b ∧ ∃ N' E' : List Int, N'.length = N.length ∧ E'.length = Es.length ∧ (b = false → N' = N ∧ E' = Es) ∧ m = ⟨upd (upd box kn (some (rowsI N'))) ke (some (rowsI E')), nb, tok, nt⟩

theorem outI2 {box : Nat → Option (List (List AV))} {kn ke base : Nat} {N' E' : List Int} {p q : Nat → Prop} : ∀ k rows, k < base → (upd (upd box kn (some (rowsI N'))) ke (some (rowsI E'))) k = some rows → box k = some rows ∨ ∀ r ∈ rows, ∀ x ∈ r, OkIn p q x := by
  intro k rows hk hr
  rcases outI (p := p) (q := q) (base := base) k rows hk hr with h | h
  · exact outI k rows hk h
  · exact .inr h

theorem ExH.setN {p g : Gr} {f : FuncId} {caps : List AV} {kx kn ke : Nat} {E0 : Nat → Option (List (List AV))} {N N' Es : List Int} {box : Nat → Option (List (List AV))} (hf : ExF p g kx kn ke E0) (h : ExH p g f caps kx kn ke E0 N Es box) (hl : N'.length = N.length) :
    ExH p g f caps kx kn ke E0 N' Es (upd box kn (some (rowsI N'))) := by
  refine ⟨fun k r hk => ?_, ?_, upd_same _ _ _, ?_, hl.trans h.nl, h.el⟩
  · rw [upd_other _ _ (fun e => by rw [e, hf.n0] at hk; cases hk)]; exact h.ext k r hk
  · rw [upd_other _ _ (Ne.symm hf.nx)]; exact h.x
  · rw [upd_other _ _ (Ne.symm hf.ne)]; exact h.e

def candN (p g : Gr) (acc : Mo → Bool) (Es : List Int) (r i : Nat) (N : List Int) (k : Nat) : Bool :=
  decide (g.nodes.getD k 0 = p.nodes.getD i 0) && !decide ((k : Int) ∈ N) && nodeB p g acc Es r (N.set i k)
theorem nodeB_no {p g : Gr} {acc : Mo → Bool} {Es : List Int} {r i : Nat} {N : List Int} (hi : p.nodes.length - (r + 1) = i) (h0 : ¬ 0 ≤ N.getD i 0) (h : ∀ j, j < g.nodes.length → candN p g acc Es r i N j = false) : nodeB p g acc Es (r + 1) N = false := by
  rw [nodeB, hi, if_neg h0, List.any_eq_false]
  intro j hj
  have := h j (by simpa using hj)
  unfold candN at this
  rw [this]; simp
theorem nodeB_yes {p g : Gr} {acc : Mo → Bool} {Es : List Int} {r i : Nat} {N : List Int} (hi : p.nodes.length - (r + 1) = i) (h0 : ¬ 0 ≤ N.getD i 0) {j : Nat} (hj : j < g.nodes.length) (h : candN p g acc Es r i N j = true) : nodeB p g acc Es (r + 1) N = true := by
  rw [nodeB, hi, if_neg h0, List.any_eq_true]
  exact ⟨j, by simpa using hj, h⟩

def stNd (g : Gr) (kx i : Nat) (nb : Nat) (box : Nat → Option (List (List AV))) (tok : Nat → Bool) (nt : Nat) (k : Nat) : AState :=
  ⟨tl [(33, .d (ints g.nodes)), (34, I g.nodes.length), (35, I k), (0, .ptr kx 0 0), (1, I i)], lb nb box [], tok, nt⟩

theorem node71_c (p g : Gr) (acc : Mo → Bool) (f : FuncId) (caps : List AV) (kx kn ke : Nat) (E0 : Nat → Option (List (List AV))) (hf : ExF p g kx kn ke E0)
    (hcap : ∀ c ∈ caps, OkIn (fun k => E0 k ≠ none) (fun _ => True) c)
    (hacc : ∀ (q : Mo) box nb tok nt, Ext E0 box → q.nodes.length = p.nodes.length → q.edges.length = p.edges.length → (∀ x ∈ q.nodes, 0 ≤ x) → (∀ x ∈ q.edges, 0 ≤ x) → ACalls Tryz.prog f (q.av :: caps) ⟨box, nb, tok, nt⟩ fun v m => v = B (acc q) ∧ m = ⟨box, nb, tok, nt⟩) :
    ∀ (r i : Nat), i + r = p.nodes.length → ∀ (N Es : List Int) (box : Nat → Option (List (List AV))) (nb : Nat) (tok : Nat → Bool) (nt : Nat), ExH p g f caps kx kn ke E0 N Es box → (∀ x ∈ N, x < 0 → x = -1) → (∀ x ∈ Es, x < 0 → x = -1) → NonN N i →
      ACalls Tryz.prog 52 [.ptr kx 0 0, I i] ⟨box, nb, tok, nt⟩ (QNd (nodeB p g acc Es r N) N Es kn ke box nb tok nt)
  | 0, i, hir, N, Es, box, nb, tok, nt, h, hn1, hm, hnn => by
    have hed := edge86_c p g acc N f caps kx kn ke E0 hf hcap hacc (hnn.all (by rw [h.nl]; omega)) p.edges.length 0 (by omega)
    refine ACalls.of_body Tryz.func52 rfl (by kernel_rfl) follows_Tryz (by kernel_rfl) (by simp [Tryz.ntmps52]) ?_
    intro hbox htok
    simp only at hbox htok
    apply AL.start
    have kxn := key_lt hbox h.x
    have knn := key_lt hbox h.n
    have ken := key_lt hbox h.e
    have hx := h.x
    have hn := h.n
    have he := h.e
    have hL : ExH p g f caps kx kn ke E0 N Es (lb nb box []) := by rw [hbox]; exact h
    have hb1 : ((i : Int) == p.nodes.length) = true := by rw [show i = p.nodes.length by omega]; simp
    repeat (first | refine AL.seq ?_ | refine AL.block ?_ | refine AL.skip ?_ | refine AL.blk ?_)
    refine AL.region follows_Tryz (Nat.le_refl _) (by kernel_rfl) ?_
    simp
    repeat (first | refine AL.seq ?_ | refine AL.block ?_ | refine AL.skip ?_ | refine AL.blk ?_)
    refine AL.region follows_Tryz (Nat.le_refl _) (by kernel_rfl) ?_
    simp [lb_out kxn, hx, hb1]
    repeat (first | refine AL.seq ?_ | refine AL.block ?_ | refine AL.skip ?_ | refine AL.blk ?_)
    refine AL.cond ?_
    simp
    repeat (first | refine AL.seq ?_ | refine AL.block ?_ | refine AL.skip ?_ | refine AL.blk ?_)
    refine AL.region follows_Tryz (Nat.le_refl _) (by kernel_rfl) ?_
    simp
    refine Stop.of_a (hed Es _ _ _ _ hL hm fun j hj => absurd hj (Nat.not_lt_zero _)) ?_
    rintro v m ⟨rfl, E', hl, hE', rfl⟩
    simp [upd_lb_out ken]
    repeat (first | refine AL.seq ?_ | refine AL.block ?_ | refine AL.skip ?_ | refine AL.blk ?_)
    refine AL.ret ?_
    try simp only [AU]
    refine ⟨by simp, (Fin.gen (av := B (edgeB p g acc N p.edges.length Es)) (tok' := tok) (nt' := nt) (by simp [resAs, resA]; rfl) (by rw [← upd_lb_out ken, hbox]) (Nat.le_refl _) (Nat.le_refl _) (fun t ht => ⟨ht, .inl rfl⟩) outI (by simp [packA])).mono fun v m hq => ⟨hq.1, N, E', rfl, hl, fun hb => ⟨rfl, hE' hb⟩, ?_⟩⟩
    rw [hq.2, upd_self _ _ _ hn]
  | r + 1, i, hir, N, Es, box, nb, tok, nt, h, hn1, hm, hnn => by
    have ih := node71_c p g acc f caps kx kn ke E0 hf hcap hacc r (i + 1) (by omega)
    refine ACalls.of_body Tryz.func52 rfl (by kernel_rfl) follows_Tryz (by kernel_rfl) (by simp [Tryz.ntmps52]) ?_
    intro hbox htok
    simp only at hbox htok
    apply AL.start
    have kxn := key_lt hbox h.x
    have knn := key_lt hbox h.n
    have ken := key_lt hbox h.e
    have hx := h.x
    have hn := h.n
    have he := h.e
    have hL : ExH p g f caps kx kn ke E0 N Es (lb nb box []) := by rw [hbox]; exact h
    have hb1 : ((i : Int) == p.nodes.length) = false := by simp; omega
    have hip : i < p.nodes.length := by omega
    have hiN : i < N.length := by rw [h.nl]; exact hip
    have hN1 := hf.fp.n
    have hE1 := hf.fp.e
    have hw : IntKind.i64.wrap (↑i + 1) = ((i + 1 : Nat) : Int) := by rw [wrap_in (by omega) (by omega)]; rfl
    have hsub : p.nodes.length - (r + 1) = i := by omega
    repeat (first | refine AL.seq ?_ | refine AL.block ?_ | refine AL.skip ?_ | refine AL.blk ?_)
    refine AL.region follows_Tryz (Nat.le_refl _) (by kernel_rfl) ?_
    simp
    repeat (first | refine AL.seq ?_ | refine AL.block ?_ | refine AL.skip ?_ | refine AL.blk ?_)
    refine AL.region follows_Tryz (Nat.le_refl _) (by kernel_rfl) ?_
    simp [lb_out kxn, hx, hb1]
    repeat (first | refine AL.seq ?_ | refine AL.block ?_ | refine AL.skip ?_ | refine AL.blk ?_)
    refine AL.cond ?_
    simp
    repeat (first | refine AL.seq ?_ | refine AL.block ?_ | refine AL.skip ?_ | refine AL.blk ?_)
    refine AL.region follows_Tryz (Nat.le_refl _) (by kernel_rfl) ?_
    simp [lb_out kxn, hx, lb_out knn, hn, hiN, hip]
    by_cases h0 : 0 ≤ N[i]
    · simp [h0]
      repeat (first | refine AL.seq ?_ | refine AL.block ?_ | refine AL.skip ?_ | refine AL.blk ?_)
      refine AL.cond ?_
      simp
      repeat (first | refine AL.seq ?_ | refine AL.block ?_ | refine AL.skip ?_ | refine AL.blk ?_)
      refine AL.region follows_Tryz (Nat.le_refl _) (by kernel_rfl) ?_
      simp [hw]
      refine Stop.of_a (ih N Es _ _ _ _ hL hn1 hm (hnn.succ hiN h0)) ?_
      rintro v m ⟨rfl, N', E', hl, hl2, hE', rfl⟩
      simp [upd_lb_out ken, upd_lb_out knn]
      repeat (first | refine AL.seq ?_ | refine AL.block ?_ | refine AL.skip ?_ | refine AL.blk ?_)
      refine AL.ret ?_
      try simp only [AU]
      have hR : nodeB p g acc Es (r + 1) N = nodeB p g acc Es r N := by
        rw [nodeB, hsub, if_pos (by simpa [hiN] using h0)]
      refine ⟨by simp, (Fin.gen (av := B (nodeB p g acc Es r N)) (tok' := tok) (nt' := nt) (by simp [resAs, resA]; rfl) (by rw [← upd_lb_out ken, ← upd_lb_out knn, hbox]) (Nat.le_refl _) (Nat.le_refl _) (fun t ht => ⟨ht, .inl rfl⟩) outI2 (by simp [packA])).mono fun v m hq => ⟨by rw [hR]; exact hq.1, N', E', hl, hl2, by rw [hR]; exact hE', hq.2⟩⟩
    · simp [h0]
      repeat (first | refine AL.seq ?_ | refine AL.block ?_ | refine AL.skip ?_ | refine AL.blk ?_)
      refine AL.cond ?_
      simp
      repeat (first | refine AL.seq ?_ | refine AL.block ?_ | refine AL.skip ?_ | refine AL.blk ?_)
      refine AL.region follows_Tryz (Nat.le_refl _) (by kernel_rfl) ?_
      simp [lb_out kxn, hx, hip]
      repeat (first | refine AL.seq ?_ | refine AL.block ?_ | refine AL.skip ?_ | refine AL.blk ?_)
      have hno := nodeB_no (g := g) (acc := acc) (N := N) (Es := Es) hsub (by simpa [hiN] using h0)
      have hyes := fun j hj => nodeB_yes (g := g) (acc := acc) (N := N) (Es := Es) (j := j) hsub (by simpa [hiN] using h0) hj
      have hmi : N[i] = -1 := hn1 _ (List.getElem_mem hiN) (by omega)
      have hgn := hf.fg.n
      have hwk0 : To (fun k => AM.lb nb box [] k ≠ none) (fun _ => True) none (.ptr kx 0 0) (.ptr kx 0 0) := to_ptr (by rw [lb_out kxn, hx]; simp)
      refine AL.loopT (stNd g kx i nb box tok nt) (fun k => k ≤ g.nodes.length ∧ ∀ j, j < k → candN p g acc Es r i N j = false) (fun k => g.nodes.length - k) 0 ⟨Nat.zero_le _, fun j hj => absurd hj (Nat.not_lt_zero _)⟩ (Weaks.mk (Nat.le_refl _) rfl (by simp [ToL, lk]; exact hwk0) trivial) ?_
      rintro k S ⟨hk, hall⟩ hS
      simp only [stNd] at hS
      subst hS
      have hwk : IntKind.i64.wrap (↑k + 1) = ((k + 1 : Nat) : Int) := by rw [wrap_in (by omega) (by omega)]; rfl
      repeat (first | refine AL.seq ?_ | refine AL.block ?_ | refine AL.skip ?_ | refine AL.blk ?_)
      refine AL.region follows_Tryz (Nat.le_refl _) (by kernel_rfl) ?_
      simp
      repeat (first | refine AL.seq ?_ | refine AL.block ?_ | refine AL.skip ?_ | refine AL.blk ?_)
      refine AL.cond ?_
      simp
      refine ⟨fun hlt => ?_, fun hgek => ?_⟩
      · have hcand : candN p g acc Es r i N k = (decide (g.nodes[k] = p.nodes[i]) && !decide ((k : Int) ∈ N) && nodeB p g acc Es r (N.set i k)) := by
          unfold candN; simp [hlt, hip]
        repeat (first | refine AL.seq ?_ | refine AL.block ?_ | refine AL.skip ?_ | refine AL.blk ?_)
        refine AL.region follows_Tryz (Nat.le_refl _) (by kernel_rfl) ?_
        simp [hlt]
        generalize g.nodes[k] = z at *
        repeat (first | refine AL.seq ?_ | refine AL.block ?_ | refine AL.skip ?_ | refine AL.blk ?_)
        refine AL.region follows_Tryz (Nat.le_refl _) (by kernel_rfl) ?_
        simp [lb_out kxn, hx, hip]
        by_cases hz : z = p.nodes[i]
        · simp [hz, lb_out kxn, hx]
          refine Stop.of_r (containsN_c N k h.nl.symm (by rw [h.nl]; exact hN1) (by simp only; rw [lb_out knn]; exact hn) _ _) ?_
          by_cases hk' : (k : Int) ∈ N
          · simp [hk']
            repeat (first | refine AL.seq ?_ | refine AL.block ?_ | refine AL.skip ?_ | refine AL.blk ?_)
            refine AL.cond ?_
            simp
            repeat (first | refine AL.seq ?_ | refine AL.block ?_ | refine AL.skip ?_ | refine AL.blk ?_)
            refine AL.exit ?_
            simp only [AU, ↓reduceIte]
            repeat (first | refine AL.seq ?_ | refine AL.block ?_ | refine AL.skip ?_ | refine AL.blk ?_)
            refine AL.region follows_Tryz (Nat.le_refl _) (by kernel_rfl) ?_
            simp [hwk]
            repeat (first | refine AL.seq ?_ | refine AL.block ?_ | refine AL.skip ?_ | refine AL.blk ?_)
            refine AL.nil ?_
            refine ⟨k + 1, ⟨hlt, fun j hj => ?_⟩, by omega, Weaks.mk (Nat.le_refl _) rfl (by simp [ToL, lk]; exact hwk0) trivial⟩
            by_cases e : j = k
            · subst e; rw [hcand]; simp [hk']
            · exact hall j (by omega)
          · simp [hk']
            repeat (first | refine AL.seq ?_ | refine AL.block ?_ | refine AL.skip ?_ | refine AL.blk ?_)
            refine AL.cond ?_
            simp
            have hle : (N.set i k).length = N.length := by simp
            have hH2 := h.setN hf hle
            have hbox2 : AM.lb nb (upd box kn (some (rowsI (N.set i k)))) [] = upd box kn (some (rowsI (N.set i k))) := by rw [← upd_lb_out knn, hbox]
            have hm2 : ∀ x ∈ N.set i (k : Int), x < 0 → x = -1 := fun x hx hneg => by
              rcases List.mem_or_eq_of_mem_set hx with h1 | h1
              · exact hn1 x h1 hneg
              · omega
            repeat (first | refine AL.seq ?_ | refine AL.block ?_ | refine AL.skip ?_ | refine AL.blk ?_)
            refine AL.region follows_Tryz (Nat.le_refl _) (by kernel_rfl) ?_
            simp [lb_out kxn, hx, hip, hiN, lb_out knn, hn, upd_lb_out knn]
            repeat (first | refine AL.seq ?_ | refine AL.block ?_ | refine AL.skip ?_ | refine AL.blk ?_)
            refine AL.region follows_Tryz (Nat.le_refl _) (by kernel_rfl) ?_
            simp [hw]
            refine Stop.of_a (ih (N.set i k) Es _ _ _ _ (hH2.lb hbox2 _) hm2 hm (hnn.set hiN k)) ?_
            rintro v m ⟨rfl, N', E', hl, hl2, hE', rfl⟩
            simp [upd_lb_out knn, upd_lb_out ken, upd_upd]
            have hl' : N'.length = N.length := by rw [hl]; simp
            have hx2 : (upd (upd box kn (some (rowsI N'))) ke (some (rowsI E'))) kx = box kx := by rw [upd_other _ _ (Ne.symm hf.ex), upd_other _ _ (Ne.symm hf.nx)]
            have hn2 : (upd (upd box kn (some (rowsI N'))) ke (some (rowsI E'))) kn = some (rowsI N') := by rw [upd_other _ _ hf.ne, upd_same]
            by_cases hr : nodeB p g acc Es r (N.set i k) = true
            · have hR := hyes k hlt (by rw [hcand, hr]; simp [hz, hk'])
              simp [hr]
              repeat (first | refine AL.seq ?_ | refine AL.block ?_ | refine AL.skip ?_ | refine AL.blk ?_)
              refine AL.cond ?_
              simp
              repeat (first | refine AL.seq ?_ | refine AL.block ?_ | refine AL.skip ?_ | refine AL.blk ?_)
              refine AL.region follows_Tryz (Nat.le_refl _) (by kernel_rfl) ?_
              simp
              repeat (first | refine AL.seq ?_ | refine AL.block ?_ | refine AL.skip ?_ | refine AL.blk ?_)
              refine AL.ret ?_
              try simp only [AU]
              refine ⟨by simp, (Fin.gen (av := B true) (tok' := tok) (nt' := nt) (by simp [resAs, resA]; rfl) (by rw [← upd_lb_out ken, ← upd_lb_out knn, hbox]) (Nat.le_refl _) (Nat.le_refl _) (fun t ht => ⟨ht, .inl rfl⟩) outI2 (by simp [packA])).mono fun v m hq => ⟨by rw [hR]; exact hq.1, N', E', hl', hl2, by rw [hR]; simp, hq.2⟩⟩
            · have hr' : nodeB p g acc Es r (N.set i k) = false := by simpa using hr
              obtain ⟨hNN, hEE⟩ := hE' hr'
              have hback : (N'.set i (-1)) = N := by
                rw [hNN, List.set_set, ← hmi, List.set_getElem_self]
              have hiN' : i < N'.length := by rw [hl']; exact hiN
              have hboxb : upd (upd (upd box kn (some (rowsI N'))) ke (some (rowsI E'))) kn (some (rowsI N)) = box := by
                rw [hEE, upd_comm _ hf.ne, upd_upd, upd_comm _ (Ne.symm hf.ne), upd_self _ _ _ hn, upd_self _ _ _ he]
              simp [hr']
              repeat (first | refine AL.seq ?_ | refine AL.block ?_ | refine AL.skip ?_ | refine AL.blk ?_)
              refine AL.cond ?_
              simp
              repeat (first | refine AL.seq ?_ | refine AL.block ?_ | refine AL.skip ?_ | refine AL.blk ?_)
              refine AL.region follows_Tryz (Nat.le_refl _) (by kernel_rfl) ?_
              simp [lb_out kxn, hx2, hx, hip, hiN', lb_out knn, hn2, upd_lb_out knn, hback, hboxb]
              repeat (first | refine AL.seq ?_ | refine AL.block ?_ | refine AL.skip ?_ | refine AL.blk ?_)
              refine AL.region follows_Tryz (Nat.le_refl _) (by kernel_rfl) ?_
              simp [hwk]
              repeat (first | refine AL.seq ?_ | refine AL.block ?_ | refine AL.skip ?_ | refine AL.blk ?_)
              refine AL.nil ?_
              refine ⟨k + 1, ⟨hlt, fun j hj => ?_⟩, by omega, Weaks.mk (Nat.le_refl _) rfl (by simp [ToL, lk]; exact hwk0) trivial⟩
              by_cases e : j = k
              · subst e; rw [hcand, hr']; simp
              · exact hall j (by omega)
        · have hb2 : (z != p.nodes[i]) = true := by simp [hz]
          simp [hb2]
          repeat (first | refine AL.seq ?_ | refine AL.block ?_ | refine AL.skip ?_ | refine AL.blk ?_)
          refine AL.cond ?_
          simp
          repeat (first | refine AL.seq ?_ | refine AL.block ?_ | refine AL.skip ?_ | refine AL.blk ?_)
          refine AL.exit ?_
          simp only [AU, ↓reduceIte]
          repeat (first | refine AL.seq ?_ | refine AL.block ?_ | refine AL.skip ?_ | refine AL.blk ?_)
          refine AL.region follows_Tryz (Nat.le_refl _) (by kernel_rfl) ?_
          simp [hwk]
          repeat (first | refine AL.seq ?_ | refine AL.block ?_ | refine AL.skip ?_ | refine AL.blk ?_)
          refine AL.nil ?_
          refine ⟨k + 1, ⟨hlt, fun j hj => ?_⟩, by omega, Weaks.mk (Nat.le_refl _) rfl (by simp [ToL, lk]; exact hwk0) trivial⟩
          by_cases e : j = k
          · subst e; rw [hcand]; simp [hz]
          · exact hall j (by omega)
      · repeat (first | refine AL.seq ?_ | refine AL.block ?_ | refine AL.skip ?_ | refine AL.blk ?_)
        refine AL.exit ?_
        simp only [AU, ↓reduceIte]
        have hR := hno fun j hj => hall j (by omega)
        repeat (first | refine AL.seq ?_ | refine AL.block ?_ | refine AL.skip ?_ | refine AL.blk ?_)
        refine AL.region follows_Tryz (Nat.le_refl _) (by kernel_rfl) ?_
        simp
        repeat (first | refine AL.seq ?_ | refine AL.block ?_ | refine AL.skip ?_ | refine AL.blk ?_)
        refine AL.ret ?_
        try simp only [AU]
        refine ⟨by simp, (Fin.data (av := B false) (by simp [resAs, resA]; rfl) hbox rfl htok (fun _ h => h) (Nat.le_refl _) (by simp [packA])).mono fun v m hq => ⟨by rw [hR]; exact hq.1, N, Es, rfl, rfl, fun _ => ⟨rfl, rfl⟩, ?_⟩⟩
        rw [hq.2, upd_self _ _ _ hn, upd_self _ _ _ he]
end Go.AM
namespace Go.AM
open Go Go.Proofs
set_option linter.unusedSimpArgs false
set_option linter.unusedVariables false

/-! ### What the library's Sort and Compact leave of a list -/
theorem upTo_facts (d : Array Int) (hs : ∀ i j, i ≤ j → j < d.size → d[i]! ≤ d[j]!) : ∀ m, m ≤ d.size → (Lib.compactUpTo d m).Pairwise (· < ·) ∧ ∀ x, x ∈ Lib.compactUpTo d m ↔ ∃ j, j < m ∧ d[j]! = x
  | 0, _ => ⟨List.Pairwise.nil, fun x => ⟨fun h => by simp [Lib.compactUpTo] at h, fun ⟨j, hj, _⟩ => absurd hj (Nat.not_lt_zero _)⟩⟩
  | m + 1, hm => by
    obtain ⟨h1, h2⟩ := upTo_facts d hs m (by omega)
    rw [Lib.compactUpTo_succ]
    by_cases hk : Lib.keeps d m = true
    · rw [if_pos hk]
      refine ⟨List.pairwise_append.2 ⟨h1, List.pairwise_singleton _ _, fun x hx y hy => ?_⟩, fun x => ?_⟩
      · rw [List.mem_singleton] at hy
        subst hy
        obtain ⟨j, hj, rfl⟩ := (h2 x).1 hx
        simp only [Lib.keeps, decide_eq_true_eq] at hk
        have a1 := hs j (m - 1) (by omega) (by omega)
        have a2 := hs (m - 1) m (by omega) (by omega)
        have a3 : d[m]! ≠ d[m - 1]! := by rcases hk with hk | hk; omega; exact hk
        omega
      · rw [List.mem_append, List.mem_singleton, h2]
        constructor
        · rintro (⟨j, hj, e⟩ | e)
          · exact ⟨j, by omega, e⟩
          · exact ⟨m, by omega, e.symm⟩
        · rintro ⟨j, hj, e⟩
          by_cases ej : j = m
          · subst ej; exact .inr e.symm
          · exact .inl ⟨j, by omega, e⟩
    · rw [if_neg hk, List.append_nil]
      refine ⟨h1, fun x => ?_⟩
      rw [h2]
      constructor
      · rintro ⟨j, hj, e⟩; exact ⟨j, by omega, e⟩
      · rintro ⟨j, hj, e⟩
        by_cases ej : j = m
        · subst ej
          simp only [Lib.keeps, decide_eq_true_eq, not_or, Decidable.not_not] at hk
          exact ⟨j - 1, by omega, by rw [← hk.2]; exact e⟩
        · exact ⟨j, by omega, e⟩

def sortI (l : List Int) : List Int := l.mergeSort fun x y => decide (x ≤ y)
theorem sortI_perm (l : List Int) : (sortI l).Perm l := List.mergeSort_perm l _
theorem sortI_sorted (l : List Int) : (sortI l).Pairwise (· ≤ ·) := by
  have := List.pairwise_mergeSort (le := fun x y : Int => decide (x ≤ y)) (fun a b c h1 h2 => by simp only [decide_eq_true_eq] at *; omega) (fun a b => by simp only [Bool.or_eq_true, decide_eq_true_eq]; omega) l
  exact this.imp fun h => by simpa using h
theorem sortI_arr (l : List Int) (i j : Nat) (hij : i ≤ j) (hj : j < (sortI l).toArray.size) : (sortI l).toArray[i]! ≤ (sortI l).toArray[j]! := by
  simp only [List.size_toArray] at hj
  rw [getElem!_pos _ i (by simp; omega), getElem!_pos _ j (by simpa using hj)]
  by_cases e : i = j
  · subst e; omega
  · exact List.pairwise_iff_getElem.1 (sortI_sorted l) i j (by omega) hj (by omega)

/-- The numbers of a list, in order, each once. -/
def imagesI (l : List Int) : List Int := Lib.compact (sortI l)
theorem imagesI_sorted (l : List Int) : (imagesI l).Pairwise (· < ·) := (upTo_facts (sortI l).toArray (sortI_arr l) (sortI l).length (by simp)).1
theorem imagesN_len (l : List Int) : imagesN l = (imagesI l).length := rfl

theorem imagesN_iff (l : List Int) : imagesN l = l.length ↔ l.Nodup := by
  have hl : (sortI l).length = l.length := (sortI_perm l).length_eq
  rw [imagesN_len, ← (sortI_perm l).nodup_iff, ← hl]
  constructor
  · intro h
    have h2 : ∀ j, j < (sortI l).length → Lib.keeps (sortI l).toArray j = true := by
      unfold imagesI Lib.compact Lib.compactUpTo at h
      rw [List.length_map] at h
      have h3 : (List.range (sortI l).length).filter (Lib.keeps (sortI l).toArray) = List.range (sortI l).length := List.filter_sublist.eq_of_length (by rw [h, List.length_range])
      intro j hj
      exact (List.filter_eq_self.1 h3) j (List.mem_range.2 hj)
    have h4 : imagesI l = sortI l := Lib.compact_all _ h2
    have h5 := imagesI_sorted l
    rw [h4] at h5
    exact h5.imp fun h => by omega
  · intro h
    have h4 : imagesI l = sortI l := Lib.compact_all _ fun j hj => by
      by_cases e : j = 0
      · simp [Lib.keeps, e]
      · apply Lib.keeps_pos
        rw [getElem!_pos _ j (by simpa using hj), getElem!_pos _ (j - 1) (by simp; omega)]
        intro e2
        exact List.pairwise_iff_getElem.1 h (j - 1) j (by omega) hj (by omega) e2.symm
    rw [h4]

theorem distK_nodup (l : List Int) : distK l l.length = true ↔ l.Nodup := by
  simp only [distK, List.all_eq_true, List.mem_range, decide_eq_true_eq]
  rw [List.Nodup, List.pairwise_iff_getElem]
  constructor
  · intro h i j hi hj hij e
    apply h j hj i hij
    rw [List.getD_eq_getElem?_getD, List.getD_eq_getElem?_getD, List.getElem?_eq_getElem hj, List.getElem?_eq_getElem hi]
    exact e.symm
  · intro h j hj k hkj e
    rw [List.getD_eq_getElem?_getD, List.getD_eq_getElem?_getD, List.getElem?_eq_getElem hj, List.getElem?_eq_getElem (show k < l.length by omega)] at e
    exact h k j (by omega) hj hkj e.symm

theorem images_dist (l : List Int) : decide (imagesN l = l.length) = distK l l.length := by
  rw [Bool.eq_iff_iff, decide_eq_true_eq, imagesN_iff, distK_nodup]

theorem images_beq (l : List Int) : ((imagesN l : Int) == (l.length : Int)) = distK l l.length := by
  rw [← images_dist, beqD]
  simp
  omega

/-! ### morphism.Injective -/
theorem injective56_c (a b : Gr) (m : Mo) (ha : a.Fit) (hb : b.Fit) (hm : m.Fit) (tok : Nat → Bool) (nt : Nat) : DCall Tryz.prog 45 [a.av, b.av, m.av] tok nt (B (injM a b m)) tok nt := by
  intro box nb
  have i1 := images_beq m.nodes
  have i2 := images_beq m.edges
  refine ACalls.of_body Tryz.func45 rfl (by kernel_rfl) follows_Tryz (by kernel_rfl) (by simp [Tryz.ntmps45]) ?_
  intro hbox htok
  simp only at hbox htok
  apply AL.start
  repeat (first | refine AL.seq ?_ | refine AL.block ?_ | refine AL.skip ?_ | refine AL.blk ?_)
  refine AL.region follows_Tryz (Nat.le_refl _) (by kernel_rfl) ?_
  simp
  repeat (first | refine AL.seq ?_ | refine AL.block ?_ | refine AL.skip ?_ | refine AL.blk ?_)
  refine AL.region follows_Tryz (Nat.le_refl _) (by kernel_rfl) ?_
  simp
  refine Stop.of_d (valid51_c a b m ha hb _ _) ?_
  simp
  by_cases h1 : validM a b m = 0
  · simp [h1]
    refine Stop.of_d (images88_c m.nodes hm.n _ _) ?_
    simp [h1]
    simp only [i1]
    by_cases h2 : distK m.nodes m.nodes.length = true
    · simp [h2]
      refine Stop.of_d (images88_c m.edges hm.e _ _) ?_
      simp [h1, h2, i2]
      repeat (first | refine AL.seq ?_ | refine AL.block ?_ | refine AL.skip ?_ | refine AL.blk ?_)
      refine AL.ret ?_
      try simp only [AU]
      refine ⟨by simp, Fin.data (by simp [resAs, resA]; rfl) hbox rfl htok (fun _ h => h) (Nat.le_refl _) ?_⟩
      simp [packA, injM, h1, h2]
    · have h3 : distK m.nodes m.nodes.length = false := by simpa using h2
      simp only [h3]
      simp
      repeat (first | refine AL.seq ?_ | refine AL.block ?_ | refine AL.skip ?_ | refine AL.blk ?_)
      refine AL.ret ?_
      try simp only [AU]
      refine ⟨by simp, Fin.data (by simp [resAs, resA]; rfl) hbox rfl htok (fun _ h => h) (Nat.le_refl _) ?_⟩
      simp [packA, injM, h1, h3]
  · have hb1 : (validM a b m == 0) = false := by simp [h1]
    simp only [hb1]
    try simp
    repeat (first | refine AL.seq ?_ | refine AL.block ?_ | refine AL.skip ?_ | refine AL.blk ?_)
    refine AL.ret ?_
    try simp only [AU]
    refine ⟨by simp, Fin.data (by simp [resAs, resA]; rfl) hbox rfl htok (fun _ h => h) (Nat.le_refl _) ?_⟩
    simp [packA, injM, h1]
end Go.AM
/-
  shift.Size, over, Valid, injective.
-/
namespace Go.AM
open Go Go.Proofs
set_option linter.unusedSimpArgs false
set_option linter.unusedVariables false

def sizeR (c : Cd) : Int × Int × Int := if c.shs ≠ 0 then (0, 0, c.shs) else if smallC c ≠ 0 then (0, 0, smallC c) else (c.meas.1, c.meas.2, 0)

theorem cdSize_c (c : Cd) (hb : c.Big) (tok : Nat → Bool) (nt : Nat) : DCall Tryz.prog 21 [c.av] tok nt (.tup [I (sizeR c).1, I (sizeR c).2.1, I (sizeR c).2.2]) tok nt := by
  intro box nb
  have hs := shapes_c _ c (Nat.lt_succ_self _) hb
  have hm := measure_c _ c (Nat.lt_succ_self _) hb
  have hl := cdSmall_c c hb
  refine ACalls.of_body Tryz.func21 rfl (by kernel_rfl) follows_Tryz (by kernel_rfl) (by simp [Tryz.ntmps21]) ?_
  intro hbox htok
  simp only at hbox htok
  apply AL.start
  repeat (first | refine AL.seq ?_ | refine AL.block ?_ | refine AL.skip ?_ | refine AL.blk ?_)
  refine AL.region follows_Tryz (Nat.le_refl _) (by kernel_rfl) ?_
  simp
  repeat (first | refine AL.seq ?_ | refine AL.block ?_ | refine AL.skip ?_ | refine AL.blk ?_)
  refine AL.region follows_Tryz (Nat.le_refl _) (by kernel_rfl) ?_
  simp
  refine Stop.of_d (hs _ _) ?_
  simp
  repeat (first | refine AL.seq ?_ | refine AL.block ?_ | refine AL.skip ?_ | refine AL.blk ?_)
  refine AL.region follows_Tryz (Nat.le_refl _) (by kernel_rfl) ?_
  simp
  by_cases h0 : c.shs = 0
  · simp only [h0]
    repeat (first | refine AL.seq ?_ | refine AL.block ?_ | refine AL.skip ?_ | refine AL.blk ?_)
    refine AL.cond ?_
    simp
    repeat (first | refine AL.seq ?_ | refine AL.block ?_ | refine AL.skip ?_ | refine AL.blk ?_)
    refine AL.region follows_Tryz (Nat.le_refl _) (by kernel_rfl) ?_
    simp
    refine Stop.of_d (hl _ _) ?_
    simp
    repeat (first | refine AL.seq ?_ | refine AL.block ?_ | refine AL.skip ?_ | refine AL.blk ?_)
    refine AL.region follows_Tryz (Nat.le_refl _) (by kernel_rfl) ?_
    simp
    by_cases h1 : smallC c = 0
    · simp only [h1]
      repeat (first | refine AL.seq ?_ | refine AL.block ?_ | refine AL.skip ?_ | refine AL.blk ?_)
      refine AL.cond ?_
      simp
      repeat (first | refine AL.seq ?_ | refine AL.block ?_ | refine AL.skip ?_ | refine AL.blk ?_)
      refine AL.region follows_Tryz (Nat.le_refl _) (by kernel_rfl) ?_
      simp
      refine Stop.of_d (hm _ _) ?_
      simp
      repeat (first | refine AL.seq ?_ | refine AL.block ?_ | refine AL.skip ?_ | refine AL.blk ?_)
      refine AL.region follows_Tryz (Nat.le_refl _) (by kernel_rfl) ?_
      simp
      repeat (first | refine AL.seq ?_ | refine AL.block ?_ | refine AL.skip ?_ | refine AL.blk ?_)
      refine AL.ret ?_
      try simp only [AU]
      refine ⟨by simp, Fin.data (by simp [resAs, resA]; rfl) hbox rfl htok (fun _ h => h) (Nat.le_refl _) ?_⟩
      simp [packA, sizeR, h0, h1]
    · have b1 : (smallC c != 0) = true := by simp [h1]
      simp only [b1]
      repeat (first | refine AL.seq ?_ | refine AL.block ?_ | refine AL.skip ?_ | refine AL.blk ?_)
      refine AL.cond ?_
      simp
      repeat (first | refine AL.seq ?_ | refine AL.block ?_ | refine AL.skip ?_ | refine AL.blk ?_)
      refine AL.region follows_Tryz (Nat.le_refl _) (by kernel_rfl) ?_
      simp
      repeat (first | refine AL.seq ?_ | refine AL.block ?_ | refine AL.skip ?_ | refine AL.blk ?_)
      refine AL.ret ?_
      try simp only [AU]
      refine ⟨by simp, Fin.data (by simp [resAs, resA]; rfl) hbox rfl htok (fun _ h => h) (Nat.le_refl _) ?_⟩
      simp [packA, sizeR, h0, h1]
  · have b0 : (c.shs != 0) = true := by simp [h0]
    simp only [b0]
    repeat (first | refine AL.seq ?_ | refine AL.block ?_ | refine AL.skip ?_ | refine AL.blk ?_)
    refine AL.cond ?_
    simp
    repeat (first | refine AL.seq ?_ | refine AL.block ?_ | refine AL.skip ?_ | refine AL.blk ?_)
    refine AL.region follows_Tryz (Nat.le_refl _) (by kernel_rfl) ?_
    simp
    repeat (first | refine AL.seq ?_ | refine AL.block ?_ | refine AL.skip ?_ | refine AL.blk ?_)
    refine AL.ret ?_
    try simp only [AU]
    refine ⟨by simp, Fin.data (by simp [resAs, resA]; rfl) hbox rfl htok (fun _ h => h) (Nat.le_refl _) ?_⟩
    simp [packA, sizeR, h0]

/-! ### Over a graph -/
inductive Cd.Fit : Cd → Prop
  | mk {c : Cd} (hk : c.kids.length ≤ kidN) (hm : c.m.Fit) (hg : c.g.Fit) (hs : c.sl.length ≤ bigN) (ht : c.te.length ≤ bigN) (h : ∀ x ∈ c.kids, Cd.Fit x) : Cd.Fit c
theorem Cd.Fit.kids {c : Cd} (h : c.Fit) : c.kids.length ≤ kidN := by cases h; assumption
theorem Cd.Fit.kid {c : Cd} (h : c.Fit) : ∀ x ∈ c.kids, Cd.Fit x := by cases h; assumption
theorem Cd.Fit.m {c : Cd} (h : c.Fit) : c.m.Fit := by cases h; assumption
theorem Cd.Fit.g {c : Cd} (h : c.Fit) : c.g.Fit := by cases h; assumption
theorem Cd.Fit.big {c : Cd} (h : c.Fit) : c.Big := by
  induction h with
  | mk hk hm hg hs ht _ ih =>
    refine ⟨hk, ?_, ?_, ?_, ?_, hs, ht, ih⟩
    · have := hm.n; rw [bigN_eq]; omega
    · have := hm.e; rw [bigN_eq]; omega
    · have := hg.n; rw [bigN_eq]; omega
    · have := hg.e; rw [bigN_eq]; omega

def ovrStep (a : Gr) (k : Int) (m : Mo) (g : Gr) : Int := if k = 5 then (if validM a g m ≠ 0 then validM a g m else if injM a g m = true then 0 else 1) else 0
mutual
def Cd.ovr : Cd → Gr → Int
  | .mk k c m g s v t, a => if shapeC (.mk k c m g s v t) = 0 then if ovrStep a k m g = 0 then Cd.ovrL c (if k = 5 then g else a) else ovrStep a k m g else shapeC (.mk k c m g s v t)
def Cd.ovrL : List Cd → Gr → Int
  | [], _ => 0
  | x :: r, a => if Cd.ovr x a = 0 then Cd.ovrL r a else Cd.ovr x a
end
theorem Cd.ovrL_eq (a : Gr) : ∀ l : List Cd, Cd.ovrL l a = errL (fun x => Cd.ovr x a) l
  | [] => by simp [Cd.ovrL, errL]
  | x :: r => by simp [Cd.ovrL, errL, Cd.ovrL_eq a r]
abbrev Cd.inn (c : Cd) (a : Gr) : Gr := if c.kind = 5 then c.g else a
theorem Cd.ovr_eq (c : Cd) (a : Gr) : c.ovr a = if shapeC c = 0 then if ovrStep a c.kind c.m c.g = 0 then errL (fun x => Cd.ovr x (c.inn a)) c.kids else ovrStep a c.kind c.m c.g else shapeC c := by
  cases c
  rw [Cd.ovr, Cd.ovrL_eq]
  rfl

theorem AL.midP {cx : Cx} {nt0 : Nat} {K : Exit → AState → Prop} {r : List CI} {S : AState} {x y : Code} (T : AState) (p : Prop)
    (h1 : AL Tryz.prog cx nt0 (fun e S' => match e with
      | .normal => p ∧ Weaks cx nt0 S' T
      | e => AU Tryz.prog cx nt0 K (.c y :: r) e S') [.c x] S) (h2 : p → AL Tryz.prog cx nt0 K (.c y :: r) T) : AL Tryz.prog cx nt0 K (.c x :: .c y :: r) S := by
  have h3 := AL.start h1
  simp only [AL] at h2 ⊢
  refine h3.mono fun e S' h => ?_
  cases e with
  | normal => exact AT.weaks h.2 (h2 h.1)
  | _ => exact h

abbrev Gr.cells2 (g : Gr) : List AV := [.d (ints g.nodes), .d (AM.edges g.edges)]
def stOv (a : Gr) (c : Cd) (nb : Nat) (box : Nat → Option (List (List AV))) (tok : Nat → Bool) (nt : Nat) (i : Nat) : AState :=
  ⟨tl [(38, .d (conds c.kids)), (39, I c.kids.length), (40, I i), (6, .ptr (nb + 6) 0 0)], lb nb box [(6, [a.cells2])], tok, nt⟩

theorem over_c : ∀ (n : Nat) (c : Cd), SizeOf.sizeOf c < n → c.Fit → ∀ (a : Gr), a.Fit → ∀ (tok : Nat → Bool) (nt : Nat), DCall Tryz.prog 46 [a.av, c.av] tok nt (I (c.ovr a)) tok nt
  | 0, c, hn, _, a, _, tok, nt => absurd hn (Nat.not_lt_zero _)
  | n + 1, c, hn, hb, a, ha, tok, nt => by
    intro box nb
    have ih := fun x (hx : x ∈ c.kids) => over_c n x (by have := Cd.kid_lt hx; omega) (hb.kid x hx)
    have hkb := hb.kids
    rw [kidN_eq] at hkb
    have hR := c.ovr_eq a
    have hsh := shape_c c
    have hva := valid51_c a c.g c.m ha hb.g
    have hin := injective56_c a c.g c.m ha hb.g hb.m
    have hinn : (c.inn a).Fit := by unfold Cd.inn; split; exact hb.g; exact ha
    refine ACalls.of_body Tryz.func46 rfl (by kernel_rfl) follows_Tryz (by kernel_rfl) (by simp [Tryz.ntmps46]) ?_
    intro hbox htok
    simp only at hbox htok
    apply AL.start
    repeat (first | refine AL.seq ?_ | refine AL.block ?_ | refine AL.skip ?_ | refine AL.blk ?_)
    refine AL.region follows_Tryz (Nat.le_refl _) (by kernel_rfl) ?_
    simp
    repeat (first | refine AL.seq ?_ | refine AL.block ?_ | refine AL.skip ?_ | refine AL.blk ?_)
    refine AL.region follows_Tryz (Nat.le_refl _) (by kernel_rfl) ?_
    simp
    refine Stop.of_d (hsh _ _) ?_
    simp
    repeat (first | refine AL.seq ?_ | refine AL.block ?_ | refine AL.skip ?_ | refine AL.blk ?_)
    refine AL.region follows_Tryz (Nat.le_refl _) (by kernel_rfl) ?_
    simp
    by_cases h0 : shapeC c = 0
    · simp [h0]
      repeat (first | refine AL.seq ?_ | refine AL.block ?_ | refine AL.skip ?_ | refine AL.blk ?_)
      refine AL.cond ?_
      simp
      repeat (first | refine AL.seq ?_ | refine AL.block ?_ | refine AL.skip ?_ | refine AL.blk ?_)
      refine AL.region follows_Tryz (Nat.le_refl _) (by kernel_rfl) ?_
      simp
      repeat (first | refine AL.seq ?_ | refine AL.block ?_ | refine AL.skip ?_ | refine AL.blk ?_)
      refine AL.region follows_Tryz (Nat.le_refl _) (by kernel_rfl) ?_
      simp
      refine AL.midP ⟨tl [(6, .ptr (nb + 6) 0 0), (3, .ptr (nb + 3) 0 0)], lb nb box [(6, [(c.inn a).cells2]), (3, [c.row])], tok, nt⟩ (ovrStep a c.kind c.m c.g = 0) ?_ ?_
      · have hst : ovrStep a c.kind c.m c.g = if c.kind = 5 then (if validM a c.g c.m ≠ 0 then validM a c.g c.m else if injM a c.g c.m = true then 0 else 1) else 0 := rfl
        by_cases k5 : c.kind = 5
        · have hii : c.inn a = c.g := if_pos k5
          rw [if_pos k5] at hst
          simp [k5]
          repeat (first | refine AL.seq ?_ | refine AL.block ?_ | refine AL.skip ?_ | refine AL.blk ?_)
          refine AL.cond ?_
          simp
          repeat (first | refine AL.seq ?_ | refine AL.block ?_ | refine AL.skip ?_ | refine AL.blk ?_)
          refine AL.region follows_Tryz (Nat.le_refl _) (by kernel_rfl) ?_
          simp
          repeat (first | refine AL.seq ?_ | refine AL.block ?_ | refine AL.skip ?_ | refine AL.blk ?_)
          refine AL.region follows_Tryz (Nat.le_refl _) (by kernel_rfl) ?_
          simp
          refine Stop.of_d (hva _ _) ?_
          simp
          repeat (first | refine AL.seq ?_ | refine AL.block ?_ | refine AL.skip ?_ | refine AL.blk ?_)
          refine AL.region follows_Tryz (Nat.le_refl _) (by kernel_rfl) ?_
          simp
          by_cases h1 : validM a c.g c.m = 0
          · rw [if_neg (by simp [h1])] at hst
            simp [h1]
            repeat (first | refine AL.seq ?_ | refine AL.block ?_ | refine AL.skip ?_ | refine AL.blk ?_)
            refine AL.cond ?_
            simp
            repeat (first | refine AL.seq ?_ | refine AL.block ?_ | refine AL.skip ?_ | refine AL.blk ?_)
            refine AL.region follows_Tryz (Nat.le_refl _) (by kernel_rfl) ?_
            simp
            refine Stop.of_d (hin _ _) ?_
            simp
            cases h2 : injM a c.g c.m
            · simp [h2] at hst
              repeat (first | refine AL.seq ?_ | refine AL.block ?_ | refine AL.skip ?_ | refine AL.blk ?_)
              refine AL.cond ?_
              simp
              repeat (first | refine AL.seq ?_ | refine AL.block ?_ | refine AL.skip ?_ | refine AL.blk ?_)
              refine AL.region follows_Tryz (Nat.le_refl _) (by kernel_rfl) ?_
              simp
              repeat (first | refine AL.seq ?_ | refine AL.block ?_ | refine AL.skip ?_ | refine AL.blk ?_)
              refine AL.ret ?_
              try simp only [AU]
              refine ⟨by simp, Fin.data (by simp [resAs, resA]; rfl) hbox rfl htok (fun _ h => h) (Nat.le_refl _) ?_⟩
              simp [packA, hR, h0, hst]
            · simp [h2] at hst
              repeat (first | refine AL.seq ?_ | refine AL.block ?_ | refine AL.skip ?_ | refine AL.blk ?_)
              refine AL.cond ?_
              simp
              repeat (first | refine AL.seq ?_ | refine AL.block ?_ | refine AL.skip ?_ | refine AL.blk ?_)
              refine AL.nil ?_
              refine ⟨by simpa [k5] using hst, ?_⟩
              exact Weaks.mk (Nat.le_refl _) rfl (by simp [ToL, lk]) (by simp [BoxL, lk, hii])
          · rw [if_pos (by simpa using h1)] at hst
            have b1 : (validM a c.g c.m != 0) = true := by simp [h1]
            simp only [b1]
            repeat (first | refine AL.seq ?_ | refine AL.block ?_ | refine AL.skip ?_ | refine AL.blk ?_)
            refine AL.cond ?_
            simp
            repeat (first | refine AL.seq ?_ | refine AL.block ?_ | refine AL.skip ?_ | refine AL.blk ?_)
            refine AL.region follows_Tryz (Nat.le_refl _) (by kernel_rfl) ?_
            simp
            repeat (first | refine AL.seq ?_ | refine AL.block ?_ | refine AL.skip ?_ | refine AL.blk ?_)
            refine AL.ret ?_
            try simp only [AU]
            refine ⟨by simp, Fin.data (by simp [resAs, resA]; rfl) hbox rfl htok (fun _ h => h) (Nat.le_refl _) ?_⟩
            simp [packA, hR, h0, hst, h1]
        · have hii : c.inn a = a := if_neg k5
          have n5 : (c.kind == 5) = false := by simp [k5]
          simp only [n5]
          repeat (first | refine AL.seq ?_ | refine AL.block ?_ | refine AL.skip ?_ | refine AL.blk ?_)
          refine AL.cond ?_
          simp
          repeat (first | refine AL.seq ?_ | refine AL.block ?_ | refine AL.skip ?_ | refine AL.blk ?_)
          refine AL.nil ?_
          refine ⟨by rw [hst, if_neg k5], ?_⟩
          exact Weaks.mk (Nat.le_refl _) rfl (by simp [ToL, lk]) (by simp [BoxL, lk, hii])
      · intro hst
        rw [if_pos h0, if_pos hst] at hR
        generalize c.inn a = b at *
        repeat (first | refine AL.seq ?_ | refine AL.block ?_ | refine AL.skip ?_ | refine AL.blk ?_)
        refine AL.region follows_Tryz (Nat.le_refl _) (by kernel_rfl) ?_
        simp
        repeat (first | refine AL.seq ?_ | refine AL.block ?_ | refine AL.skip ?_ | refine AL.blk ?_)
        refine AL.loopT (stOv b c nb box tok nt) (fun i => i ≤ c.kids.length ∧ ∀ x ∈ c.kids.take i, Cd.ovr x b = 0) (fun i => c.kids.length - i) 0 ⟨Nat.zero_le _, by simp⟩ (Weaks.mk (Nat.le_refl _) rfl (by simp [ToL, lk]) (by simp [BoxL, lk])) ?_
        rintro i S ⟨hi, hz⟩ hS
        simp only [stOv] at hS
        subst hS
        have hw : IntKind.i64.wrap (↑i + 1) = ((i + 1 : Nat) : Int) := by rw [wrap_in (by omega) (by omega)]; rfl
        repeat (first | refine AL.seq ?_ | refine AL.block ?_ | refine AL.skip ?_ | refine AL.blk ?_)
        refine AL.region follows_Tryz (Nat.le_refl _) (by kernel_rfl) ?_
        simp
        repeat (first | refine AL.seq ?_ | refine AL.block ?_ | refine AL.skip ?_ | refine AL.blk ?_)
        refine AL.cond ?_
        simp
        refine ⟨fun hlt => ?_, fun hge => ?_⟩
        · have ihx := fun a ha => ih _ (List.getElem_mem hlt) a ha
          have hyes := errL_more (f := fun x => Cd.ovr x b) hlt hz
          have hno := errL_at (f := fun x => Cd.ovr x b) hlt hz
          repeat (first | refine AL.seq ?_ | refine AL.block ?_ | refine AL.skip ?_ | refine AL.blk ?_)
          refine AL.region follows_Tryz (Nat.le_refl _) (by kernel_rfl) ?_
          simp [hlt, Cd.cells_eq]
          generalize c.kids[i] = x at *
          repeat (first | refine AL.seq ?_ | refine AL.block ?_ | refine AL.skip ?_ | refine AL.blk ?_)
          refine AL.region follows_Tryz (Nat.le_refl _) (by kernel_rfl) ?_
          simp
          refine Stop.of_d (ihx b hinn _ _) ?_
          simp
          repeat (first | refine AL.seq ?_ | refine AL.block ?_ | refine AL.skip ?_ | refine AL.blk ?_)
          refine AL.region follows_Tryz (Nat.le_refl _) (by kernel_rfl) ?_
          simp
          by_cases h1 : x.ovr b = 0
          · simp only [h1]
            repeat (first | refine AL.seq ?_ | refine AL.block ?_ | refine AL.skip ?_ | refine AL.blk ?_)
            refine AL.cond ?_
            simp
            repeat (first | refine AL.seq ?_ | refine AL.block ?_ | refine AL.skip ?_ | refine AL.blk ?_)
            refine AL.region follows_Tryz (Nat.le_refl _) (by kernel_rfl) ?_
            simp [hw]
            repeat (first | refine AL.seq ?_ | refine AL.block ?_ | refine AL.skip ?_ | refine AL.blk ?_)
            refine AL.nil ?_
            exact ⟨i + 1, ⟨hlt, hyes h1⟩, by omega, Weaks.mk (Nat.le_refl _) rfl (by simp [ToL, lk]) (by simp [BoxL, lk])⟩
          · have b1 : (x.ovr b != 0) = true := by simp [h1]
            simp only [b1]
            repeat (first | refine AL.seq ?_ | refine AL.block ?_ | refine AL.skip ?_ | refine AL.blk ?_)
            refine AL.cond ?_
            simp
            repeat (first | refine AL.seq ?_ | refine AL.block ?_ | refine AL.skip ?_ | refine AL.blk ?_)
            refine AL.region follows_Tryz (Nat.le_refl _) (by kernel_rfl) ?_
            simp
            repeat (first | refine AL.seq ?_ | refine AL.block ?_ | refine AL.skip ?_ | refine AL.blk ?_)
            refine AL.ret ?_
            try simp only [AU]
            refine ⟨by simp, Fin.data (by simp [resAs, resA]; rfl) hbox rfl htok (fun _ h => h) (Nat.le_refl _) ?_⟩
            simp [packA, hR, hno h1]
        · repeat (first | refine AL.seq ?_ | refine AL.block ?_ | refine AL.skip ?_ | refine AL.blk ?_)
          refine AL.exit ?_
          simp only [AU, ↓reduceIte]
          rw [List.take_of_length_le hge] at hz
          repeat (first | refine AL.seq ?_ | refine AL.block ?_ | refine AL.skip ?_ | refine AL.blk ?_)
          refine AL.region follows_Tryz (Nat.le_refl _) (by kernel_rfl) ?_
          simp
          repeat (first | refine AL.seq ?_ | refine AL.block ?_ | refine AL.skip ?_ | refine AL.blk ?_)
          refine AL.ret ?_
          try simp only [AU]
          refine ⟨by simp, Fin.data (by simp [resAs, resA]; rfl) hbox rfl htok (fun _ h => h) (Nat.le_refl _) ?_⟩
          simp [packA, hR, errL_all (f := fun x => Cd.ovr x b) hz]
    · rw [if_neg h0] at hR
      have b0 : (shapeC c != 0) = true := by simp [h0]
      simp only [b0]
      repeat (first | refine AL.seq ?_ | refine AL.block ?_ | refine AL.skip ?_ | refine AL.blk ?_)
      refine AL.cond ?_
      simp
      repeat (first | refine AL.seq ?_ | refine AL.block ?_ | refine AL.skip ?_ | refine AL.blk ?_)
      refine AL.region follows_Tryz (Nat.le_refl _) (by kernel_rfl) ?_
      simp
      repeat (first | refine AL.seq ?_ | refine AL.block ?_ | refine AL.skip ?_ | refine AL.blk ?_)
      refine AL.ret ?_
      try simp only [AU]
      refine ⟨by simp, Fin.data (by simp [resAs, resA]; rfl) hbox rfl htok (fun _ h => h) (Nat.le_refl _) ?_⟩
      simp [packA, hR]

def validC (a : Gr) (c : Cd) : Int := if validG a ≠ 0 then validG a else if c.ovr a ≠ 0 then c.ovr a else smallC c
theorem validC_c (a : Gr) (c : Cd) (ha : a.Fit) (hb : c.Fit) (tok : Nat → Bool) (nt : Nat) : DCall Tryz.prog 29 [a.av, c.av] tok nt (I (validC a c)) tok nt := by
  intro box nb
  have hg := graphValid_c a ha
  have ho := over_c _ c (Nat.lt_succ_self _) hb a ha
  have hs := cdSmall_c c hb.big
  refine ACalls.of_body Tryz.func29 rfl (by kernel_rfl) follows_Tryz (by kernel_rfl) (by simp [Tryz.ntmps29]) ?_
  intro hbox htok
  simp only at hbox htok
  apply AL.start
  try (simp)
  repeat ((repeat (first | refine AL.seq ?_ | refine AL.block ?_ | refine AL.skip ?_ | refine AL.blk ?_)); (refine AL.region follows_Tryz (Nat.le_refl _) (by kernel_rfl) ?_); simp)
  refine Stop.of_d (hg _ _) ?_
  simp
  try (simp)
  repeat ((repeat (first | refine AL.seq ?_ | refine AL.block ?_ | refine AL.skip ?_ | refine AL.blk ?_)); (refine AL.region follows_Tryz (Nat.le_refl _) (by kernel_rfl) ?_); simp)
  by_cases h0 : validG a = 0
  · simp only [h0]
    repeat (first | refine AL.seq ?_ | refine AL.block ?_ | refine AL.skip ?_ | refine AL.blk ?_)
    refine AL.cond ?_
    simp
    try (simp)
    repeat ((repeat (first | refine AL.seq ?_ | refine AL.block ?_ | refine AL.skip ?_ | refine AL.blk ?_)); (refine AL.region follows_Tryz (Nat.le_refl _) (by kernel_rfl) ?_); simp)
    refine Stop.of_d (ho _ _) ?_
    simp
    try (simp)
    repeat ((repeat (first | refine AL.seq ?_ | refine AL.block ?_ | refine AL.skip ?_ | refine AL.blk ?_)); (refine AL.region follows_Tryz (Nat.le_refl _) (by kernel_rfl) ?_); simp)
    by_cases h1 : c.ovr a = 0
    · simp only [h1]
      repeat (first | refine AL.seq ?_ | refine AL.block ?_ | refine AL.skip ?_ | refine AL.blk ?_)
      refine AL.cond ?_
      simp
      try (simp)
      repeat ((repeat (first | refine AL.seq ?_ | refine AL.block ?_ | refine AL.skip ?_ | refine AL.blk ?_)); (refine AL.region follows_Tryz (Nat.le_refl _) (by kernel_rfl) ?_); simp)
      refine Stop.of_d (hs _ _) ?_
      simp
      try (simp)
      repeat ((repeat (first | refine AL.seq ?_ | refine AL.block ?_ | refine AL.skip ?_ | refine AL.blk ?_)); (refine AL.region follows_Tryz (Nat.le_refl _) (by kernel_rfl) ?_); simp)
      repeat (first | refine AL.seq ?_ | refine AL.block ?_ | refine AL.skip ?_ | refine AL.blk ?_)
      refine AL.ret ?_
      try simp only [AU]
      refine ⟨by simp, Fin.data (by simp [resAs, resA]; rfl) hbox rfl htok (fun _ h => h) (Nat.le_refl _) ?_⟩
      simp [packA, validC, h0, h1]
    · have b1 : (c.ovr a != 0) = true := by simp [h1]
      simp only [b1]
      repeat (first | refine AL.seq ?_ | refine AL.block ?_ | refine AL.skip ?_ | refine AL.blk ?_)
      refine AL.cond ?_
      simp
      try (simp)
      repeat ((repeat (first | refine AL.seq ?_ | refine AL.block ?_ | refine AL.skip ?_ | refine AL.blk ?_)); (refine AL.region follows_Tryz (Nat.le_refl _) (by kernel_rfl) ?_); simp)
      repeat (first | refine AL.seq ?_ | refine AL.block ?_ | refine AL.skip ?_ | refine AL.blk ?_)
      refine AL.ret ?_
      try simp only [AU]
      refine ⟨by simp, Fin.data (by simp [resAs, resA]; rfl) hbox rfl htok (fun _ h => h) (Nat.le_refl _) ?_⟩
      simp [packA, validC, h0, h1]
  · have b0 : (validG a != 0) = true := by simp [h0]
    simp only [b0]
    repeat (first | refine AL.seq ?_ | refine AL.block ?_ | refine AL.skip ?_ | refine AL.blk ?_)
    refine AL.cond ?_
    simp
    try (simp)
    repeat ((repeat (first | refine AL.seq ?_ | refine AL.block ?_ | refine AL.skip ?_ | refine AL.blk ?_)); (refine AL.region follows_Tryz (Nat.le_refl _) (by kernel_rfl) ?_); simp)
    repeat (first | refine AL.seq ?_ | refine AL.block ?_ | refine AL.skip ?_ | refine AL.blk ?_)
    refine AL.ret ?_
    try simp only [AU]
    refine ⟨by simp, Fin.data (by simp [resAs, resA]; rfl) hbox rfl htok (fun _ h => h) (Nat.le_refl _) ?_⟩
    simp [packA, validC, h0]

def arrR (a b : Gr) (m : Mo) : Int := if validM a b m ≠ 0 then validM a b m else if injM a b m = true then 0 else 1
theorem cdInj_c (a b : Gr) (m : Mo) (ha : a.Fit) (hb : b.Fit) (hm : m.Fit) (tok : Nat → Bool) (nt : Nat) : DCall Tryz.prog 28 [a.av, b.av, m.av] tok nt (I (arrR a b m)) tok nt := by
  intro box nb
  have hva := valid51_c a b m ha hb
  have hin := injective56_c a b m ha hb hm
  refine ACalls.of_body Tryz.func28 rfl (by kernel_rfl) follows_Tryz (by kernel_rfl) (by simp [Tryz.ntmps28]) ?_
  intro hbox htok
  simp only at hbox htok
  apply AL.start
  try (simp)
  repeat ((repeat (first | refine AL.seq ?_ | refine AL.block ?_ | refine AL.skip ?_ | refine AL.blk ?_)); (refine AL.region follows_Tryz (Nat.le_refl _) (by kernel_rfl) ?_); simp)
  refine Stop.of_d (hva _ _) ?_
  simp
  try (simp)
  repeat ((repeat (first | refine AL.seq ?_ | refine AL.block ?_ | refine AL.skip ?_ | refine AL.blk ?_)); (refine AL.region follows_Tryz (Nat.le_refl _) (by kernel_rfl) ?_); simp)
  by_cases h0 : validM a b m = 0
  · simp only [h0]
    repeat (first | refine AL.seq ?_ | refine AL.block ?_ | refine AL.skip ?_ | refine AL.blk ?_)
    refine AL.cond ?_
    simp
    try (simp)
    repeat ((repeat (first | refine AL.seq ?_ | refine AL.block ?_ | refine AL.skip ?_ | refine AL.blk ?_)); (refine AL.region follows_Tryz (Nat.le_refl _) (by kernel_rfl) ?_); simp)
    refine Stop.of_d (hin _ _) ?_
    simp
    cases h1 : injM a b m
    · repeat (first | refine AL.seq ?_ | refine AL.block ?_ | refine AL.skip ?_ | refine AL.blk ?_)
      refine AL.cond ?_
      simp
      try (simp)
      repeat ((repeat (first | refine AL.seq ?_ | refine AL.block ?_ | refine AL.skip ?_ | refine AL.blk ?_)); (refine AL.region follows_Tryz (Nat.le_refl _) (by kernel_rfl) ?_); simp)
      repeat (first | refine AL.seq ?_ | refine AL.block ?_ | refine AL.skip ?_ | refine AL.blk ?_)
      refine AL.ret ?_
      try simp only [AU]
      refine ⟨by simp, Fin.data (by simp [resAs, resA]; rfl) hbox rfl htok (fun _ h => h) (Nat.le_refl _) ?_⟩
      simp [packA, arrR, h0, h1]
    · repeat (first | refine AL.seq ?_ | refine AL.block ?_ | refine AL.skip ?_ | refine AL.blk ?_)
      refine AL.cond ?_
      simp
      try (simp)
      repeat ((repeat (first | refine AL.seq ?_ | refine AL.block ?_ | refine AL.skip ?_ | refine AL.blk ?_)); (refine AL.region follows_Tryz (Nat.le_refl _) (by kernel_rfl) ?_); simp)
      repeat (first | refine AL.seq ?_ | refine AL.block ?_ | refine AL.skip ?_ | refine AL.blk ?_)
      refine AL.ret ?_
      try simp only [AU]
      refine ⟨by simp, Fin.data (by simp [resAs, resA]; rfl) hbox rfl htok (fun _ h => h) (Nat.le_refl _) ?_⟩
      simp [packA, arrR, h0, h1]
  · have b0 : (validM a b m != 0) = true := by simp [h0]
    simp only [b0]
    repeat (first | refine AL.seq ?_ | refine AL.block ?_ | refine AL.skip ?_ | refine AL.blk ?_)
    refine AL.cond ?_
    simp
    try (simp)
    repeat ((repeat (first | refine AL.seq ?_ | refine AL.block ?_ | refine AL.skip ?_ | refine AL.blk ?_)); (refine AL.region follows_Tryz (Nat.le_refl _) (by kernel_rfl) ?_); simp)
    repeat (first | refine AL.seq ?_ | refine AL.block ?_ | refine AL.skip ?_ | refine AL.blk ?_)
    refine AL.ret ?_
    try simp only [AU]
    refine ⟨by simp, Fin.data (by simp [resAs, resA]; rfl) hbox rfl htok (fun _ h => h) (Nat.le_refl _) ?_⟩
    simp [packA, arrR, h0]
end Go.AM
/-
  The reference's bare, shape, size, large, shapes, Size.
-/
namespace Go.AM
open Go Go.Proofs
set_option linter.unusedSimpArgs false
set_option linter.unusedVariables false

def sum7 (c : Cd) : Int := IntKind.i64.wrap (IntKind.i64.wrap (IntKind.i64.wrap (IntKind.i64.wrap (IntKind.i64.wrap (IntKind.i64.wrap (↑c.m.nodes.length + ↑c.m.edges.length) + ↑c.g.nodes.length) + ↑c.g.edges.length) + ↑c.sl.length) + c.vars) + ↑c.te.length)
theorem sum7_bare {c : Cd} (hb : c.Big) : (sum7 c == 0 && c.vars == 0) = unusedC c := by
  cases hb with
  | mk hk hmn hme hgn hge hs ht h =>
    rw [bigN_eq] at hmn hme hgn hge hs ht
    by_cases hv : c.vars = 0
    · have h0 : sum7 c = ((c.m.nodes.length + c.m.edges.length + c.g.nodes.length + c.g.edges.length + c.sl.length + c.te.length : Nat) : Int) := by
        unfold sum7
        rw [hv, wrap_in (n := ↑c.m.nodes.length + ↑c.m.edges.length) (by omega) (by omega)]
        rw [wrap_in (n := ↑c.m.nodes.length + ↑c.m.edges.length + ↑c.g.nodes.length) (by omega) (by omega)]
        rw [wrap_in (n := ↑c.m.nodes.length + ↑c.m.edges.length + ↑c.g.nodes.length + ↑c.g.edges.length) (by omega) (by omega)]
        rw [wrap_in (n := ↑c.m.nodes.length + ↑c.m.edges.length + ↑c.g.nodes.length + ↑c.g.edges.length + ↑c.sl.length) (by omega) (by omega)]
        rw [wrap_in (n := ↑c.m.nodes.length + ↑c.m.edges.length + ↑c.g.nodes.length + ↑c.g.edges.length + ↑c.sl.length + 0) (by omega) (by omega)]
        rw [wrap_in (by omega) (by omega)]
        omega
      rw [Bool.eq_iff_iff, h0]
      simp only [unusedC, plainC, z0, hv, Bool.and_eq_true, beq_iff_eq]
      simp only [true_and, and_true]
      omega
    · rw [Bool.eq_iff_iff]
      simp [unusedC, plainC, z0, hv]

theorem bare_c (c : Cd) (hb : c.Big) (tok : Nat → Bool) (nt : Nat) : DCall Tryz.prog 84 [c.av] tok nt (B (unusedC c)) tok nt := by
  intro box nb
  have hs := sum7_bare hb
  have hd := show sum7 c = IntKind.i64.wrap (IntKind.i64.wrap (IntKind.i64.wrap (IntKind.i64.wrap (IntKind.i64.wrap (IntKind.i64.wrap (↑c.m.nodes.length + ↑c.m.edges.length) + ↑c.g.nodes.length) + ↑c.g.edges.length) + ↑c.sl.length) + c.vars) + ↑c.te.length) from rfl
  refine ACalls.of_body Tryz.func84 rfl (by kernel_rfl) follows_Tryz (by kernel_rfl) (by simp [Tryz.ntmps84]) ?_
  intro hbox htok
  simp only at hbox htok
  apply AL.start
  try (simp)
  repeat ((repeat (first | refine AL.seq ?_ | refine AL.block ?_ | refine AL.skip ?_ | refine AL.blk ?_)); (refine AL.region follows_Tryz (Nat.le_refl _) (by kernel_rfl) ?_); simp)
  rw [← hd]
  cases h0 : sum7 c == 0
  · rw [h0] at hs
    simp
    try (simp)
    repeat ((repeat (first | refine AL.seq ?_ | refine AL.block ?_ | refine AL.skip ?_ | refine AL.blk ?_)); (refine AL.region follows_Tryz (Nat.le_refl _) (by kernel_rfl) ?_); simp)
    repeat (first | refine AL.seq ?_ | refine AL.block ?_ | refine AL.skip ?_ | refine AL.blk ?_)
    refine AL.ret ?_
    try simp only [AU]
    refine ⟨by simp, Fin.data (by simp [resAs, resA]; rfl) hbox rfl htok (fun _ h => h) (Nat.le_refl _) ?_⟩
    simp [packA, ← hs]
  · rw [h0] at hs
    simp
    try (simp)
    repeat ((repeat (first | refine AL.seq ?_ | refine AL.block ?_ | refine AL.skip ?_ | refine AL.blk ?_)); (refine AL.region follows_Tryz (Nat.le_refl _) (by kernel_rfl) ?_); simp)
    repeat (first | refine AL.seq ?_ | refine AL.block ?_ | refine AL.skip ?_ | refine AL.blk ?_)
    refine AL.ret ?_
    try simp only [AU]
    refine ⟨by simp, Fin.data (by simp [resAs, resA]; rfl) hbox rfl htok (fun _ h => h) (Nat.le_refl _) ?_⟩
    simp [packA, ← hs]

def stSz (c : Cd) (nb : Nat) (box : Nat → Option (List (List AV))) (tok : Nat → Bool) (nt : Nat) (i : Nat) : AState :=
  ⟨tl [(4, I (measK c.kids i).1), (5, I (measK c.kids i).2), (6, I i), (1, .ptr (nb + 1) 0 0)], lb nb box [(1, [c.row])], tok, nt⟩

theorem size25_c : ∀ (n : Nat) (c : Cd), SizeOf.sizeOf c < n → c.Big → ∀ (tok : Nat → Bool) (nt : Nat), DCall Tryz.prog 22 [c.av] tok nt (.tup [I c.meas.1, I c.meas.2]) tok nt
  | 0, c, hn, _, tok, nt => absurd hn (Nat.not_lt_zero _)
  | n + 1, c, hn, hb, tok, nt => by
    intro box nb
    have ih := fun x (hx : x ∈ c.kids) => size25_c n x (by have := Cd.kid_lt hx; omega) (hb.kid x hx)
    have hkb := hb.kids
    rw [kidN_eq] at hkb
    have hR := c.meas_eq
    refine ACalls.of_body Tryz.func22 rfl (by kernel_rfl) follows_Tryz (by kernel_rfl) (by simp [Tryz.ntmps22]) ?_
    intro hbox htok
    simp only at hbox htok
    apply AL.start
    try (simp)
    repeat ((repeat (first | refine AL.seq ?_ | refine AL.block ?_ | refine AL.skip ?_ | refine AL.blk ?_)); (refine AL.region follows_Tryz (Nat.le_refl _) (by kernel_rfl) ?_); simp)
    repeat (first | refine AL.seq ?_ | refine AL.block ?_ | refine AL.skip ?_ | refine AL.blk ?_)
    refine AL.loopT (stSz c nb box tok nt) (fun i => i ≤ c.kids.length) (fun i => c.kids.length - i) 0 (Nat.zero_le _) (Weaks.mk (Nat.le_refl _) rfl (by simp [ToL, lk, measK_zero]) (by simp [BoxL, lk])) ?_
    rintro i S hi hS
    simp only [stSz] at hS
    subst hS
    have hw : IntKind.i64.wrap (↑i + 1) = ((i + 1 : Nat) : Int) := by rw [wrap_in (by omega) (by omega)]; rfl
    repeat (first | refine AL.seq ?_ | refine AL.block ?_ | refine AL.skip ?_ | refine AL.blk ?_)
    refine AL.region follows_Tryz (Nat.le_refl _) (by kernel_rfl) ?_
    simp
    repeat (first | refine AL.seq ?_ | refine AL.block ?_ | refine AL.skip ?_ | refine AL.blk ?_)
    refine AL.cond ?_
    simp
    refine ⟨fun hlt => ?_, fun hge => ?_⟩
    · have hS := measK_succ c.kids hlt
      have ihx := ih _ (List.getElem_mem hlt)
      repeat (first | refine AL.seq ?_ | refine AL.block ?_ | refine AL.skip ?_ | refine AL.blk ?_)
      refine AL.region follows_Tryz (Nat.le_refl _) (by kernel_rfl) ?_
      simp [hlt, Cd.cells_eq]
      generalize c.kids[i] = x at *
      refine Stop.of_d (ihx _ _) ?_
      simp
      try (simp [hw])
      repeat ((repeat (first | refine AL.seq ?_ | refine AL.block ?_ | refine AL.skip ?_ | refine AL.blk ?_)); (refine AL.region follows_Tryz (Nat.le_refl _) (by kernel_rfl) ?_); simp [hw])
      repeat (first | refine AL.seq ?_ | refine AL.block ?_ | refine AL.skip ?_ | refine AL.blk ?_)
      refine AL.nil ?_
      exact ⟨i + 1, hlt, by omega, Weaks.mk (Nat.le_refl _) rfl (by simp [ToL, lk, hS]) (by simp [BoxL, lk])⟩
    · repeat (first | refine AL.seq ?_ | refine AL.block ?_ | refine AL.skip ?_ | refine AL.blk ?_)
      refine AL.exit ?_
      simp only [AU, ↓reduceIte]
      have : i = c.kids.length := by omega
      subst this
      try (simp)
      repeat ((repeat (first | refine AL.seq ?_ | refine AL.block ?_ | refine AL.skip ?_ | refine AL.blk ?_)); (refine AL.region follows_Tryz (Nat.le_refl _) (by kernel_rfl) ?_); simp)
      by_cases h5 : c.kind = 5
      · have hb5 : (c.kind == 5) = true := by simp [h5]
        simp only [hb5]
        repeat (first | refine AL.seq ?_ | refine AL.block ?_ | refine AL.skip ?_ | refine AL.blk ?_)
        refine AL.cond ?_
        simp
        try (simp)
        repeat ((repeat (first | refine AL.seq ?_ | refine AL.block ?_ | refine AL.skip ?_ | refine AL.blk ?_)); (refine AL.region follows_Tryz (Nat.le_refl _) (by kernel_rfl) ?_); simp)
        repeat (first | refine AL.seq ?_ | refine AL.block ?_ | refine AL.skip ?_ | refine AL.blk ?_)
        refine AL.ret ?_
        try simp only [AU]
        refine ⟨by simp, Fin.data (by simp [resAs, resA]; rfl) hbox rfl htok (fun _ h => h) (Nat.le_refl _) ?_⟩
        simp [packA, hR, h5]
      · have hb5 : (c.kind == 5) = false := by simp [h5]
        simp only [hb5]
        repeat (first | refine AL.seq ?_ | refine AL.block ?_ | refine AL.skip ?_ | refine AL.blk ?_)
        refine AL.cond ?_
        simp
        try (simp)
        repeat ((repeat (first | refine AL.seq ?_ | refine AL.block ?_ | refine AL.skip ?_ | refine AL.blk ?_)); (refine AL.region follows_Tryz (Nat.le_refl _) (by kernel_rfl) ?_); simp)
        repeat (first | refine AL.seq ?_ | refine AL.block ?_ | refine AL.skip ?_ | refine AL.blk ?_)
        refine AL.ret ?_
        try simp only [AU]
        refine ⟨by simp, Fin.data (by simp [resAs, resA]; rfl) hbox rfl htok (fun _ h => h) (Nat.le_refl _) ?_⟩
        simp [packA, hR, h5]

theorem large32_c (c : Cd) (hb : c.Big) (tok : Nat → Bool) (nt : Nat) : DCall Tryz.prog 35 [c.av] tok nt (I (smallC c)) tok nt := by
  intro box nb
  have hm := size25_c _ c (Nat.lt_succ_self _) hb
  unfold smallC
  generalize c.meas = q at *
  refine ACalls.of_body Tryz.func35 rfl (by kernel_rfl) follows_Tryz (by kernel_rfl) (by simp [Tryz.ntmps35]) ?_
  intro hbox htok
  simp only at hbox htok
  apply AL.start
  try (simp)
  repeat ((repeat (first | refine AL.seq ?_ | refine AL.block ?_ | refine AL.skip ?_ | refine AL.blk ?_)); (refine AL.region follows_Tryz (Nat.le_refl _) (by kernel_rfl) ?_); simp)
  refine Stop.of_d (hm _ _) ?_
  simp
  try (simp)
  repeat ((repeat (first | refine AL.seq ?_ | refine AL.block ?_ | refine AL.skip ?_ | refine AL.blk ?_)); (refine AL.region follows_Tryz (Nat.le_refl _) (by kernel_rfl) ?_); simp)
  by_cases h1 : 2000 < q.1
  · simp [h1]
    try (simp)
    repeat ((repeat (first | refine AL.seq ?_ | refine AL.block ?_ | refine AL.skip ?_ | refine AL.blk ?_)); (refine AL.region follows_Tryz (Nat.le_refl _) (by kernel_rfl) ?_); simp)
    repeat (first | refine AL.seq ?_ | refine AL.block ?_ | refine AL.skip ?_ | refine AL.blk ?_)
    refine AL.cond ?_
    simp
    try (simp)
    repeat ((repeat (first | refine AL.seq ?_ | refine AL.block ?_ | refine AL.skip ?_ | refine AL.blk ?_)); (refine AL.region follows_Tryz (Nat.le_refl _) (by kernel_rfl) ?_); simp)
    repeat (first | refine AL.seq ?_ | refine AL.block ?_ | refine AL.skip ?_ | refine AL.blk ?_)
    refine AL.ret ?_
    try simp only [AU]
    refine ⟨by simp, Fin.data (by simp [resAs, resA]; rfl) hbox rfl htok (fun _ h => h) (Nat.le_refl _) ?_⟩
    simp [packA, h1]
  · by_cases h2 : 3 < q.2
    · simp [h1, h2]
      try (simp)
      repeat ((repeat (first | refine AL.seq ?_ | refine AL.block ?_ | refine AL.skip ?_ | refine AL.blk ?_)); (refine AL.region follows_Tryz (Nat.le_refl _) (by kernel_rfl) ?_); simp)
      repeat (first | refine AL.seq ?_ | refine AL.block ?_ | refine AL.skip ?_ | refine AL.blk ?_)
      refine AL.cond ?_
      simp
      try (simp)
      repeat ((repeat (first | refine AL.seq ?_ | refine AL.block ?_ | refine AL.skip ?_ | refine AL.blk ?_)); (refine AL.region follows_Tryz (Nat.le_refl _) (by kernel_rfl) ?_); simp)
      repeat (first | refine AL.seq ?_ | refine AL.block ?_ | refine AL.skip ?_ | refine AL.blk ?_)
      refine AL.ret ?_
      try simp only [AU]
      refine ⟨by simp, Fin.data (by simp [resAs, resA]; rfl) hbox rfl htok (fun _ h => h) (Nat.le_refl _) ?_⟩
      simp [packA, h1, h2]
    · simp [h1, h2]
      try (simp)
      repeat ((repeat (first | refine AL.seq ?_ | refine AL.block ?_ | refine AL.skip ?_ | refine AL.blk ?_)); (refine AL.region follows_Tryz (Nat.le_refl _) (by kernel_rfl) ?_); simp)
      repeat (first | refine AL.seq ?_ | refine AL.block ?_ | refine AL.skip ?_ | refine AL.blk ?_)
      refine AL.cond ?_
      simp
      try (simp)
      repeat ((repeat (first | refine AL.seq ?_ | refine AL.block ?_ | refine AL.skip ?_ | refine AL.blk ?_)); (refine AL.region follows_Tryz (Nat.le_refl _) (by kernel_rfl) ?_); simp)
      repeat (first | refine AL.seq ?_ | refine AL.block ?_ | refine AL.skip ?_ | refine AL.blk ?_)
      refine AL.ret ?_
      try simp only [AU]
      refine ⟨by simp, Fin.data (by simp [resAs, resA]; rfl) hbox rfl htok (fun _ h => h) (Nat.le_refl _) ?_⟩
      simp [packA, h1, h2]

theorem unused_plain {c : Cd} (h : unusedC c = true) : plainC c = true := by
  simp only [unusedC, Bool.and_eq_true] at h
  exact h.2.2.2.2

theorem shape48_c (c : Cd) (hb : c.Big) (tok : Nat → Bool) (nt : Nat) : DCall Tryz.prog 68 [c.av] tok nt (I (shapeC c)) tok nt := by
  intro box nb
  have hba := bare_c c hb
  refine ACalls.of_body Tryz.func68 rfl (by kernel_rfl) follows_Tryz (by kernel_rfl) (by simp [Tryz.ntmps68]) ?_
  intro hbox htok
  simp only at hbox htok
  apply AL.start
  try (simp)
  repeat ((repeat (first | refine AL.seq ?_ | refine AL.block ?_ | refine AL.skip ?_ | refine AL.blk ?_)); (refine AL.region follows_Tryz (Nat.le_refl _) (by kernel_rfl) ?_); simp)
  have hpl := fun h => unused_plain (c := c) h
  by_cases k1 : c.kind = 1
  · have b1 : (c.kind == 1) = true := by simp [k1]
    simp only [b1]
    repeat (first | refine AL.seq ?_ | refine AL.block ?_ | refine AL.skip ?_ | refine AL.blk ?_)
    refine AL.cond ?_
    simp
    by_cases h1 : 0 < c.kids.length
    · have hk0 : c.kids ≠ [] := by intro e; simp [e] at h1
      try (simp [h1])
      repeat ((repeat (first | refine AL.seq ?_ | refine AL.block ?_ | refine AL.skip ?_ | refine AL.blk ?_)); (refine AL.region follows_Tryz (Nat.le_refl _) (by kernel_rfl) ?_); simp [h1])
      repeat (first | refine AL.seq ?_ | refine AL.block ?_ | refine AL.skip ?_ | refine AL.blk ?_)
      refine AL.cond ?_
      simp
      try (simp)
      repeat ((repeat (first | refine AL.seq ?_ | refine AL.block ?_ | refine AL.skip ?_ | refine AL.blk ?_)); (refine AL.region follows_Tryz (Nat.le_refl _) (by kernel_rfl) ?_); simp)
      repeat (first | refine AL.seq ?_ | refine AL.block ?_ | refine AL.skip ?_ | refine AL.blk ?_)
      refine AL.ret ?_
      try simp only [AU]
      refine ⟨by simp, Fin.data (by simp [resAs, resA]; rfl) hbox rfl htok (fun _ h => h) (Nat.le_refl _) ?_⟩
      simp [packA, shapeC, okC, k1, h1, z0, hk0]
    · have hk0 : c.kids = [] := by simpa using h1
      try (simp [h1])
      repeat ((repeat (first | refine AL.seq ?_ | refine AL.block ?_ | refine AL.skip ?_ | refine AL.blk ?_)); (refine AL.region follows_Tryz (Nat.le_refl _) (by kernel_rfl) ?_); simp [h1])
      refine Stop.of_d (hba _ _) ?_
      simp
      try (simp)
      repeat ((repeat (first | refine AL.seq ?_ | refine AL.block ?_ | refine AL.skip ?_ | refine AL.blk ?_)); (refine AL.region follows_Tryz (Nat.le_refl _) (by kernel_rfl) ?_); simp)
      cases hu : unusedC c
      · repeat (first | refine AL.seq ?_ | refine AL.block ?_ | refine AL.skip ?_ | refine AL.blk ?_)
        refine AL.cond ?_
        simp
        try (simp)
        repeat ((repeat (first | refine AL.seq ?_ | refine AL.block ?_ | refine AL.skip ?_ | refine AL.blk ?_)); (refine AL.region follows_Tryz (Nat.le_refl _) (by kernel_rfl) ?_); simp)
        repeat (first | refine AL.seq ?_ | refine AL.block ?_ | refine AL.skip ?_ | refine AL.blk ?_)
        refine AL.ret ?_
        try simp only [AU]
        refine ⟨by simp, Fin.data (by simp [resAs, resA]; rfl) hbox rfl htok (fun _ h => h) (Nat.le_refl _) ?_⟩
        simp [packA, shapeC, okC, k1, h1, z0, hk0, hu]
      · repeat (first | refine AL.seq ?_ | refine AL.block ?_ | refine AL.skip ?_ | refine AL.blk ?_)
        refine AL.cond ?_
        simp
        try (simp)
        repeat ((repeat (first | refine AL.seq ?_ | refine AL.block ?_ | refine AL.skip ?_ | refine AL.blk ?_)); (refine AL.region follows_Tryz (Nat.le_refl _) (by kernel_rfl) ?_); simp)
        repeat (first | refine AL.seq ?_ | refine AL.block ?_ | refine AL.skip ?_ | refine AL.blk ?_)
        refine AL.ret ?_
        try simp only [AU]
        refine ⟨by simp, Fin.data (by simp [resAs, resA]; rfl) hbox rfl htok (fun _ h => h) (Nat.le_refl _) ?_⟩
        simp [packA, shapeC, okC, k1, h1, z0, hk0, hu, hpl hu]
  · have b1 : (c.kind == 1) = false := by simp [k1]
    simp only [b1]
    repeat (first | refine AL.seq ?_ | refine AL.block ?_ | refine AL.skip ?_ | refine AL.blk ?_)
    refine AL.cond ?_
    simp
    try (simp)
    repeat ((repeat (first | refine AL.seq ?_ | refine AL.block ?_ | refine AL.skip ?_ | refine AL.blk ?_)); (refine AL.region follows_Tryz (Nat.le_refl _) (by kernel_rfl) ?_); simp)
    by_cases k2 : c.kind = 2
    · have b2 : (c.kind == 2) = true := by simp [k2]
      simp only [b2]
      repeat (first | refine AL.seq ?_ | refine AL.block ?_ | refine AL.skip ?_ | refine AL.blk ?_)
      refine AL.cond ?_
      simp
      by_cases h1 : (c.kids.length : Int) = 1
      · have n1 : ((c.kids.length : Int) != 1) = false := by simp [h1]
        try (simp [n1])
        repeat ((repeat (first | refine AL.seq ?_ | refine AL.block ?_ | refine AL.skip ?_ | refine AL.blk ?_)); (refine AL.region follows_Tryz (Nat.le_refl _) (by kernel_rfl) ?_); simp [n1])
        refine Stop.of_d (hba _ _) ?_
        simp
        try (simp)
        repeat ((repeat (first | refine AL.seq ?_ | refine AL.block ?_ | refine AL.skip ?_ | refine AL.blk ?_)); (refine AL.region follows_Tryz (Nat.le_refl _) (by kernel_rfl) ?_); simp)
        cases hu : unusedC c
        · repeat (first | refine AL.seq ?_ | refine AL.block ?_ | refine AL.skip ?_ | refine AL.blk ?_)
          refine AL.cond ?_
          simp
          try (simp)
          repeat ((repeat (first | refine AL.seq ?_ | refine AL.block ?_ | refine AL.skip ?_ | refine AL.blk ?_)); (refine AL.region follows_Tryz (Nat.le_refl _) (by kernel_rfl) ?_); simp)
          repeat (first | refine AL.seq ?_ | refine AL.block ?_ | refine AL.skip ?_ | refine AL.blk ?_)
          refine AL.ret ?_
          try simp only [AU]
          refine ⟨by simp, Fin.data (by simp [resAs, resA]; rfl) hbox rfl htok (fun _ h => h) (Nat.le_refl _) ?_⟩
          simp [packA, shapeC, okC, k2, h1, z0, hu]
        · repeat (first | refine AL.seq ?_ | refine AL.block ?_ | refine AL.skip ?_ | refine AL.blk ?_)
          refine AL.cond ?_
          simp
          try (simp)
          repeat ((repeat (first | refine AL.seq ?_ | refine AL.block ?_ | refine AL.skip ?_ | refine AL.blk ?_)); (refine AL.region follows_Tryz (Nat.le_refl _) (by kernel_rfl) ?_); simp)
          repeat (first | refine AL.seq ?_ | refine AL.block ?_ | refine AL.skip ?_ | refine AL.blk ?_)
          refine AL.ret ?_
          try simp only [AU]
          refine ⟨by simp, Fin.data (by simp [resAs, resA]; rfl) hbox rfl htok (fun _ h => h) (Nat.le_refl _) ?_⟩
          simp [packA, shapeC, okC, k2, h1, z0, hu, hpl hu]
      · have n1 : ((c.kids.length : Int) != 1) = true := by simp [h1]
        try (simp [n1])
        repeat ((repeat (first | refine AL.seq ?_ | refine AL.block ?_ | refine AL.skip ?_ | refine AL.blk ?_)); (refine AL.region follows_Tryz (Nat.le_refl _) (by kernel_rfl) ?_); simp [n1])
        repeat (first | refine AL.seq ?_ | refine AL.block ?_ | refine AL.skip ?_ | refine AL.blk ?_)
        refine AL.cond ?_
        simp
        try (simp)
        repeat ((repeat (first | refine AL.seq ?_ | refine AL.block ?_ | refine AL.skip ?_ | refine AL.blk ?_)); (refine AL.region follows_Tryz (Nat.le_refl _) (by kernel_rfl) ?_); simp)
        repeat (first | refine AL.seq ?_ | refine AL.block ?_ | refine AL.skip ?_ | refine AL.blk ?_)
        refine AL.ret ?_
        try simp only [AU]
        refine ⟨by simp, Fin.data (by simp [resAs, resA]; rfl) hbox rfl htok (fun _ h => h) (Nat.le_refl _) ?_⟩
        simp [packA, shapeC, okC, k2, h1, z0]
    · have b2 : (c.kind == 2) = false := by simp [k2]
      simp only [b2]
      repeat (first | refine AL.seq ?_ | refine AL.block ?_ | refine AL.skip ?_ | refine AL.blk ?_)
      refine AL.cond ?_
      simp
      try (simp)
      repeat ((repeat (first | refine AL.seq ?_ | refine AL.block ?_ | refine AL.skip ?_ | refine AL.blk ?_)); (refine AL.region follows_Tryz (Nat.le_refl _) (by kernel_rfl) ?_); simp)
      refine AL.mid ⟨tl [(27, B (decide (c.kind = 3 ∨ c.kind = 4))), (8, I c.kind), (3, I c.kids.length), (1, .ptr (nb + 1) 0 0), (2, I 0)], lb nb box [(1, [c.row])], tok, nt⟩ ?_ ?_
      · by_cases k3 : c.kind = 3
        · have b3 : (c.kind == 3) = true := by simp [k3]
          simp only [b3]
          repeat (first | refine AL.seq ?_ | refine AL.block ?_ | refine AL.skip ?_ | refine AL.blk ?_)
          refine AL.cond ?_
          simp
          try (simp)
          repeat ((repeat (first | refine AL.seq ?_ | refine AL.block ?_ | refine AL.skip ?_ | refine AL.blk ?_)); (refine AL.region follows_Tryz (Nat.le_refl _) (by kernel_rfl) ?_); simp)
          repeat (first | refine AL.seq ?_ | refine AL.block ?_ | refine AL.skip ?_ | refine AL.blk ?_)
          refine AL.nil ?_
          exact Weaks.mk (Nat.le_refl _) rfl (by simp [ToL, lk, k3]) (by simp [BoxL, lk])
        · have b3 : (c.kind == 3) = false := by simp [k3]
          simp only [b3]
          repeat (first | refine AL.seq ?_ | refine AL.block ?_ | refine AL.skip ?_ | refine AL.blk ?_)
          refine AL.cond ?_
          simp
          try (simp)
          repeat ((repeat (first | refine AL.seq ?_ | refine AL.block ?_ | refine AL.skip ?_ | refine AL.blk ?_)); (refine AL.region follows_Tryz (Nat.le_refl _) (by kernel_rfl) ?_); simp)
          by_cases k4 : c.kind = 4
          · try (simp)
            repeat ((repeat (first | refine AL.seq ?_ | refine AL.block ?_ | refine AL.skip ?_ | refine AL.blk ?_)); (refine AL.region follows_Tryz (Nat.le_refl _) (by kernel_rfl) ?_); simp)
            repeat (first | refine AL.seq ?_ | refine AL.block ?_ | refine AL.skip ?_ | refine AL.blk ?_)
            refine AL.nil ?_
            exact Weaks.mk (Nat.le_refl _) rfl (by simp [ToL, lk, k4]) (by simp [BoxL, lk])
          · have n4 : (c.kind == 4) = false := by simp [k4]
            try (simp)
            repeat ((repeat (first | refine AL.seq ?_ | refine AL.block ?_ | refine AL.skip ?_ | refine AL.blk ?_)); (refine AL.region follows_Tryz (Nat.le_refl _) (by kernel_rfl) ?_); simp)
            repeat (first | refine AL.seq ?_ | refine AL.block ?_ | refine AL.skip ?_ | refine AL.blk ?_)
            refine AL.nil ?_
            exact Weaks.mk (Nat.le_refl _) rfl (by simp [ToL, lk, k3, k4, n4]) (by simp [BoxL, lk])
      · by_cases k34 : c.kind = 3 ∨ c.kind = 4
        · have d34 : decide (c.kind = 3 ∨ c.kind = 4) = true := decide_eq_true k34
          simp only [d34]
          repeat (first | refine AL.seq ?_ | refine AL.block ?_ | refine AL.skip ?_ | refine AL.blk ?_)
          refine AL.cond ?_
          simp
          by_cases h1 : c.kids.length = 0
          · have n1 : ((c.kids.length : Int) == 0) = true := by simp [h1]
            have hk0 : c.kids = [] := by simpa using h1
            try (simp [n1, h1])
            repeat ((repeat (first | refine AL.seq ?_ | refine AL.block ?_ | refine AL.skip ?_ | refine AL.blk ?_)); (refine AL.region follows_Tryz (Nat.le_refl _) (by kernel_rfl) ?_); simp [n1, h1])
            repeat (first | refine AL.seq ?_ | refine AL.block ?_ | refine AL.skip ?_ | refine AL.blk ?_)
            refine AL.cond ?_
            simp
            try (simp)
            repeat ((repeat (first | refine AL.seq ?_ | refine AL.block ?_ | refine AL.skip ?_ | refine AL.blk ?_)); (refine AL.region follows_Tryz (Nat.le_refl _) (by kernel_rfl) ?_); simp)
            repeat (first | refine AL.seq ?_ | refine AL.block ?_ | refine AL.skip ?_ | refine AL.blk ?_)
            refine AL.ret ?_
            try simp only [AU]
            refine ⟨by simp, Fin.data (by simp [resAs, resA]; rfl) hbox rfl htok (fun _ h => h) (Nat.le_refl _) ?_⟩
            simp [packA, shapeC, okC, k1, k2, k34, h1]
          · have n1 : ((c.kids.length : Int) == 0) = false := by simp [h1]
            have hk0 : c.kids ≠ [] := by intro e; simp [e] at h1
            have hk1 : 0 < c.kids.length := by omega
            try (simp [n1, hk0])
            repeat ((repeat (first | refine AL.seq ?_ | refine AL.block ?_ | refine AL.skip ?_ | refine AL.blk ?_)); (refine AL.region follows_Tryz (Nat.le_refl _) (by kernel_rfl) ?_); simp [n1, hk0])
            refine Stop.of_d (hba _ _) ?_
            simp
            try (simp)
            repeat ((repeat (first | refine AL.seq ?_ | refine AL.block ?_ | refine AL.skip ?_ | refine AL.blk ?_)); (refine AL.region follows_Tryz (Nat.le_refl _) (by kernel_rfl) ?_); simp)
            cases hu : unusedC c
            · repeat (first | refine AL.seq ?_ | refine AL.block ?_ | refine AL.skip ?_ | refine AL.blk ?_)
              refine AL.cond ?_
              simp
              try (simp)
              repeat ((repeat (first | refine AL.seq ?_ | refine AL.block ?_ | refine AL.skip ?_ | refine AL.blk ?_)); (refine AL.region follows_Tryz (Nat.le_refl _) (by kernel_rfl) ?_); simp)
              repeat (first | refine AL.seq ?_ | refine AL.block ?_ | refine AL.skip ?_ | refine AL.blk ?_)
              refine AL.ret ?_
              try simp only [AU]
              refine ⟨by simp, Fin.data (by simp [resAs, resA]; rfl) hbox rfl htok (fun _ h => h) (Nat.le_refl _) ?_⟩
              simp [packA, shapeC, okC, k1, k2, k34, hk1, hu]
            · repeat (first | refine AL.seq ?_ | refine AL.block ?_ | refine AL.skip ?_ | refine AL.blk ?_)
              refine AL.cond ?_
              simp
              try (simp)
              repeat ((repeat (first | refine AL.seq ?_ | refine AL.block ?_ | refine AL.skip ?_ | refine AL.blk ?_)); (refine AL.region follows_Tryz (Nat.le_refl _) (by kernel_rfl) ?_); simp)
              repeat (first | refine AL.seq ?_ | refine AL.block ?_ | refine AL.skip ?_ | refine AL.blk ?_)
              refine AL.ret ?_
              try simp only [AU]
              refine ⟨by simp, Fin.data (by simp [resAs, resA]; rfl) hbox rfl htok (fun _ h => h) (Nat.le_refl _) ?_⟩
              simp [packA, shapeC, okC, k1, k2, k34, hk1, hu, hpl hu]
        · have d34 : decide (c.kind = 3 ∨ c.kind = 4) = false := decide_eq_false k34
          simp only [d34]
          repeat (first | refine AL.seq ?_ | refine AL.block ?_ | refine AL.skip ?_ | refine AL.blk ?_)
          refine AL.cond ?_
          simp
          try (simp)
          repeat ((repeat (first | refine AL.seq ?_ | refine AL.block ?_ | refine AL.skip ?_ | refine AL.blk ?_)); (refine AL.region follows_Tryz (Nat.le_refl _) (by kernel_rfl) ?_); simp)
          by_cases k5 : c.kind = 5
          · have n5 : (c.kind == 5) = true := by simp [k5]
            have h3 : ¬ ((5 : Int) = 3 ∨ (5 : Int) = 4) := by decide
            simp only [n5]
            repeat (first | refine AL.seq ?_ | refine AL.block ?_ | refine AL.skip ?_ | refine AL.blk ?_)
            refine AL.cond ?_
            simp
            try (simp)
            repeat ((repeat (first | refine AL.seq ?_ | refine AL.block ?_ | refine AL.skip ?_ | refine AL.blk ?_)); (refine AL.region follows_Tryz (Nat.le_refl _) (by kernel_rfl) ?_); simp)
            by_cases h1 : (c.kids.length : Int) = 1
            · have n1 : ((c.kids.length : Int) != 1) = false := by simp [h1]
              simp only [n1]
              repeat (first | refine AL.seq ?_ | refine AL.block ?_ | refine AL.skip ?_ | refine AL.blk ?_)
              refine AL.cond ?_
              simp
              by_cases h4 : 0 < c.sl.length
              · have hp : plainC c = false := by simp [plainC, z0]; intro e; simp [e] at h4
                try (simp [h4])
                repeat ((repeat (first | refine AL.seq ?_ | refine AL.block ?_ | refine AL.skip ?_ | refine AL.blk ?_)); (refine AL.region follows_Tryz (Nat.le_refl _) (by kernel_rfl) ?_); simp [h4])
                repeat (first | refine AL.seq ?_ | refine AL.block ?_ | refine AL.skip ?_ | refine AL.blk ?_)
                refine AL.cond ?_
                simp
                try (simp)
                repeat ((repeat (first | refine AL.seq ?_ | refine AL.block ?_ | refine AL.skip ?_ | refine AL.blk ?_)); (refine AL.region follows_Tryz (Nat.le_refl _) (by kernel_rfl) ?_); simp)
                repeat (first | refine AL.seq ?_ | refine AL.block ?_ | refine AL.skip ?_ | refine AL.blk ?_)
                refine AL.ret ?_
                try simp only [AU]
                refine ⟨by simp, Fin.data (by simp [resAs, resA]; rfl) hbox rfl htok (fun _ h => h) (Nat.le_refl _) ?_⟩
                simp [packA, shapeC, okC, k5, h1, hp]
              · have h4' : c.sl = [] := by simpa using h4
                by_cases h5 : c.vars = 0
                · by_cases h6 : 0 < c.te.length
                  · have hp : plainC c = false := by simp [plainC, z0]; intro _ _ e; simp [e] at h6
                    try (simp [h4, h5, h6])
                    repeat ((repeat (first | refine AL.seq ?_ | refine AL.block ?_ | refine AL.skip ?_ | refine AL.blk ?_)); (refine AL.region follows_Tryz (Nat.le_refl _) (by kernel_rfl) ?_); simp [h4, h5, h6])
                    repeat (first | refine AL.seq ?_ | refine AL.block ?_ | refine AL.skip ?_ | refine AL.blk ?_)
                    refine AL.cond ?_
                    simp
                    try (simp)
                    repeat ((repeat (first | refine AL.seq ?_ | refine AL.block ?_ | refine AL.skip ?_ | refine AL.blk ?_)); (refine AL.region follows_Tryz (Nat.le_refl _) (by kernel_rfl) ?_); simp)
                    repeat (first | refine AL.seq ?_ | refine AL.block ?_ | refine AL.skip ?_ | refine AL.blk ?_)
                    refine AL.ret ?_
                    try simp only [AU]
                    refine ⟨by simp, Fin.data (by simp [resAs, resA]; rfl) hbox rfl htok (fun _ h => h) (Nat.le_refl _) ?_⟩
                    simp [packA, shapeC, okC, k5, h1, hp]
                  · have h6' : c.te = [] := by simpa using h6
                    have hp : plainC c = true := by simp [plainC, z0, h4', h5, h6']
                    try (simp [h4, h5, h6])
                    repeat ((repeat (first | refine AL.seq ?_ | refine AL.block ?_ | refine AL.skip ?_ | refine AL.blk ?_)); (refine AL.region follows_Tryz (Nat.le_refl _) (by kernel_rfl) ?_); simp [h4, h5, h6])
                    repeat (first | refine AL.seq ?_ | refine AL.block ?_ | refine AL.skip ?_ | refine AL.blk ?_)
                    refine AL.cond ?_
                    simp
                    try (simp)
                    repeat ((repeat (first | refine AL.seq ?_ | refine AL.block ?_ | refine AL.skip ?_ | refine AL.blk ?_)); (refine AL.region follows_Tryz (Nat.le_refl _) (by kernel_rfl) ?_); simp)
                    repeat (first | refine AL.seq ?_ | refine AL.block ?_ | refine AL.skip ?_ | refine AL.blk ?_)
                    refine AL.ret ?_
                    try simp only [AU]
                    refine ⟨by simp, Fin.data (by simp [resAs, resA]; rfl) hbox rfl htok (fun _ h => h) (Nat.le_refl _) ?_⟩
                    simp [packA, shapeC, okC, k5, h1, hp]
                · have hp : plainC c = false := by simp [plainC, z0, h5]
                  have n7 : (c.vars != 0) = true := by simp [h5]
                  try (simp [h4, n7])
                  repeat ((repeat (first | refine AL.seq ?_ | refine AL.block ?_ | refine AL.skip ?_ | refine AL.blk ?_)); (refine AL.region follows_Tryz (Nat.le_refl _) (by kernel_rfl) ?_); simp [h4, n7])
                  repeat (first | refine AL.seq ?_ | refine AL.block ?_ | refine AL.skip ?_ | refine AL.blk ?_)
                  refine AL.cond ?_
                  simp
                  try (simp)
                  repeat ((repeat (first | refine AL.seq ?_ | refine AL.block ?_ | refine AL.skip ?_ | refine AL.blk ?_)); (refine AL.region follows_Tryz (Nat.le_refl _) (by kernel_rfl) ?_); simp)
                  repeat (first | refine AL.seq ?_ | refine AL.block ?_ | refine AL.skip ?_ | refine AL.blk ?_)
                  refine AL.ret ?_
                  try simp only [AU]
                  refine ⟨by simp, Fin.data (by simp [resAs, resA]; rfl) hbox rfl htok (fun _ h => h) (Nat.le_refl _) ?_⟩
                  simp [packA, shapeC, okC, k5, h1, hp]
            · have n1 : ((c.kids.length : Int) != 1) = true := by simp [h1]
              simp only [n1]
              repeat (first | refine AL.seq ?_ | refine AL.block ?_ | refine AL.skip ?_ | refine AL.blk ?_)
              refine AL.cond ?_
              simp
              try (simp)
              repeat ((repeat (first | refine AL.seq ?_ | refine AL.block ?_ | refine AL.skip ?_ | refine AL.blk ?_)); (refine AL.region follows_Tryz (Nat.le_refl _) (by kernel_rfl) ?_); simp)
              repeat (first | refine AL.seq ?_ | refine AL.block ?_ | refine AL.skip ?_ | refine AL.blk ?_)
              refine AL.ret ?_
              try simp only [AU]
              refine ⟨by simp, Fin.data (by simp [resAs, resA]; rfl) hbox rfl htok (fun _ h => h) (Nat.le_refl _) ?_⟩
              simp [packA, shapeC, okC, k5, h1]
          · have n5 : (c.kind == 5) = false := by simp [k5]
            simp only [n5]
            repeat (first | refine AL.seq ?_ | refine AL.block ?_ | refine AL.skip ?_ | refine AL.blk ?_)
            refine AL.cond ?_
            simp
            try (simp)
            repeat ((repeat (first | refine AL.seq ?_ | refine AL.block ?_ | refine AL.skip ?_ | refine AL.blk ?_)); (refine AL.region follows_Tryz (Nat.le_refl _) (by kernel_rfl) ?_); simp)
            repeat (first | refine AL.seq ?_ | refine AL.block ?_ | refine AL.skip ?_ | refine AL.blk ?_)
            refine AL.ret ?_
            try simp only [AU]
            refine ⟨by simp, Fin.data (by simp [resAs, resA]; rfl) hbox rfl htok (fun _ h => h) (Nat.le_refl _) ?_⟩
            simp [packA, shapeC, okC, k1, k2, k34, k5]

end Go.AM
/-
  The reference's over, Valid, fits, Light.
-/
namespace Go.AM
open Go Go.Proofs
set_option linter.unusedSimpArgs false
set_option linter.unusedVariables false

def stO6 (a : Gr) (c : Cd) (nb : Nat) (box : Nat → Option (List (List AV))) (tok : Nat → Bool) (nt : Nat) (i : Nat) : AState :=
  ⟨tl [(7, I i), (2, .ptr (nb + 2) 0 0), (3, .ptr (nb + 3) 0 0)], lb nb box [(2, [a.cells2]), (3, [c.row])], tok, nt⟩

theorem shape_kind {c : Cd} (h : shapeC c = 0) (h5 : c.kind = 5) : c.kids.length = 1 := by
  unfold shapeC at h
  split at h
  · rename_i hk
    simp [okC, h5] at hk
    omega
  · omega
theorem errL_one {f : Cd → Int} {l : List Cd} (h : l.length = 1) : errL f l = f (l[0]'(by omega)) := by
  match l, h with
  | [x], _ => simp only [errL]; split <;> simp_all

theorem over36_c : ∀ (n : Nat) (c : Cd), SizeOf.sizeOf c < n → c.Fit → ∀ (a : Gr), a.Fit → ∀ (tok : Nat → Bool) (nt : Nat), DCall Tryz.prog 43 [a.av, c.av] tok nt (I (c.ovr a)) tok nt
  | 0, c, hn, _, a, _, tok, nt => absurd hn (Nat.not_lt_zero _)
  | n + 1, c, hn, hb, a, ha, tok, nt => by
    intro box nb
    have ih := fun x (hx : x ∈ c.kids) => over36_c n x (by have := Cd.kid_lt hx; omega) (hb.kid x hx)
    have hkb := hb.kids
    rw [kidN_eq] at hkb
    have hR := c.ovr_eq a
    have hsh := shape48_c c hb.big
    have hva := valid53_c a c.g c.m ha hb.g
    have hin := injective26_c a c.g c.m ha hb.g hb.m
    have hg := hb.g
    refine ACalls.of_body Tryz.func43 rfl (by kernel_rfl) follows_Tryz (by kernel_rfl) (by simp [Tryz.ntmps43]) ?_
    intro hbox htok
    simp only at hbox htok
    apply AL.start
    try (simp)
    repeat ((repeat (first | refine AL.seq ?_ | refine AL.block ?_ | refine AL.skip ?_ | refine AL.blk ?_)); (refine AL.region follows_Tryz (Nat.le_refl _) (by kernel_rfl) ?_); simp)
    refine Stop.of_d (hsh _ _) ?_
    simp
    try (simp)
    repeat ((repeat (first | refine AL.seq ?_ | refine AL.block ?_ | refine AL.skip ?_ | refine AL.blk ?_)); (refine AL.region follows_Tryz (Nat.le_refl _) (by kernel_rfl) ?_); simp)
    by_cases h0 : shapeC c = 0
    · simp [h0]
      repeat (first | refine AL.seq ?_ | refine AL.block ?_ | refine AL.skip ?_ | refine AL.blk ?_)
      refine AL.cond ?_
      simp
      try (simp)
      repeat ((repeat (first | refine AL.seq ?_ | refine AL.block ?_ | refine AL.skip ?_ | refine AL.blk ?_)); (refine AL.region follows_Tryz (Nat.le_refl _) (by kernel_rfl) ?_); simp)
      have hst : ovrStep a c.kind c.m c.g = if c.kind = 5 then (if validM a c.g c.m ≠ 0 then validM a c.g c.m else if injM a c.g c.m = true then 0 else 1) else 0 := rfl
      by_cases k5 : c.kind = 5
      · have hii : c.inn a = c.g := if_pos k5
        have h1k := shape_kind h0 k5
        have hlt : 0 < c.kids.length := by omega
        rw [if_pos k5] at hst
        rw [hii, errL_one h1k] at hR
        have n5 : (c.kind == 5) = true := by simp [k5]
        simp only [n5]
        repeat (first | refine AL.seq ?_ | refine AL.block ?_ | refine AL.skip ?_ | refine AL.blk ?_)
        refine AL.cond ?_
        simp
        try (simp)
        repeat ((repeat (first | refine AL.seq ?_ | refine AL.block ?_ | refine AL.skip ?_ | refine AL.blk ?_)); (refine AL.region follows_Tryz (Nat.le_refl _) (by kernel_rfl) ?_); simp)
        refine Stop.of_d (hva _ _) ?_
        simp
        try (simp)
        repeat ((repeat (first | refine AL.seq ?_ | refine AL.block ?_ | refine AL.skip ?_ | refine AL.blk ?_)); (refine AL.region follows_Tryz (Nat.le_refl _) (by kernel_rfl) ?_); simp)
        by_cases h1 : validM a c.g c.m = 0
        · rw [if_neg (by simp [h1])] at hst
          simp [h1]
          repeat (first | refine AL.seq ?_ | refine AL.block ?_ | refine AL.skip ?_ | refine AL.blk ?_)
          refine AL.cond ?_
          simp
          try (simp)
          repeat ((repeat (first | refine AL.seq ?_ | refine AL.block ?_ | refine AL.skip ?_ | refine AL.blk ?_)); (refine AL.region follows_Tryz (Nat.le_refl _) (by kernel_rfl) ?_); simp)
          refine Stop.of_d (hin _ _) ?_
          simp
          try (simp)
          repeat ((repeat (first | refine AL.seq ?_ | refine AL.block ?_ | refine AL.skip ?_ | refine AL.blk ?_)); (refine AL.region follows_Tryz (Nat.le_refl _) (by kernel_rfl) ?_); simp)
          cases h2 : injM a c.g c.m
          · simp [h2] at hst
            repeat (first | refine AL.seq ?_ | refine AL.block ?_ | refine AL.skip ?_ | refine AL.blk ?_)
            refine AL.cond ?_
            simp
            try (simp)
            repeat ((repeat (first | refine AL.seq ?_ | refine AL.block ?_ | refine AL.skip ?_ | refine AL.blk ?_)); (refine AL.region follows_Tryz (Nat.le_refl _) (by kernel_rfl) ?_); simp)
            repeat (first | refine AL.seq ?_ | refine AL.block ?_ | refine AL.skip ?_ | refine AL.blk ?_)
            refine AL.ret ?_
            try simp only [AU]
            refine ⟨by simp, Fin.data (by simp [resAs, resA]; rfl) hbox rfl htok (fun _ h => h) (Nat.le_refl _) ?_⟩
            simp [packA, hR, h0, hst]
          · simp [h2] at hst
            have ihx := ih _ (List.getElem_mem hlt)
            repeat (first | refine AL.seq ?_ | refine AL.block ?_ | refine AL.skip ?_ | refine AL.blk ?_)
            refine AL.cond ?_
            simp
            try (simp [hlt, Cd.cells_eq])
            repeat ((repeat (first | refine AL.seq ?_ | refine AL.block ?_ | refine AL.skip ?_ | refine AL.blk ?_)); (refine AL.region follows_Tryz (Nat.le_refl _) (by kernel_rfl) ?_); simp [hlt, Cd.cells_eq])
            generalize c.kids[0] = x at *
            refine Stop.of_d (ihx _ hg _ _) ?_
            simp
            repeat (first | refine AL.seq ?_ | refine AL.block ?_ | refine AL.skip ?_ | refine AL.blk ?_)
            refine AL.ret ?_
            try simp only [AU]
            refine ⟨by simp, Fin.data (by simp [resAs, resA]; rfl) hbox rfl htok (fun _ h => h) (Nat.le_refl _) ?_⟩
            simp [packA, hR, h0, hst]
        · rw [if_pos (by simpa using h1)] at hst
          have b1 : (validM a c.g c.m != 0) = true := by simp [h1]
          simp only [b1]
          repeat (first | refine AL.seq ?_ | refine AL.block ?_ | refine AL.skip ?_ | refine AL.blk ?_)
          refine AL.cond ?_
          simp
          try (simp)
          repeat ((repeat (first | refine AL.seq ?_ | refine AL.block ?_ | refine AL.skip ?_ | refine AL.blk ?_)); (refine AL.region follows_Tryz (Nat.le_refl _) (by kernel_rfl) ?_); simp)
          repeat (first | refine AL.seq ?_ | refine AL.block ?_ | refine AL.skip ?_ | refine AL.blk ?_)
          refine AL.ret ?_
          try simp only [AU]
          refine ⟨by simp, Fin.data (by simp [resAs, resA]; rfl) hbox rfl htok (fun _ h => h) (Nat.le_refl _) ?_⟩
          simp [packA, hR, h0, hst, h1]
      · have hii : c.inn a = a := if_neg k5
        have n5 : (c.kind == 5) = false := by simp [k5]
        rw [if_neg k5] at hst
        rw [if_pos h0, if_pos hst, hii] at hR
        simp only [n5]
        repeat (first | refine AL.seq ?_ | refine AL.block ?_ | refine AL.skip ?_ | refine AL.blk ?_)
        refine AL.cond ?_
        simp
        try (simp)
        repeat ((repeat (first | refine AL.seq ?_ | refine AL.block ?_ | refine AL.skip ?_ | refine AL.blk ?_)); (refine AL.region follows_Tryz (Nat.le_refl _) (by kernel_rfl) ?_); simp)
        repeat (first | refine AL.seq ?_ | refine AL.block ?_ | refine AL.skip ?_ | refine AL.blk ?_)
        refine AL.loopT (stO6 a c nb box tok nt) (fun i => i ≤ c.kids.length ∧ ∀ x ∈ c.kids.take i, Cd.ovr x a = 0) (fun i => c.kids.length - i) 0 ⟨Nat.zero_le _, by simp⟩ (Weaks.mk (Nat.le_refl _) rfl (by simp [ToL, lk]) (by simp [BoxL, lk])) ?_
        rintro i S ⟨hi, hz⟩ hS
        simp only [stO6] at hS
        subst hS
        have hw : IntKind.i64.wrap (↑i + 1) = ((i + 1 : Nat) : Int) := by rw [wrap_in (by omega) (by omega)]; rfl
        try (simp)
        repeat ((repeat (first | refine AL.seq ?_ | refine AL.block ?_ | refine AL.skip ?_ | refine AL.blk ?_)); (refine AL.region follows_Tryz (Nat.le_refl _) (by kernel_rfl) ?_); simp)
        repeat (first | refine AL.seq ?_ | refine AL.block ?_ | refine AL.skip ?_ | refine AL.blk ?_)
        refine AL.cond ?_
        simp
        refine ⟨fun hlt => ?_, fun hge => ?_⟩
        · have ihx := ih _ (List.getElem_mem hlt)
          have hyes := errL_more (f := fun x => Cd.ovr x a) hlt hz
          have hno := errL_at (f := fun x => Cd.ovr x a) hlt hz
          try (simp [hlt, Cd.cells_eq])
          repeat ((repeat (first | refine AL.seq ?_ | refine AL.block ?_ | refine AL.skip ?_ | refine AL.blk ?_)); (refine AL.region follows_Tryz (Nat.le_refl _) (by kernel_rfl) ?_); simp [hlt, Cd.cells_eq])
          generalize c.kids[i] = x at *
          refine Stop.of_d (ihx _ ha _ _) ?_
          simp
          try (simp)
          repeat ((repeat (first | refine AL.seq ?_ | refine AL.block ?_ | refine AL.skip ?_ | refine AL.blk ?_)); (refine AL.region follows_Tryz (Nat.le_refl _) (by kernel_rfl) ?_); simp)
          by_cases h1 : x.ovr a = 0
          · simp only [h1]
            repeat (first | refine AL.seq ?_ | refine AL.block ?_ | refine AL.skip ?_ | refine AL.blk ?_)
            refine AL.cond ?_
            simp
            try (simp [hw])
            repeat ((repeat (first | refine AL.seq ?_ | refine AL.block ?_ | refine AL.skip ?_ | refine AL.blk ?_)); (refine AL.region follows_Tryz (Nat.le_refl _) (by kernel_rfl) ?_); simp [hw])
            repeat (first | refine AL.seq ?_ | refine AL.block ?_ | refine AL.skip ?_ | refine AL.blk ?_)
            refine AL.nil ?_
            exact ⟨i + 1, ⟨hlt, hyes h1⟩, by omega, Weaks.mk (Nat.le_refl _) rfl (by simp [ToL, lk]) (by simp [BoxL, lk])⟩
          · have b1 : (x.ovr a != 0) = true := by simp [h1]
            simp only [b1]
            repeat (first | refine AL.seq ?_ | refine AL.block ?_ | refine AL.skip ?_ | refine AL.blk ?_)
            refine AL.cond ?_
            simp
            try (simp)
            repeat ((repeat (first | refine AL.seq ?_ | refine AL.block ?_ | refine AL.skip ?_ | refine AL.blk ?_)); (refine AL.region follows_Tryz (Nat.le_refl _) (by kernel_rfl) ?_); simp)
            repeat (first | refine AL.seq ?_ | refine AL.block ?_ | refine AL.skip ?_ | refine AL.blk ?_)
            refine AL.ret ?_
            try simp only [AU]
            refine ⟨by simp, Fin.data (by simp [resAs, resA]; rfl) hbox rfl htok (fun _ h => h) (Nat.le_refl _) ?_⟩
            simp [packA, hR, hno h1]
        · repeat (first | refine AL.seq ?_ | refine AL.block ?_ | refine AL.skip ?_ | refine AL.blk ?_)
          refine AL.exit ?_
          simp only [AU, ↓reduceIte]
          rw [List.take_of_length_le hge] at hz
          try (simp)
          repeat ((repeat (first | refine AL.seq ?_ | refine AL.block ?_ | refine AL.skip ?_ | refine AL.blk ?_)); (refine AL.region follows_Tryz (Nat.le_refl _) (by kernel_rfl) ?_); simp)
          repeat (first | refine AL.seq ?_ | refine AL.block ?_ | refine AL.skip ?_ | refine AL.blk ?_)
          refine AL.ret ?_
          try simp only [AU]
          refine ⟨by simp, Fin.data (by simp [resAs, resA]; rfl) hbox rfl htok (fun _ h => h) (Nat.le_refl _) ?_⟩
          simp [packA, hR, errL_all (f := fun x => Cd.ovr x a) hz]
    · rw [if_neg h0] at hR
      have b0 : (shapeC c != 0) = true := by simp [h0]
      simp only [b0]
      repeat (first | refine AL.seq ?_ | refine AL.block ?_ | refine AL.skip ?_ | refine AL.blk ?_)
      refine AL.cond ?_
      simp
      try (simp)
      repeat ((repeat (first | refine AL.seq ?_ | refine AL.block ?_ | refine AL.skip ?_ | refine AL.blk ?_)); (refine AL.region follows_Tryz (Nat.le_refl _) (by kernel_rfl) ?_); simp)
      repeat (first | refine AL.seq ?_ | refine AL.block ?_ | refine AL.skip ?_ | refine AL.blk ?_)
      refine AL.ret ?_
      try simp only [AU]
      refine ⟨by simp, Fin.data (by simp [resAs, resA]; rfl) hbox rfl htok (fun _ h => h) (Nat.le_refl _) ?_⟩
      simp [packA, hR]

theorem validR_c (a : Gr) (c : Cd) (ha : a.Fit) (hb : c.Fit) (tok : Nat → Bool) (nt : Nat) : DCall Tryz.prog 24 [a.av, c.av] tok nt (I (validC a c)) tok nt := by
  intro box nb
  have hg := valid05_c a ha
  have ho := over36_c _ c (Nat.lt_succ_self _) hb a ha
  have hs := large32_c c hb.big
  refine ACalls.of_body Tryz.func24 rfl (by kernel_rfl) follows_Tryz (by kernel_rfl) (by simp [Tryz.ntmps24]) ?_
  intro hbox htok
  simp only at hbox htok
  apply AL.start
  try (simp)
  repeat ((repeat (first | refine AL.seq ?_ | refine AL.block ?_ | refine AL.skip ?_ | refine AL.blk ?_)); (refine AL.region follows_Tryz (Nat.le_refl _) (by kernel_rfl) ?_); simp)
  refine Stop.of_d (hg _ _) ?_
  simp
  try (simp)
  repeat ((repeat (first | refine AL.seq ?_ | refine AL.block ?_ | refine AL.skip ?_ | refine AL.blk ?_)); (refine AL.region follows_Tryz (Nat.le_refl _) (by kernel_rfl) ?_); simp)
  by_cases h0 : validG a = 0
  · simp only [h0]
    repeat (first | refine AL.seq ?_ | refine AL.block ?_ | refine AL.skip ?_ | refine AL.blk ?_)
    refine AL.cond ?_
    simp
    try (simp)
    repeat ((repeat (first | refine AL.seq ?_ | refine AL.block ?_ | refine AL.skip ?_ | refine AL.blk ?_)); (refine AL.region follows_Tryz (Nat.le_refl _) (by kernel_rfl) ?_); simp)
    refine Stop.of_d (ho _ _) ?_
    simp
    try (simp)
    repeat ((repeat (first | refine AL.seq ?_ | refine AL.block ?_ | refine AL.skip ?_ | refine AL.blk ?_)); (refine AL.region follows_Tryz (Nat.le_refl _) (by kernel_rfl) ?_); simp)
    by_cases h1 : c.ovr a = 0
    · simp only [h1]
      repeat (first | refine AL.seq ?_ | refine AL.block ?_ | refine AL.skip ?_ | refine AL.blk ?_)
      refine AL.cond ?_
      simp
      try (simp)
      repeat ((repeat (first | refine AL.seq ?_ | refine AL.block ?_ | refine AL.skip ?_ | refine AL.blk ?_)); (refine AL.region follows_Tryz (Nat.le_refl _) (by kernel_rfl) ?_); simp)
      refine Stop.of_d (hs _ _) ?_
      simp
      try (simp)
      repeat ((repeat (first | refine AL.seq ?_ | refine AL.block ?_ | refine AL.skip ?_ | refine AL.blk ?_)); (refine AL.region follows_Tryz (Nat.le_refl _) (by kernel_rfl) ?_); simp)
      repeat (first | refine AL.seq ?_ | refine AL.block ?_ | refine AL.skip ?_ | refine AL.blk ?_)
      refine AL.ret ?_
      try simp only [AU]
      refine ⟨by simp, Fin.data (by simp [resAs, resA]; rfl) hbox rfl htok (fun _ h => h) (Nat.le_refl _) ?_⟩
      simp [packA, validC, h0, h1]
    · have b1 : (c.ovr a != 0) = true := by simp [h1]
      simp only [b1]
      repeat (first | refine AL.seq ?_ | refine AL.block ?_ | refine AL.skip ?_ | refine AL.blk ?_)
      refine AL.cond ?_
      simp
      try (simp)
      repeat ((repeat (first | refine AL.seq ?_ | refine AL.block ?_ | refine AL.skip ?_ | refine AL.blk ?_)); (refine AL.region follows_Tryz (Nat.le_refl _) (by kernel_rfl) ?_); simp)
      repeat (first | refine AL.seq ?_ | refine AL.block ?_ | refine AL.skip ?_ | refine AL.blk ?_)
      refine AL.ret ?_
      try simp only [AU]
      refine ⟨by simp, Fin.data (by simp [resAs, resA]; rfl) hbox rfl htok (fun _ h => h) (Nat.le_refl _) ?_⟩
      simp [packA, validC, h0, h1]
  · have b0 : (validG a != 0) = true := by simp [h0]
    simp only [b0]
    repeat (first | refine AL.seq ?_ | refine AL.block ?_ | refine AL.skip ?_ | refine AL.blk ?_)
    refine AL.cond ?_
    simp
    try (simp)
    repeat ((repeat (first | refine AL.seq ?_ | refine AL.block ?_ | refine AL.skip ?_ | refine AL.blk ?_)); (refine AL.region follows_Tryz (Nat.le_refl _) (by kernel_rfl) ?_); simp)
    repeat (first | refine AL.seq ?_ | refine AL.block ?_ | refine AL.skip ?_ | refine AL.blk ?_)
    refine AL.ret ?_
    try simp only [AU]
    refine ⟨by simp, Fin.data (by simp [resAs, resA]; rfl) hbox rfl htok (fun _ h => h) (Nat.le_refl _) ?_⟩
    simp [packA, validC, h0]

def fitHere (c : Cd) (n m : Int) : Bool := decide ((c.g.nodes.length : Int) ≤ n) && (decide ((c.g.edges.length : Int) ≤ m) && (decide (c.m.nodes.length ≤ 100) && (decide (c.m.edges.length ≤ 100) && (decide (c.sl.length ≤ 20) && decide (c.te.length ≤ 20)))))
mutual
def Cd.fits : Cd → Int → Int → Bool
  | .mk k c m g s v t, x, y => fitHere (.mk k c m g s v t) x y && Cd.fitsL c x y
def Cd.fitsL : List Cd → Int → Int → Bool
  | [], _, _ => true
  | x :: r, n, m => Cd.fits x n m && Cd.fitsL r n m
end
theorem Cd.fitsL_eq (n m : Int) : ∀ l : List Cd, Cd.fitsL l n m = l.all fun x => Cd.fits x n m
  | [] => by simp [Cd.fitsL]
  | x :: r => by simp [Cd.fitsL, Cd.fitsL_eq n m r]
theorem Cd.fits_eq (c : Cd) (n m : Int) : c.fits n m = (fitHere c n m && c.kids.all fun x => Cd.fits x n m) := by
  cases c
  rw [Cd.fits, Cd.fitsL_eq]
  rfl

def stFi (n m : Int) (c : Cd) (nb : Nat) (box : Nat → Option (List (List AV))) (tok : Nat → Bool) (nt : Nat) (i : Nat) : AState :=
  ⟨tl [(7, I i), (3, .ptr (nb + 3) 0 0), (1, I n), (2, I m)], lb nb box [(3, [c.row])], tok, nt⟩

set_option maxRecDepth 100000 in
theorem fits26_c : ∀ (k : Nat) (c : Cd), SizeOf.sizeOf c < k → c.Big → ∀ (n m : Int) (tok : Nat → Bool) (nt : Nat), DCall Tryz.prog 23 [c.av, I n, I m] tok nt (B (c.fits n m)) tok nt
  | 0, c, hn, _, n, m, tok, nt => absurd hn (Nat.not_lt_zero _)
  | k + 1, c, hn, hb, n, m, tok, nt => by
    intro box nb
    have ih := fun x (hx : x ∈ c.kids) => fits26_c k x (by have := Cd.kid_lt hx; omega) (hb.kid x hx)
    have hkb := hb.kids
    rw [kidN_eq] at hkb
    have hR := c.fits_eq n m
    refine ACalls.of_body Tryz.func23 rfl (by kernel_rfl) follows_Tryz (by kernel_rfl) (by simp [Tryz.ntmps23]) ?_
    intro hbox htok
    simp only at hbox htok
    apply AL.start
    by_cases h1 : n < (c.g.nodes.length : Int)
    · have hf : fitHere c n m = false := by simp [fitHere]; intros; omega
      try (simp [h1])
      repeat ((repeat (first | refine AL.seq ?_ | refine AL.block ?_ | refine AL.skip ?_ | refine AL.blk ?_)); (refine AL.region follows_Tryz (Nat.le_refl _) (by kernel_rfl) ?_); simp [h1])
      repeat (first | refine AL.seq ?_ | refine AL.block ?_ | refine AL.skip ?_ | refine AL.blk ?_)
      refine AL.cond ?_
      simp
      try (simp)
      repeat ((repeat (first | refine AL.seq ?_ | refine AL.block ?_ | refine AL.skip ?_ | refine AL.blk ?_)); (refine AL.region follows_Tryz (Nat.le_refl _) (by kernel_rfl) ?_); simp)
      repeat (first | refine AL.seq ?_ | refine AL.block ?_ | refine AL.skip ?_ | refine AL.blk ?_)
      refine AL.ret ?_
      try simp only [AU]
      refine ⟨by simp, Fin.data (by simp [resAs, resA]; rfl) hbox rfl htok (fun _ h => h) (Nat.le_refl _) ?_⟩
      simp [packA, hR, hf]
    · skip
      by_cases h2 : m < (c.g.edges.length : Int)
      · have hf : fitHere c n m = false := by simp [fitHere]; intros; omega
        try (simp [h1, h2])
        repeat ((repeat (first | refine AL.seq ?_ | refine AL.block ?_ | refine AL.skip ?_ | refine AL.blk ?_)); (refine AL.region follows_Tryz (Nat.le_refl _) (by kernel_rfl) ?_); simp [h1, h2])
        repeat (first | refine AL.seq ?_ | refine AL.block ?_ | refine AL.skip ?_ | refine AL.blk ?_)
        refine AL.cond ?_
        simp
        try (simp)
        repeat ((repeat (first | refine AL.seq ?_ | refine AL.block ?_ | refine AL.skip ?_ | refine AL.blk ?_)); (refine AL.region follows_Tryz (Nat.le_refl _) (by kernel_rfl) ?_); simp)
        repeat (first | refine AL.seq ?_ | refine AL.block ?_ | refine AL.skip ?_ | refine AL.blk ?_)
        refine AL.ret ?_
        try simp only [AU]
        refine ⟨by simp, Fin.data (by simp [resAs, resA]; rfl) hbox rfl htok (fun _ h => h) (Nat.le_refl _) ?_⟩
        simp [packA, hR, hf]
      · skip
        by_cases h3 : (100 : Int) < (c.m.nodes.length : Int)
        · have hf : fitHere c n m = false := by simp [fitHere]; intros; omega
          try (simp [h1, h2, h3])
          repeat ((repeat (first | refine AL.seq ?_ | refine AL.block ?_ | refine AL.skip ?_ | refine AL.blk ?_)); (refine AL.region follows_Tryz (Nat.le_refl _) (by kernel_rfl) ?_); simp [h1, h2, h3])
          repeat (first | refine AL.seq ?_ | refine AL.block ?_ | refine AL.skip ?_ | refine AL.blk ?_)
          refine AL.cond ?_
          simp
          try (simp)
          repeat ((repeat (first | refine AL.seq ?_ | refine AL.block ?_ | refine AL.skip ?_ | refine AL.blk ?_)); (refine AL.region follows_Tryz (Nat.le_refl _) (by kernel_rfl) ?_); simp)
          repeat (first | refine AL.seq ?_ | refine AL.block ?_ | refine AL.skip ?_ | refine AL.blk ?_)
          refine AL.ret ?_
          try simp only [AU]
          refine ⟨by simp, Fin.data (by simp [resAs, resA]; rfl) hbox rfl htok (fun _ h => h) (Nat.le_refl _) ?_⟩
          simp [packA, hR, hf]
        · skip
          by_cases h4 : (100 : Int) < (c.m.edges.length : Int)
          · have hf : fitHere c n m = false := by simp [fitHere]; intros; omega
            try (simp [h1, h2, h3, h4])
            repeat ((repeat (first | refine AL.seq ?_ | refine AL.block ?_ | refine AL.skip ?_ | refine AL.blk ?_)); (refine AL.region follows_Tryz (Nat.le_refl _) (by kernel_rfl) ?_); simp [h1, h2, h3, h4])
            repeat (first | refine AL.seq ?_ | refine AL.block ?_ | refine AL.skip ?_ | refine AL.blk ?_)
            refine AL.cond ?_
            simp
            try (simp)
            repeat ((repeat (first | refine AL.seq ?_ | refine AL.block ?_ | refine AL.skip ?_ | refine AL.blk ?_)); (refine AL.region follows_Tryz (Nat.le_refl _) (by kernel_rfl) ?_); simp)
            repeat (first | refine AL.seq ?_ | refine AL.block ?_ | refine AL.skip ?_ | refine AL.blk ?_)
            refine AL.ret ?_
            try simp only [AU]
            refine ⟨by simp, Fin.data (by simp [resAs, resA]; rfl) hbox rfl htok (fun _ h => h) (Nat.le_refl _) ?_⟩
            simp [packA, hR, hf]
          · skip
            by_cases h5 : (20 : Int) < (c.sl.length : Int)
            · have hf : fitHere c n m = false := by simp [fitHere]; intros; omega
              try (simp [h1, h2, h3, h4, h5])
              repeat ((repeat (first | refine AL.seq ?_ | refine AL.block ?_ | refine AL.skip ?_ | refine AL.blk ?_)); (refine AL.region follows_Tryz (Nat.le_refl _) (by kernel_rfl) ?_); simp [h1, h2, h3, h4, h5])
              repeat (first | refine AL.seq ?_ | refine AL.block ?_ | refine AL.skip ?_ | refine AL.blk ?_)
              refine AL.cond ?_
              simp
              try (simp)
              repeat ((repeat (first | refine AL.seq ?_ | refine AL.block ?_ | refine AL.skip ?_ | refine AL.blk ?_)); (refine AL.region follows_Tryz (Nat.le_refl _) (by kernel_rfl) ?_); simp)
              repeat (first | refine AL.seq ?_ | refine AL.block ?_ | refine AL.skip ?_ | refine AL.blk ?_)
              refine AL.ret ?_
              try simp only [AU]
              refine ⟨by simp, Fin.data (by simp [resAs, resA]; rfl) hbox rfl htok (fun _ h => h) (Nat.le_refl _) ?_⟩
              simp [packA, hR, hf]
            · skip
              by_cases h6 : (20 : Int) < (c.te.length : Int)
              · have hf : fitHere c n m = false := by simp [fitHere]; intros; omega
                try (simp [h1, h2, h3, h4, h5, h6])
                repeat ((repeat (first | refine AL.seq ?_ | refine AL.block ?_ | refine AL.skip ?_ | refine AL.blk ?_)); (refine AL.region follows_Tryz (Nat.le_refl _) (by kernel_rfl) ?_); simp [h1, h2, h3, h4, h5, h6])
                repeat (first | refine AL.seq ?_ | refine AL.block ?_ | refine AL.skip ?_ | refine AL.blk ?_)
                refine AL.cond ?_
                simp
                try (simp)
                repeat ((repeat (first | refine AL.seq ?_ | refine AL.block ?_ | refine AL.skip ?_ | refine AL.blk ?_)); (refine AL.region follows_Tryz (Nat.le_refl _) (by kernel_rfl) ?_); simp)
                repeat (first | refine AL.seq ?_ | refine AL.block ?_ | refine AL.skip ?_ | refine AL.blk ?_)
                refine AL.ret ?_
                try simp only [AU]
                refine ⟨by simp, Fin.data (by simp [resAs, resA]; rfl) hbox rfl htok (fun _ h => h) (Nat.le_refl _) ?_⟩
                simp [packA, hR, hf]
              · have hf : fitHere c n m = true := by simp [fitHere]; omega
                try (simp [h1, h2, h3, h4, h5, h6])
                repeat ((repeat (first | refine AL.seq ?_ | refine AL.block ?_ | refine AL.skip ?_ | refine AL.blk ?_)); (refine AL.region follows_Tryz (Nat.le_refl _) (by kernel_rfl) ?_); simp [h1, h2, h3, h4, h5, h6])
                repeat (first | refine AL.seq ?_ | refine AL.block ?_ | refine AL.skip ?_ | refine AL.blk ?_)
                refine AL.cond ?_
                simp
                try (simp)
                repeat ((repeat (first | refine AL.seq ?_ | refine AL.block ?_ | refine AL.skip ?_ | refine AL.blk ?_)); (refine AL.region follows_Tryz (Nat.le_refl _) (by kernel_rfl) ?_); simp)
                repeat (first | refine AL.seq ?_ | refine AL.block ?_ | refine AL.skip ?_ | refine AL.blk ?_)
                refine AL.loopT (stFi n m c nb box tok nt) (fun i => i ≤ c.kids.length ∧ ∀ x ∈ c.kids.take i, Cd.fits x n m = true) (fun i => c.kids.length - i) 0 ⟨Nat.zero_le _, by simp⟩ (Weaks.mk (Nat.le_refl _) rfl (by simp [ToL, lk]) (by simp [BoxL, lk])) ?_
                rintro i S ⟨hi, hz⟩ hS
                simp only [stFi] at hS
                subst hS
                have hw : IntKind.i64.wrap (↑i + 1) = ((i + 1 : Nat) : Int) := by rw [wrap_in (by omega) (by omega)]; rfl
                try (simp)
                repeat ((repeat (first | refine AL.seq ?_ | refine AL.block ?_ | refine AL.skip ?_ | refine AL.blk ?_)); (refine AL.region follows_Tryz (Nat.le_refl _) (by kernel_rfl) ?_); simp)
                repeat (first | refine AL.seq ?_ | refine AL.block ?_ | refine AL.skip ?_ | refine AL.blk ?_)
                refine AL.cond ?_
                simp
                refine ⟨fun hlt => ?_, fun hge => ?_⟩
                · have ihx := ih _ (List.getElem_mem hlt)
                  have hyes : Cd.fits c.kids[i] n m = true → ∀ x ∈ c.kids.take (i + 1), Cd.fits x n m = true := fun h x hx => by
                    rw [List.take_succ_eq_append_getElem hlt] at hx
                    rcases List.mem_append.1 hx with hx | hx
                    · exact hz x hx
                    · rw [List.mem_singleton] at hx; subst hx; exact h
                  have hno : Cd.fits c.kids[i] n m = false → (c.kids.all fun x => Cd.fits x n m) = false := fun h => by
                    rw [List.all_eq_false]
                    exact ⟨_, List.getElem_mem hlt, by simp [h]⟩
                  try (simp [hlt, Cd.cells_eq])
                  repeat ((repeat (first | refine AL.seq ?_ | refine AL.block ?_ | refine AL.skip ?_ | refine AL.blk ?_)); (refine AL.region follows_Tryz (Nat.le_refl _) (by kernel_rfl) ?_); simp [hlt, Cd.cells_eq])
                  generalize c.kids[i] = x at *
                  refine Stop.of_d (ihx _ _ _ _) ?_
                  simp
                  try (simp)
                  repeat ((repeat (first | refine AL.seq ?_ | refine AL.block ?_ | refine AL.skip ?_ | refine AL.blk ?_)); (refine AL.region follows_Tryz (Nat.le_refl _) (by kernel_rfl) ?_); simp)
                  cases h7 : x.fits n m
                  · have hno' := hno h7
                    repeat (first | refine AL.seq ?_ | refine AL.block ?_ | refine AL.skip ?_ | refine AL.blk ?_)
                    refine AL.cond ?_
                    simp
                    try (simp)
                    repeat ((repeat (first | refine AL.seq ?_ | refine AL.block ?_ | refine AL.skip ?_ | refine AL.blk ?_)); (refine AL.region follows_Tryz (Nat.le_refl _) (by kernel_rfl) ?_); simp)
                    repeat (first | refine AL.seq ?_ | refine AL.block ?_ | refine AL.skip ?_ | refine AL.blk ?_)
                    refine AL.ret ?_
                    try simp only [AU]
                    refine ⟨by simp, Fin.data (by simp [resAs, resA]; rfl) hbox rfl htok (fun _ h => h) (Nat.le_refl _) ?_⟩
                    simp [packA, hR, hf, hno']
                  · repeat (first | refine AL.seq ?_ | refine AL.block ?_ | refine AL.skip ?_ | refine AL.blk ?_)
                    refine AL.cond ?_
                    simp
                    try (simp [hw])
                    repeat ((repeat (first | refine AL.seq ?_ | refine AL.block ?_ | refine AL.skip ?_ | refine AL.blk ?_)); (refine AL.region follows_Tryz (Nat.le_refl _) (by kernel_rfl) ?_); simp [hw])
                    repeat (first | refine AL.seq ?_ | refine AL.block ?_ | refine AL.skip ?_ | refine AL.blk ?_)
                    refine AL.nil ?_
                    exact ⟨i + 1, ⟨hlt, hyes h7⟩, by omega, Weaks.mk (Nat.le_refl _) rfl (by simp [ToL, lk]) (by simp [BoxL, lk])⟩
                · repeat (first | refine AL.seq ?_ | refine AL.block ?_ | refine AL.skip ?_ | refine AL.blk ?_)
                  refine AL.exit ?_
                  simp only [AU, ↓reduceIte]
                  rw [List.take_of_length_le hge] at hz
                  have hal : (c.kids.all fun x => Cd.fits x n m) = true := by rw [List.all_eq_true]; exact hz
                  try (simp)
                  repeat ((repeat (first | refine AL.seq ?_ | refine AL.block ?_ | refine AL.skip ?_ | refine AL.blk ?_)); (refine AL.region follows_Tryz (Nat.le_refl _) (by kernel_rfl) ?_); simp)
                  repeat (first | refine AL.seq ?_ | refine AL.block ?_ | refine AL.skip ?_ | refine AL.blk ?_)
                  refine AL.ret ?_
                  try simp only [AU]
                  refine ⟨by simp, Fin.data (by simp [resAs, resA]; rfl) hbox rfl htok (fun _ h => h) (Nat.le_refl _) ?_⟩
                  simp [packA, hR, hf, hal]

/-! ### Light -/
theorem Cd.fits_fit {n m : Int} (hn : n ≤ 1000000) (hm : m ≤ 1000000) : ∀ (k : Nat) (c : Cd), SizeOf.sizeOf c < k → c.Big → c.fits n m = true → c.Fit
  | 0, c, hk, _, _ => absurd hk (Nat.not_lt_zero _)
  | k + 1, c, hk, hb, hf => by
    rw [c.fits_eq, Bool.and_eq_true, List.all_eq_true] at hf
    obtain ⟨h1, h2⟩ := hf
    simp only [fitHere, Bool.and_eq_true, decide_eq_true_eq] at h1
    exact ⟨hb.kids, ⟨by omega, by omega⟩, ⟨by omega, by omega⟩, by rw [bigN_eq]; omega, by rw [bigN_eq]; omega, fun x hx => Cd.fits_fit hn hm k x (by have := Cd.kid_lt hx; omega) (hb.kid x hx) (h2 x hx)⟩
def lightB (a : Gr) (c : Cd) : Bool :=
  if 60 < c.meas.1 then false else if c.fits 45 90 = false then false else if fewG a = false then false
  else if validC a c ≠ 0 then true else if 8 < c.meas.1 then false
  else if c.meas.2 ≤ 1 then (if c.fits 4 3 = true then true else c.fits 2 2)
  else if c.meas.2 ≤ 2 then c.fits 2 2 else false

set_option maxRecDepth 100000 in
theorem light9_c (a : Gr) (c : Cd) (hb : c.Big) (hv : 60 < c.meas.1 ∨ c.fits 45 90 = false ∨ fewG a = false ∨ ∀ tok nt, DCall Tryz.prog 24 [a.av, c.av] tok nt (I (validC a c)) tok nt) (tok : Nat → Bool) (nt : Nat) : DCall Tryz.prog 7 [a.av, c.av] tok nt (B (lightB a c)) tok nt := by
  intro box nb
  have hs := size25_c _ c (Nat.lt_succ_self _) hb
  have hf := fits26_c _ c (Nat.lt_succ_self _) hb
  have hw := few05_c a
  refine ACalls.of_body Tryz.func7 rfl (by kernel_rfl) follows_Tryz (by kernel_rfl) (by simp [Tryz.ntmps7]) ?_
  intro hbox htok
  simp only at hbox htok
  apply AL.start
  try (simp)
  repeat ((repeat (first | refine AL.seq ?_ | refine AL.block ?_ | refine AL.skip ?_ | refine AL.blk ?_)); (refine AL.region follows_Tryz (Nat.le_refl _) (by kernel_rfl) ?_); simp)
  refine Stop.of_d (hs _ _) ?_
  simp
  by_cases h1 : 60 < c.meas.1
  · try (simp [h1])
    repeat ((repeat (first | refine AL.seq ?_ | refine AL.block ?_ | refine AL.skip ?_ | refine AL.blk ?_)); (refine AL.region follows_Tryz (Nat.le_refl _) (by kernel_rfl) ?_); simp [h1])
    repeat (first | refine AL.seq ?_ | refine AL.block ?_ | refine AL.skip ?_ | refine AL.blk ?_)
    refine AL.cond ?_
    simp
    try (simp)
    repeat ((repeat (first | refine AL.seq ?_ | refine AL.block ?_ | refine AL.skip ?_ | refine AL.blk ?_)); (refine AL.region follows_Tryz (Nat.le_refl _) (by kernel_rfl) ?_); simp)
    repeat (first | refine AL.seq ?_ | refine AL.block ?_ | refine AL.skip ?_ | refine AL.blk ?_)
    refine AL.ret ?_
    try simp only [AU]
    refine ⟨by simp, Fin.data (by simp [resAs, resA]; rfl) hbox rfl htok (fun _ h => h) (Nat.le_refl _) ?_⟩
    simp [packA, lightB, h1]
  · try (simp [h1])
    repeat ((repeat (first | refine AL.seq ?_ | refine AL.block ?_ | refine AL.skip ?_ | refine AL.blk ?_)); (refine AL.region follows_Tryz (Nat.le_refl _) (by kernel_rfl) ?_); simp [h1])
    refine Stop.of_d (hf _ _ _ _) ?_
    simp
    cases h2 : c.fits 45 90
    · try (simp)
      repeat ((repeat (first | refine AL.seq ?_ | refine AL.block ?_ | refine AL.skip ?_ | refine AL.blk ?_)); (refine AL.region follows_Tryz (Nat.le_refl _) (by kernel_rfl) ?_); simp)
      repeat (first | refine AL.seq ?_ | refine AL.block ?_ | refine AL.skip ?_ | refine AL.blk ?_)
      refine AL.cond ?_
      simp
      try (simp)
      repeat ((repeat (first | refine AL.seq ?_ | refine AL.block ?_ | refine AL.skip ?_ | refine AL.blk ?_)); (refine AL.region follows_Tryz (Nat.le_refl _) (by kernel_rfl) ?_); simp)
      repeat (first | refine AL.seq ?_ | refine AL.block ?_ | refine AL.skip ?_ | refine AL.blk ?_)
      refine AL.ret ?_
      try simp only [AU]
      refine ⟨by simp, Fin.data (by simp [resAs, resA]; rfl) hbox rfl htok (fun _ h => h) (Nat.le_refl _) ?_⟩
      simp [packA, lightB, h1, h2]
    · try (simp)
      repeat ((repeat (first | refine AL.seq ?_ | refine AL.block ?_ | refine AL.skip ?_ | refine AL.blk ?_)); (refine AL.region follows_Tryz (Nat.le_refl _) (by kernel_rfl) ?_); simp)
      refine Stop.of_d (hw _ _) ?_
      simp
      cases h3 : fewG a
      · try (simp)
        repeat ((repeat (first | refine AL.seq ?_ | refine AL.block ?_ | refine AL.skip ?_ | refine AL.blk ?_)); (refine AL.region follows_Tryz (Nat.le_refl _) (by kernel_rfl) ?_); simp)
        repeat (first | refine AL.seq ?_ | refine AL.block ?_ | refine AL.skip ?_ | refine AL.blk ?_)
        refine AL.cond ?_
        simp
        try (simp)
        repeat ((repeat (first | refine AL.seq ?_ | refine AL.block ?_ | refine AL.skip ?_ | refine AL.blk ?_)); (refine AL.region follows_Tryz (Nat.le_refl _) (by kernel_rfl) ?_); simp)
        repeat (first | refine AL.seq ?_ | refine AL.block ?_ | refine AL.skip ?_ | refine AL.blk ?_)
        refine AL.ret ?_
        try simp only [AU]
        refine ⟨by simp, Fin.data (by simp [resAs, resA]; rfl) hbox rfl htok (fun _ h => h) (Nat.le_refl _) ?_⟩
        simp [packA, lightB, h1, h2, h3]
      · have hv := (((hv.resolve_left h1).resolve_left (by simp [h2])).resolve_left (by simp [h3]))
        try (simp)
        repeat ((repeat (first | refine AL.seq ?_ | refine AL.block ?_ | refine AL.skip ?_ | refine AL.blk ?_)); (refine AL.region follows_Tryz (Nat.le_refl _) (by kernel_rfl) ?_); simp)
        repeat (first | refine AL.seq ?_ | refine AL.block ?_ | refine AL.skip ?_ | refine AL.blk ?_)
        refine AL.cond ?_
        simp
        try (simp)
        repeat ((repeat (first | refine AL.seq ?_ | refine AL.block ?_ | refine AL.skip ?_ | refine AL.blk ?_)); (refine AL.region follows_Tryz (Nat.le_refl _) (by kernel_rfl) ?_); simp)
        refine Stop.of_d (hv _ _) ?_
        simp
        by_cases h4 : validC a c = 0
        · have n4 : (validC a c != 0) = false := by simp [h4]
          by_cases h5 : c.meas.1 ≤ 8
          · have h5' : ¬ 8 < c.meas.1 := by omega
            try (simp [h5, n4])
            repeat ((repeat (first | refine AL.seq ?_ | refine AL.block ?_ | refine AL.skip ?_ | refine AL.blk ?_)); (refine AL.region follows_Tryz (Nat.le_refl _) (by kernel_rfl) ?_); simp [h5, n4])
            by_cases h6 : c.meas.2 ≤ 1
            · have h6' : c.meas.2 ≤ 2 := by omega
              try (simp [h6, h6'])
              repeat ((repeat (first | refine AL.seq ?_ | refine AL.block ?_ | refine AL.skip ?_ | refine AL.blk ?_)); (refine AL.region follows_Tryz (Nat.le_refl _) (by kernel_rfl) ?_); simp [h6, h6'])
              refine Stop.of_d (hf _ _ _ _) ?_
              simp
              cases h7 : c.fits 4 3
              · try (simp [h6'])
                repeat ((repeat (first | refine AL.seq ?_ | refine AL.block ?_ | refine AL.skip ?_ | refine AL.blk ?_)); (refine AL.region follows_Tryz (Nat.le_refl _) (by kernel_rfl) ?_); simp [h6'])
                refine Stop.of_d (hf _ _ _ _) ?_
                simp
                try (simp)
                repeat ((repeat (first | refine AL.seq ?_ | refine AL.block ?_ | refine AL.skip ?_ | refine AL.blk ?_)); (refine AL.region follows_Tryz (Nat.le_refl _) (by kernel_rfl) ?_); simp)
                repeat (first | refine AL.seq ?_ | refine AL.block ?_ | refine AL.skip ?_ | refine AL.blk ?_)
                refine AL.ret ?_
                try simp only [AU]
                refine ⟨by simp, Fin.data (by simp [resAs, resA]; rfl) hbox rfl htok (fun _ h => h) (Nat.le_refl _) ?_⟩
                simp [packA, lightB, h1, h2, h3, h4, h5', h6, h7]
              · try (simp)
                repeat ((repeat (first | refine AL.seq ?_ | refine AL.block ?_ | refine AL.skip ?_ | refine AL.blk ?_)); (refine AL.region follows_Tryz (Nat.le_refl _) (by kernel_rfl) ?_); simp)
                repeat (first | refine AL.seq ?_ | refine AL.block ?_ | refine AL.skip ?_ | refine AL.blk ?_)
                refine AL.ret ?_
                try simp only [AU]
                refine ⟨by simp, Fin.data (by simp [resAs, resA]; rfl) hbox rfl htok (fun _ h => h) (Nat.le_refl _) ?_⟩
                simp [packA, lightB, h1, h2, h3, h4, h5', h6, h7]
            · try (simp [h6])
              repeat ((repeat (first | refine AL.seq ?_ | refine AL.block ?_ | refine AL.skip ?_ | refine AL.blk ?_)); (refine AL.region follows_Tryz (Nat.le_refl _) (by kernel_rfl) ?_); simp [h6])
              by_cases h8 : c.meas.2 ≤ 2
              · try (simp [h8])
                repeat ((repeat (first | refine AL.seq ?_ | refine AL.block ?_ | refine AL.skip ?_ | refine AL.blk ?_)); (refine AL.region follows_Tryz (Nat.le_refl _) (by kernel_rfl) ?_); simp [h8])
                refine Stop.of_d (hf _ _ _ _) ?_
                simp
                try (simp)
                repeat ((repeat (first | refine AL.seq ?_ | refine AL.block ?_ | refine AL.skip ?_ | refine AL.blk ?_)); (refine AL.region follows_Tryz (Nat.le_refl _) (by kernel_rfl) ?_); simp)
                repeat (first | refine AL.seq ?_ | refine AL.block ?_ | refine AL.skip ?_ | refine AL.blk ?_)
                refine AL.ret ?_
                try simp only [AU]
                refine ⟨by simp, Fin.data (by simp [resAs, resA]; rfl) hbox rfl htok (fun _ h => h) (Nat.le_refl _) ?_⟩
                simp [packA, lightB, h1, h2, h3, h4, h5', h6, h8]
              · try (simp [h8])
                repeat ((repeat (first | refine AL.seq ?_ | refine AL.block ?_ | refine AL.skip ?_ | refine AL.blk ?_)); (refine AL.region follows_Tryz (Nat.le_refl _) (by kernel_rfl) ?_); simp [h8])
                repeat (first | refine AL.seq ?_ | refine AL.block ?_ | refine AL.skip ?_ | refine AL.blk ?_)
                refine AL.ret ?_
                try simp only [AU]
                refine ⟨by simp, Fin.data (by simp [resAs, resA]; rfl) hbox rfl htok (fun _ h => h) (Nat.le_refl _) ?_⟩
                simp [packA, lightB, h1, h2, h3, h4, h5', h6, h8]
          · have h5' : 8 < c.meas.1 := by omega
            try (simp [h5, n4])
            repeat ((repeat (first | refine AL.seq ?_ | refine AL.block ?_ | refine AL.skip ?_ | refine AL.blk ?_)); (refine AL.region follows_Tryz (Nat.le_refl _) (by kernel_rfl) ?_); simp [h5, n4])
            repeat (first | refine AL.seq ?_ | refine AL.block ?_ | refine AL.skip ?_ | refine AL.blk ?_)
            refine AL.ret ?_
            try simp only [AU]
            refine ⟨by simp, Fin.data (by simp [resAs, resA]; rfl) hbox rfl htok (fun _ h => h) (Nat.le_refl _) ?_⟩
            simp [packA, lightB, h1, h2, h3, h4, h5']
        · have n4 : (validC a c != 0) = true := by simp [h4]
          try (simp [n4])
          repeat ((repeat (first | refine AL.seq ?_ | refine AL.block ?_ | refine AL.skip ?_ | refine AL.blk ?_)); (refine AL.region follows_Tryz (Nat.le_refl _) (by kernel_rfl) ?_); simp [n4])
          repeat (first | refine AL.seq ?_ | refine AL.block ?_ | refine AL.skip ?_ | refine AL.blk ?_)
          refine AL.ret ?_
          try simp only [AU]
          refine ⟨by simp, Fin.data (by simp [resAs, resA]; rfl) hbox rfl htok (fun _ h => h) (Nat.le_refl _) ?_⟩
          simp [packA, lightB, h1, h2, h3, h4]
end Go.AM
namespace Go.AM
open Go Go.Proofs
set_option linter.unusedSimpArgs false
set_option linter.unusedVariables false

/-! ### places, index, Through, Then, Compose -/
def placesK (l h : List Int) (i : Nat) : List Int := (l.take i).map (indexI h)
@[simp] theorem placesK_len (l h : List Int) (i : Nat) : (placesK l h i).length = min i l.length := by simp [placesK]
def byK (l by' : List Int) (i : Nat) : List Int := (l.take i).map fun x => by'.getD x.toNat 0
@[simp] theorem byK_len (l h : List Int) (i : Nat) : (byK l h i).length = min i l.length := by simp [byK]
def thenM (m n : Mo) : Mo := ⟨byK m.nodes n.nodes m.nodes.length, byK m.edges n.edges m.edges.length⟩
/-- What a valid morphism holds lies within. -/
theorem firstE_all {f : Nat → Int} : ∀ n, firstE f n = 0 → ∀ i, i < n → f i = 0
  | 0, _, i, hi => absurd hi (Nat.not_lt_zero _)
  | n + 1, h, i, hi => by
    simp only [firstE] at h
    split at h
    · rename_i h0
      by_cases e : i = n
      · subst e; exact h
      · exact firstE_all n h0 i (by omega)
    · contradiction

structure VM (a b : Gr) (m : Mo) : Prop where
  va : validG a = 0
  vb : validG b = 0
  ln : m.nodes.length = a.nodes.length
  le : m.edges.length = a.edges.length
  n : ∀ x ∈ m.nodes, 0 ≤ x ∧ x < b.nodes.length
  e : ∀ x ∈ m.edges, 0 ≤ x ∧ x < b.edges.length
  nt : ∀ i, i < a.nodes.length → b.nodes.getD (m.nodes.getD i 0).toNat 0 = a.nodes.getD i 0
  et : ∀ i, i < a.edges.length → b.edges.getD (m.edges.getD i 0).toNat default = ⟨(a.edges.getD i default).ty, m.nodes.getD (a.edges.getD i default).fr.toNat 0, m.nodes.getD (a.edges.getD i default).to.toNat 0⟩

theorem validM_VM {a b : Gr} {m : Mo} (h : validM a b m = 0) : VM a b m := by
  unfold validM at h
  split at h
  · omega
  · rename_i h1
    split at h
    · omega
    · rename_i h2
      split at h
      · cases h
      · rename_i h3
        have hl1 : m.nodes.length = a.nodes.length := by omega
        have hl2 : m.edges.length = a.edges.length := by omega
        split at h
        · contradiction
        · rename_i h4
          have h4' : firstE (nodeE a b m) a.nodes.length = 0 := Decidable.not_not.1 h4
          have n1 := firstE_all _ h4'
          have n2 := firstE_all _ h
          refine ⟨by omega, by omega, hl1, hl2, fun x hx => ?_, fun x hx => ?_, fun i hi => ?_, fun i hi => ?_⟩
          · obtain ⟨i, hi, rfl⟩ := List.getElem_of_mem hx
            have := n1 i (by omega)
            have e : m.nodes.getD i 0 = m.nodes[i] := by simp [hi]
            unfold nodeE at this
            rw [e] at this
            split at this
            · cases this
            · omega
          · obtain ⟨i, hi, rfl⟩ := List.getElem_of_mem hx
            have := n2 i (by omega)
            have e : m.edges.getD i 0 = m.edges[i] := by simp [hi]
            unfold edgeE at this
            rw [e] at this
            split at this
            · cases this
            · omega
          · have := n1 i hi
            unfold nodeE at this
            split at this
            · cases this
            · split at this
              · assumption
              · cases this
          · have := n2 i hi
            unfold edgeE at this
            split at this
            · cases this
            · simp only at this
              split at this
              · cases this
              · rename_i t1
                split at this
                · cases this
                · rename_i t2
                  have t1' := Decidable.not_not.1 t1
                  simp only [ne_eq, not_or, Decidable.not_not] at t2
                  rw [t1', t2.1, t2.2]

end Go.AM
