import Derived.Test.YtbihadcpidlfoaaGreatPSS7
/-
  shift.holds.
-/
namespace Go.AM
open Go Go.Proofs
set_option linter.unusedSimpArgs false
set_option linter.unusedVariables false

def stIC (xs : List Cd) (f : FuncId) (caps : List AV) (nb : Nat) (box : Nat → Option (List (List AV))) (tok : Nat → Bool) (nt : Nat) (i : Nat) : AState := ⟨tl [(0, .d (conds xs)), (1, .fn (.func f) caps), (7, I xs.length), (8, I i)], lb nb box [], tok, nt⟩
def anyC (p : Cd → Bool) (xs : List Cd) : Bool := xs.any p

theorem indexFuncC_c (xs : List Cd) (f : FuncId) (caps : List AV) (p : Cd → Bool) (hx : xs.length ≤ kidN) (box : Nat → Option (List (List AV))) (nb : Nat) (tok : Nat → Bool) (nt : Nat) (hc : ∀ c ∈ caps, OkIn (fun k => box k ≠ none) (fun _ => True) c)
    (hf : ∀ x ∈ xs, ∀ box' nb', Ext box box' → ACalls Tryz.prog f (x.av :: caps) ⟨box', nb', tok, nt⟩ fun v m => v = B (p x) ∧ m = ⟨box', nb', tok, nt⟩) :
    ACalls Tryz.prog 70 [.d (conds xs), .fn (.func f) caps] ⟨box, nb, tok, nt⟩ fun v m => v = I (if anyC p xs = true then (xs.findIdx p : Nat) else -1) ∧ m = ⟨box, nb, tok, nt⟩ := by
  rw [kidN_eq] at hx
  refine ACalls.of_body Tryz.func70 rfl (by kernel_rfl) follows_Tryz (by kernel_rfl) (by simp [Tryz.ntmps70]) ?_
  intro hbox htok
  simp only at hbox htok
  apply AL.start
  try (simp)
  repeat ((repeat (first | refine AL.seq ?_ | refine AL.block ?_ | refine AL.skip ?_ | refine AL.blk ?_)); (refine AL.region follows_Tryz (Nat.le_refl _) (by kernel_rfl) ?_); simp)
  repeat (first | refine AL.seq ?_ | refine AL.block ?_ | refine AL.skip ?_ | refine AL.blk ?_)
  refine AL.loopT (stIC xs f caps nb box tok nt) (fun i => i ≤ xs.length ∧ ∀ x ∈ xs.take i, p x = false) (fun i => xs.length - i) 0 ⟨Nat.zero_le _, by simp⟩ (Weaks.mk (Nat.le_refl _) rfl (by simp [ToL]; exact .same (okFn hc hbox [] (by simp) rfl _)) trivial) ?_
  rintro i S ⟨hi, htk⟩ hS
  simp only [stIC] at hS
  subst hS
  have hw : IntKind.i64.wrap (↑i + 1) = ((i + 1 : Nat) : Int) := by rw [wrap_in (by omega) (by omega)]; rfl
  try (simp)
  repeat ((repeat (first | refine AL.seq ?_ | refine AL.block ?_ | refine AL.skip ?_ | refine AL.blk ?_)); (refine AL.region follows_Tryz (Nat.le_refl _) (by kernel_rfl) ?_); simp)
  repeat (first | refine AL.seq ?_ | refine AL.block ?_ | refine AL.skip ?_ | refine AL.blk ?_)
  refine AL.cond ?_
  simp
  refine ⟨fun hlt => ?_, fun hge => ?_⟩
  · have hfx := hf xs[i] (List.getElem_mem _)
    have hpx : p xs[i] = true → anyC p xs = true ∧ (xs.findIdx p = i) := fun he => any_take hlt htk he
    have hmore : p xs[i] = false → ∀ x ∈ xs.take (i + 1), p x = false := fun he x hx => by
      rw [List.take_succ_eq_append_getElem hlt] at hx
      rcases List.mem_append.1 hx with hx | hx
      · exact htk x hx
      · simp at hx; rw [hx]; exact he
    try (simp [hlt, Cd.cells_eq])
    repeat ((repeat (first | refine AL.seq ?_ | refine AL.block ?_ | refine AL.skip ?_ | refine AL.blk ?_)); (refine AL.region follows_Tryz (Nat.le_refl _) (by kernel_rfl) ?_); simp [hlt, Cd.cells_eq])
    generalize xs[i] = x at *
    refine Stop.of_b (hfx _ _ ((Ext.refl box).lb hbox [])) ?_
    simp
    cases he : p x
    · repeat (first | refine AL.seq ?_ | refine AL.block ?_ | refine AL.skip ?_ | refine AL.blk ?_)
      refine AL.cond ?_
      simp
      try (simp [hw])
      repeat ((repeat (first | refine AL.seq ?_ | refine AL.block ?_ | refine AL.skip ?_ | refine AL.blk ?_)); (refine AL.region follows_Tryz (Nat.le_refl _) (by kernel_rfl) ?_); simp [hw])
      repeat (first | refine AL.seq ?_ | refine AL.block ?_ | refine AL.skip ?_ | refine AL.blk ?_)
      refine AL.nil ?_
      refine ⟨i + 1, ⟨hlt, ?_⟩, by omega, Weaks.mk (Nat.le_refl _) rfl (by simp [ToL]; exact .same (okFn hc hbox [] (by simp) rfl _)) trivial⟩
      exact hmore he
    · obtain ⟨h1, h2⟩ := hpx he
      repeat (first | refine AL.seq ?_ | refine AL.block ?_ | refine AL.skip ?_ | refine AL.blk ?_)
      refine AL.cond ?_
      simp
      try (simp)
      repeat ((repeat (first | refine AL.seq ?_ | refine AL.block ?_ | refine AL.skip ?_ | refine AL.blk ?_)); (refine AL.region follows_Tryz (Nat.le_refl _) (by kernel_rfl) ?_); simp)
      repeat (first | refine AL.seq ?_ | refine AL.block ?_ | refine AL.skip ?_ | refine AL.blk ?_)
      refine AL.ret ?_
      try simp only [AU]
      refine ⟨by simp, Fin.data (by simp [resAs, resA]; rfl) hbox rfl htok (fun _ h => h) (Nat.le_refl _) ?_⟩
      simp [packA, h1, h2]
  · repeat (first | refine AL.seq ?_ | refine AL.block ?_ | refine AL.skip ?_ | refine AL.blk ?_)
    refine AL.exit ?_
    simp only [AU, ↓reduceIte]
    try (simp)
    repeat ((repeat (first | refine AL.seq ?_ | refine AL.block ?_ | refine AL.skip ?_ | refine AL.blk ?_)); (refine AL.region follows_Tryz (Nat.le_refl _) (by kernel_rfl) ?_); simp)
    have hn : anyC p xs = false := by
      rw [List.take_of_length_le hge] at htk
      simpa [anyC] using htk
    repeat (first | refine AL.seq ?_ | refine AL.block ?_ | refine AL.skip ?_ | refine AL.blk ?_)
    refine AL.ret ?_
    try simp only [AU]
    refine ⟨by simp, Fin.data (by simp [resAs, resA]; rfl) hbox rfl htok (fun _ h => h) (Nat.le_refl _) ?_⟩
    simp [packA, hn]

theorem containsFuncC_c (xs : List Cd) (f : FuncId) (caps : List AV) (p : Cd → Bool) (hx : xs.length ≤ kidN) (box : Nat → Option (List (List AV))) (nb : Nat) (tok : Nat → Bool) (nt : Nat) (hc : ∀ c ∈ caps, OkIn (fun k => box k ≠ none) (fun _ => True) c)
    (hf : ∀ x ∈ xs, ∀ box' nb', Ext box box' → ACalls Tryz.prog f (x.av :: caps) ⟨box', nb', tok, nt⟩ fun v m => v = B (p x) ∧ m = ⟨box', nb', tok, nt⟩) :
    ACalls Tryz.prog 49 [.d (conds xs), .fn (.func f) caps] ⟨box, nb, tok, nt⟩ fun v m => v = B (anyC p xs) ∧ m = ⟨box, nb, tok, nt⟩ := by
  refine ACalls.of_body Tryz.func49 rfl (by kernel_rfl) follows_Tryz (by kernel_rfl) (by simp [Tryz.ntmps49]) ?_
  intro hbox htok
  simp only at hbox htok
  apply AL.start
  try (simp)
  repeat ((repeat (first | refine AL.seq ?_ | refine AL.block ?_ | refine AL.skip ?_ | refine AL.blk ?_)); (refine AL.region follows_Tryz (Nat.le_refl _) (by kernel_rfl) ?_); simp)
  refine Stop.of_b (indexFuncC_c xs f caps p hx (lb nb box []) _ _ _ (fun c h => (hc c h).mono (fun k hk => by rw [hbox]; exact hk) fun _ h => h) (fun x hx' box' nb' he => hf x hx' box' nb' (by rw [hbox] at he; exact he))) ?_
  simp
  cases hany : anyC p xs
  · try (simp)
    repeat ((repeat (first | refine AL.seq ?_ | refine AL.block ?_ | refine AL.skip ?_ | refine AL.blk ?_)); (refine AL.region follows_Tryz (Nat.le_refl _) (by kernel_rfl) ?_); simp)
    repeat (first | refine AL.seq ?_ | refine AL.block ?_ | refine AL.skip ?_ | refine AL.blk ?_)
    refine AL.ret ?_
    try simp only [AU]
    refine ⟨by simp, Fin.data (by simp [resAs, resA]; rfl) hbox rfl htok (fun _ h => h) (Nat.le_refl _) ?_⟩
    simp [packA]
  · have h0 : (0 : Int) ≤ (xs.findIdx p : Nat) := by omega
    try (simp)
    repeat ((repeat (first | refine AL.seq ?_ | refine AL.block ?_ | refine AL.skip ?_ | refine AL.blk ?_)); (refine AL.region follows_Tryz (Nat.le_refl _) (by kernel_rfl) ?_); simp)
    repeat (first | refine AL.seq ?_ | refine AL.block ?_ | refine AL.skip ?_ | refine AL.blk ?_)
    refine AL.ret ?_
    try simp only [AU]
    refine ⟨by simp, Fin.data (by simp [resAs, resA]; rfl) hbox rfl htok (fun _ h => h) (Nat.le_refl _) ?_⟩
    simp [packA, h0]

abbrev Mo.cells2 (m : Mo) : List AV := [.d (ints m.nodes), .d (ints m.edges)]
theorem yes66_c (k : Cd) (g : Gr) (m : Mo) (r : Bool) (hd : ∀ tok nt, DCall Tryz.prog 30 [k.av, g.av, m.av] tok nt (B r) tok nt) (box : Nat → Option (List (List AV))) (nb k1 k2 : Nat) (tok : Nat → Bool) (nt : Nat) (h1 : box k1 = some [g.cells2]) (h2 : box k2 = some [m.cells2]) :
    ACalls Tryz.prog 47 [k.av, .ptr k1 0 0, .ptr k2 0 0] ⟨box, nb, tok, nt⟩ fun v m => v = B r ∧ m = ⟨box, nb, tok, nt⟩ := by
  refine ACalls.of_body Tryz.func47 rfl (by kernel_rfl) follows_Tryz (by kernel_rfl) (by simp [Tryz.ntmps47]) ?_
  intro hbox htok
  simp only at hbox htok
  apply AL.start
  have k1n := key_lt hbox h1
  have k2n := key_lt hbox h2
  try (simp [lb_out k1n, h1, lb_out k2n, h2])
  repeat ((repeat (first | refine AL.seq ?_ | refine AL.block ?_ | refine AL.skip ?_ | refine AL.blk ?_)); (refine AL.region follows_Tryz (Nat.le_refl _) (by kernel_rfl) ?_); simp [lb_out k1n, h1, lb_out k2n, h2])
  refine Stop.of_d (hd _ _) ?_
  simp
  try (simp)
  repeat ((repeat (first | refine AL.seq ?_ | refine AL.block ?_ | refine AL.skip ?_ | refine AL.blk ?_)); (refine AL.region follows_Tryz (Nat.le_refl _) (by kernel_rfl) ?_); simp)
  repeat (first | refine AL.seq ?_ | refine AL.block ?_ | refine AL.skip ?_ | refine AL.blk ?_)
  refine AL.ret ?_
  try simp only [AU]
  refine ⟨by simp, Fin.data (by simp [resAs, resA]; rfl) hbox rfl htok (fun _ h => h) (Nat.le_refl _) ?_⟩
  simp [packA]
theorem no67_c (k : Cd) (g : Gr) (m : Mo) (r : Bool) (hd : ∀ tok nt, DCall Tryz.prog 30 [k.av, g.av, m.av] tok nt (B r) tok nt) (box : Nat → Option (List (List AV))) (nb k1 k2 : Nat) (tok : Nat → Bool) (nt : Nat) (h1 : box k1 = some [g.cells2]) (h2 : box k2 = some [m.cells2]) :
    ACalls Tryz.prog 48 [k.av, .ptr k1 0 0, .ptr k2 0 0] ⟨box, nb, tok, nt⟩ fun v m => v = B (!r) ∧ m = ⟨box, nb, tok, nt⟩ := by
  refine ACalls.of_body Tryz.func48 rfl (by kernel_rfl) follows_Tryz (by kernel_rfl) (by simp [Tryz.ntmps48]) ?_
  intro hbox htok
  simp only at hbox htok
  apply AL.start
  have k1n := key_lt hbox h1
  have k2n := key_lt hbox h2
  try (simp [lb_out k1n, h1, lb_out k2n, h2])
  repeat ((repeat (first | refine AL.seq ?_ | refine AL.block ?_ | refine AL.skip ?_ | refine AL.blk ?_)); (refine AL.region follows_Tryz (Nat.le_refl _) (by kernel_rfl) ?_); simp [lb_out k1n, h1, lb_out k2n, h2])
  refine Stop.of_d (hd _ _) ?_
  simp
  try (simp)
  repeat ((repeat (first | refine AL.seq ?_ | refine AL.block ?_ | refine AL.skip ?_ | refine AL.blk ?_)); (refine AL.region follows_Tryz (Nat.le_refl _) (by kernel_rfl) ?_); simp)
  repeat (first | refine AL.seq ?_ | refine AL.block ?_ | refine AL.skip ?_ | refine AL.blk ?_)
  refine AL.ret ?_
  try simp only [AU]
  refine ⟨by simp, Fin.data (by simp [resAs, resA]; rfl) hbox rfl htok (fun _ h => h) (Nat.le_refl _) ?_⟩
  simp [packA]
theorem acc70_c (c k : Cd) (g : Gr) (m : Mo) (r : Bool) (hl0 : 0 < c.kids.length) (hk : c.kids[0] = k) (hd : ∀ tok nt, DCall Tryz.prog 30 [k.av, g.av, m.av] tok nt (B r) tok nt) (box : Nat → Option (List (List AV))) (nb k1 k2 : Nat) (tok : Nat → Bool) (nt : Nat) (h1 : box k1 = some [c.row]) (h2 : box k2 = some [g.cells2]) :
    ACalls Tryz.prog 51 [m.av, .ptr k1 0 0, .ptr k2 0 0] ⟨box, nb, tok, nt⟩ fun v m => v = B r ∧ m = ⟨box, nb, tok, nt⟩ := by
  refine ACalls.of_body Tryz.func51 rfl (by kernel_rfl) follows_Tryz (by kernel_rfl) (by simp [Tryz.ntmps51]) ?_
  intro hbox htok
  simp only at hbox htok
  apply AL.start
  have k1n := key_lt hbox h1
  have k2n := key_lt hbox h2
  try (simp [lb_out k1n, h1, lb_out k2n, h2, hk, hl0, Cd.cells_eq])
  repeat ((repeat (first | refine AL.seq ?_ | refine AL.block ?_ | refine AL.skip ?_ | refine AL.blk ?_)); (refine AL.region follows_Tryz (Nat.le_refl _) (by kernel_rfl) ?_); simp [lb_out k1n, h1, lb_out k2n, h2, hk, hl0, Cd.cells_eq])
  refine Stop.of_d (hd _ _) ?_
  simp
  try (simp)
  repeat ((repeat (first | refine AL.seq ?_ | refine AL.block ?_ | refine AL.skip ?_ | refine AL.blk ?_)); (refine AL.region follows_Tryz (Nat.le_refl _) (by kernel_rfl) ?_); simp)
  repeat (first | refine AL.seq ?_ | refine AL.block ?_ | refine AL.skip ?_ | refine AL.blk ?_)
  refine AL.ret ?_
  try simp only [AU]
  refine ⟨by simp, Fin.data (by simp [resAs, resA]; rfl) hbox rfl htok (fun _ h => h) (Nat.le_refl _) ?_⟩
  simp [packA]

def holStep (k : Int) (mm : Mo) (p g : Gr) (m : Mo) (bs : Mo → List Bool) : Bool :=
  if k = 2 then !((bs m).headD false) else if k = 3 then (bs m).all id else if k = 4 then (bs m).any id
  else if k = 5 then nodeB p g (fun q => (bs q).headD false) (imgK p.edges.length mm.edges m.edges mm.edges.length) p.nodes.length (imgK p.nodes.length mm.nodes m.nodes mm.nodes.length)
  else true
mutual
def Cd.hol : Cd → Gr → Mo → Bool
  | .mk k c mm p s v t, g, m => holStep k mm p g m (fun q => Cd.holL c g q)
def Cd.holL : List Cd → Gr → Mo → List Bool
  | [], _, _ => []
  | x :: r, g, m => Cd.hol x g m :: Cd.holL r g m
end
theorem Cd.holL_eq (g : Gr) (m : Mo) : ∀ l : List Cd, Cd.holL l g m = l.map fun x => Cd.hol x g m
  | [] => by simp [Cd.holL]
  | x :: r => by simp [Cd.holL, Cd.holL_eq g m r]
theorem Cd.hol_eq (c : Cd) (g : Gr) (m : Mo) : c.hol g m = holStep c.kind c.m c.g g m (fun q => c.kids.map fun x => Cd.hol x g q) := by
  cases c
  simp only [Cd.hol, Cd.holL_eq]
  rfl

theorem Ext.of_lk {base : Nat} {out : Nat → Option (List (List AV))} {L L' : List (Nat × List (List AV))} (h : ∀ s r, lk L s = some r → lk L' s = some r) : Ext (AM.lb base out L) (AM.lb base out L') := fun k rows hk => by
  by_cases hb : k < base
  · rw [lb_out hb] at hk ⊢; exact hk
  · have hkk : k = base + (k - base) := by omega
    rw [hkk, lb_at] at hk ⊢
    exact h _ _ hk
structure Flm (a : Gr) (m : Mo) : Prop where
  n : m.nodes.length = a.nodes.length
  e : m.edges.length = a.edges.length
  nn : ∀ x ∈ m.nodes, 0 ≤ x
  ne : ∀ x ∈ m.edges, 0 ≤ x
theorem errL_zero {f : Cd → Int} : ∀ {l : List Cd}, errL f l = 0 → ∀ x ∈ l, f x = 0
  | [], _, x, hx => by cases hx
  | y :: r, h, x, hx => by
    simp only [errL] at h
    split at h
    · rename_i h0
      rcases List.mem_cons.1 hx with rfl | hx
      · exact h0
      · exact errL_zero h x hx
    · contradiction
theorem Cd.ovr_zero {c : Cd} {a : Gr} (h : c.ovr a = 0) : shapeC c = 0 ∧ ovrStep a c.kind c.m c.g = 0 ∧ ∀ x ∈ c.kids, x.ovr (c.inn a) = 0 := by
  rw [c.ovr_eq] at h
  split at h
  · rename_i h0
    split at h
    · rename_i h1
      exact ⟨h0, h1, errL_zero h⟩
    · contradiction
  · contradiction
theorem shape_one {c : Cd} (h : shapeC c = 0) (h5 : c.kind = 2 ∨ c.kind = 5) : 0 < c.kids.length := by
  unfold shapeC at h
  split at h
  · rename_i hk
    rcases h5 with h5 | h5 <;> simp [okC, h5] at hk <;> omega
  · omega
theorem all_any {l : List Bool} : l.all id = !(l.any not) := by
  induction l with
  | nil => rfl
  | cons x r ih => cases x <;> simp [ih]

theorem ThR.nil {t k sz : Nat} {es : List (List D)} : ThR t k sz es [] [] := ⟨rfl, fun i h => by simp at h⟩
theorem ThR.cons {t k sz : Nat} {es : List (List D)} {x y : AV} {r r' : List AV} (h : ThTo t k sz es x y) (hr : ThR t k sz es r r') : ThR t k sz es (x :: r) (y :: r') := by
  refine ⟨by simp [hr.1], fun i h1 h2 => ?_⟩
  match i with
  | 0 => exact h
  | i + 1 => exact hr.2 i (by simpa using h1) (by simpa using h2)
theorem ThRs.one {t k sz : Nat} {es : List (List D)} {r r' : List AV} (h : ThR t k sz es r r') : ThRs t k sz es [r] [r'] := by
  refine ⟨rfl, fun i h1 h2 => ?_⟩
  match i with
  | 0 => exact h
  | i + 1 => simp at h1
theorem ThRs.same {t k sz : Nat} {es : List (List D)} {r : List (List AV)} : ThRs t k sz es r r := ⟨rfl, fun i h1 h2 => ⟨rfl, fun j g1 g2 => .same⟩⟩
theorem imgK_neg {n : Nat} {by' m : List Int} (hm : ∀ x ∈ m, 0 ≤ x) (h : by'.length ≤ m.length) : ∀ i, i ≤ by'.length → ∀ x ∈ imgK n by' m i, x < 0 → x = -1
  | 0, _, x, hx, _ => (List.mem_replicate.1 hx).2
  | i + 1, hi, x, hx, hneg => by
    rcases List.mem_or_eq_of_mem_set hx with h1 | h1
    · exact imgK_neg hm h i (by omega) x h1 hneg
    · have him : i < m.length := by omega
      have := hm m[i] (List.getElem_mem him)
      simp [him] at h1
      omega

set_option maxRecDepth 100000 in
theorem holds43_c : ∀ (n : Nat) (c : Cd), SizeOf.sizeOf c < n → c.Fit → ∀ a, c.ovr a = 0 → ∀ g : Gr, g.Fit → ∀ m : Mo, Flm a m → ∀ (tok : Nat → Bool) (nt : Nat), DCall Tryz.prog 30 [c.av, g.av, m.av] tok nt (B (c.hol g m)) tok nt
  | 0, c, hn, _, _, _, _, _, _, _, tok, nt => absurd hn (Nat.not_lt_zero _)
  | n + 1, c, hn, hb, a, hv, g, hg, m, hm, tok, nt => by
    intro box nb
    have ih := fun x (hx : x ∈ c.kids) => holds43_c n x (by have := Cd.kid_lt hx; omega) (hb.kid x hx) (c.inn a) ((Cd.ovr_zero hv).2.2 x hx) g hg
    obtain ⟨hs0, hst, _⟩ := Cd.ovr_zero hv
    have hkb := hb.kids
    have hR := c.hol_eq g m
    have hsk := shape_one hs0
    have hcap : ∀ c1 ∈ [AV.ptr (nb + 4) 0 0, .ptr (nb + 5) 0 0], OkIn (fun k => lb nb box [(5, [m.cells2]), (4, [g.cells2]), (3, [c.row])] k ≠ none) (fun _ => True) c1 := by
      intro c1 hc1
      simp only [List.mem_cons, List.not_mem_nil, or_false] at hc1
      rcases hc1 with rfl | rfl
      · exact .ptr (by simp [lb_at])
      · exact .ptr (by simp [lb_at])
    refine ACalls.of_body Tryz.func30 rfl (by kernel_rfl) follows_Tryz (by kernel_rfl) (by simp [Tryz.ntmps30]) ?_
    intro hbox htok
    simp only at hbox htok
    apply AL.start
    try (simp)
    repeat ((repeat (first | refine AL.seq ?_ | refine AL.block ?_ | refine AL.skip ?_ | refine AL.blk ?_)); (refine AL.region follows_Tryz (Nat.le_refl _) (by kernel_rfl) ?_); simp)
    by_cases k2 : c.kind = 2
    · have b2 : (c.kind == 2) = true := by simp [k2]
      have hlt : 0 < c.kids.length := hsk (.inl k2)
      have hii : c.inn a = a := if_neg (by rw [k2]; decide)
      rw [hii] at ih
      have ihx := ih _ (List.getElem_mem hlt) m hm
      have hR2 : c.hol g m = !(Cd.hol c.kids[0] g m) := by
        rw [hR, holStep, if_pos k2]
        congr 1
        match c.kids, hlt with
        | y :: r, _ => rfl
      simp only [b2]
      repeat (first | refine AL.seq ?_ | refine AL.block ?_ | refine AL.skip ?_ | refine AL.blk ?_)
      refine AL.cond ?_
      simp
      try (simp [hlt, Cd.cells_eq])
      repeat ((repeat (first | refine AL.seq ?_ | refine AL.block ?_ | refine AL.skip ?_ | refine AL.blk ?_)); (refine AL.region follows_Tryz (Nat.le_refl _) (by kernel_rfl) ?_); simp [hlt, Cd.cells_eq])
      generalize c.kids[0] = x at *
      refine Stop.of_b (no67_c x g m _ ihx _ _ _ _ _ _ (by simp [lb_at]) (by simp [lb_at])) ?_
      simp
      try (simp)
      repeat ((repeat (first | refine AL.seq ?_ | refine AL.block ?_ | refine AL.skip ?_ | refine AL.blk ?_)); (refine AL.region follows_Tryz (Nat.le_refl _) (by kernel_rfl) ?_); simp)
      repeat (first | refine AL.seq ?_ | refine AL.block ?_ | refine AL.skip ?_ | refine AL.blk ?_)
      refine AL.ret ?_
      try simp only [AU]
      refine ⟨by simp, Fin.data (by simp [resAs, resA]; rfl) hbox rfl htok (fun _ h => h) (Nat.le_refl _) ?_⟩
      simp [packA, hR2]
    · have b2 : (c.kind == 2) = false := by simp [k2]
      simp only [b2]
      repeat (first | refine AL.seq ?_ | refine AL.block ?_ | refine AL.skip ?_ | refine AL.blk ?_)
      refine AL.cond ?_
      simp
      try (simp)
      repeat ((repeat (first | refine AL.seq ?_ | refine AL.block ?_ | refine AL.skip ?_ | refine AL.blk ?_)); (refine AL.region follows_Tryz (Nat.le_refl _) (by kernel_rfl) ?_); simp)
      by_cases k3 : c.kind = 3
      · have b3 : (c.kind == 3) = true := by simp [k3]
        have hii : c.inn a = a := if_neg (by rw [k3]; decide)
        rw [hii] at ih
        have hR3 : c.hol g m = !(anyC (fun x => !(x.hol g m)) c.kids) := by
          rw [hR, holStep, if_neg k2, if_pos k3, all_any, anyC, List.any_map]
          rfl
        simp only [b3]
        repeat (first | refine AL.seq ?_ | refine AL.block ?_ | refine AL.skip ?_ | refine AL.blk ?_)
        refine AL.cond ?_
        simp
        try (simp)
        repeat ((repeat (first | refine AL.seq ?_ | refine AL.block ?_ | refine AL.skip ?_ | refine AL.blk ?_)); (refine AL.region follows_Tryz (Nat.le_refl _) (by kernel_rfl) ?_); simp)
        refine Stop.of_b (containsFuncC_c c.kids 48 [.ptr (nb + 4) 0 0, .ptr (nb + 5) 0 0] (fun x => !(x.hol g m)) hkb _ _ _ _ hcap (fun x hx box' nb' he => no67_c x g m _ (ih x hx m hm) _ _ _ _ _ _ (he _ _ (by simp [lb_at])) (he _ _ (by simp [lb_at])))) ?_
        simp
        try (simp)
        repeat ((repeat (first | refine AL.seq ?_ | refine AL.block ?_ | refine AL.skip ?_ | refine AL.blk ?_)); (refine AL.region follows_Tryz (Nat.le_refl _) (by kernel_rfl) ?_); simp)
        repeat (first | refine AL.seq ?_ | refine AL.block ?_ | refine AL.skip ?_ | refine AL.blk ?_)
        refine AL.ret ?_
        try simp only [AU]
        refine ⟨by simp, Fin.data (by simp [resAs, resA]; rfl) hbox rfl htok (fun _ h => h) (Nat.le_refl _) ?_⟩
        simp [packA, hR3]
      · have b3 : (c.kind == 3) = false := by simp [k3]
        simp only [b3]
        repeat (first | refine AL.seq ?_ | refine AL.block ?_ | refine AL.skip ?_ | refine AL.blk ?_)
        refine AL.cond ?_
        simp
        try (simp)
        repeat ((repeat (first | refine AL.seq ?_ | refine AL.block ?_ | refine AL.skip ?_ | refine AL.blk ?_)); (refine AL.region follows_Tryz (Nat.le_refl _) (by kernel_rfl) ?_); simp)
        by_cases k4 : c.kind = 4
        · have b4 : (c.kind == 4) = true := by simp [k4]
          have hii : c.inn a = a := if_neg (by rw [k4]; decide)
          rw [hii] at ih
          have hR4 : c.hol g m = anyC (fun x => x.hol g m) c.kids := by
            rw [hR, holStep, if_neg k2, if_neg k3, if_pos k4, anyC, List.any_map]
            rfl
          simp only [b4]
          repeat (first | refine AL.seq ?_ | refine AL.block ?_ | refine AL.skip ?_ | refine AL.blk ?_)
          refine AL.cond ?_
          simp
          try (simp)
          repeat ((repeat (first | refine AL.seq ?_ | refine AL.block ?_ | refine AL.skip ?_ | refine AL.blk ?_)); (refine AL.region follows_Tryz (Nat.le_refl _) (by kernel_rfl) ?_); simp)
          refine Stop.of_b (containsFuncC_c c.kids 47 [.ptr (nb + 4) 0 0, .ptr (nb + 5) 0 0] (fun x => x.hol g m) hkb _ _ _ _ hcap (fun x hx box' nb' he => yes66_c x g m _ (ih x hx m hm) _ _ _ _ _ _ (he _ _ (by simp [lb_at])) (he _ _ (by simp [lb_at])))) ?_
          simp
          try (simp)
          repeat ((repeat (first | refine AL.seq ?_ | refine AL.block ?_ | refine AL.skip ?_ | refine AL.blk ?_)); (refine AL.region follows_Tryz (Nat.le_refl _) (by kernel_rfl) ?_); simp)
          repeat (first | refine AL.seq ?_ | refine AL.block ?_ | refine AL.skip ?_ | refine AL.blk ?_)
          refine AL.ret ?_
          try simp only [AU]
          refine ⟨by simp, Fin.data (by simp [resAs, resA]; rfl) hbox rfl htok (fun _ h => h) (Nat.le_refl _) ?_⟩
          simp [packA, hR4]
        · have b4 : (c.kind == 4) = false := by simp [k4]
          simp only [b4]
          repeat (first | refine AL.seq ?_ | refine AL.block ?_ | refine AL.skip ?_ | refine AL.blk ?_)
          refine AL.cond ?_
          simp
          try (simp)
          repeat ((repeat (first | refine AL.seq ?_ | refine AL.block ?_ | refine AL.skip ?_ | refine AL.blk ?_)); (refine AL.region follows_Tryz (Nat.le_refl _) (by kernel_rfl) ?_); simp)
          by_cases k5 : c.kind = 5
          · have b5 : (c.kind == 5) = true := by simp [k5]
            simp only [b5]
            repeat (first | refine AL.seq ?_ | refine AL.block ?_ | refine AL.skip ?_ | refine AL.blk ?_)
            refine AL.cond ?_
            simp
            try (simp)
            repeat ((repeat (first | refine AL.seq ?_ | refine AL.block ?_ | refine AL.skip ?_ | refine AL.blk ?_)); (refine AL.region follows_Tryz (Nat.le_refl _) (by kernel_rfl) ?_); simp)
            have hii : c.inn a = c.g := if_pos k5
            rw [hii] at ih
            have hlt : 0 < c.kids.length := hsk (.inr k5)
            have hvm : validM a c.g c.m = 0 := by
              have h := hst
              unfold ovrStep at h
              rw [if_pos k5] at h
              split at h
              · contradiction
              · rename_i h1; simpa using h1
            have V := validM_VM hvm
            have hgc := hb.g
            have c1 : c.m.nodes.length = m.nodes.length := V.ln.trans hm.n.symm
            have c2 : c.m.edges.length = m.edges.length := V.le.trans hm.e.symm
            have c3 := hb.m.n
            have c4 := hb.m.e
            refine Stop.of_d (images69_c c.g.nodes.length c.m.nodes m.nodes hgc.n c3 (by omega) V.n _ _) ?_
            simp
            try (simp)
            repeat ((repeat (first | refine AL.seq ?_ | refine AL.block ?_ | refine AL.skip ?_ | refine AL.blk ?_)); (refine AL.region follows_Tryz (Nat.le_refl _) (by kernel_rfl) ?_); simp)
            refine Stop.of_d (images69_c c.g.edges.length c.m.edges m.edges hgc.e c4 (by omega) V.e _ _) ?_
            simp
            have l1 : (imgK c.g.nodes.length c.m.nodes m.nodes c.m.nodes.length).length = c.g.nodes.length := imgK_len _ _ _ _
            have l2 : (imgK c.g.edges.length c.m.edges m.edges c.m.edges.length).length = c.g.edges.length := imgK_len _ _ _ _
            have n1 := imgK_neg (n := c.g.nodes.length) (by' := c.m.nodes) hm.nn (by omega) c.m.nodes.length (Nat.le_refl _)
            have n2 := imgK_neg (n := c.g.edges.length) (by' := c.m.edges) hm.ne (by omega) c.m.edges.length (Nat.le_refl _)
            have hR5 : c.hol g m = nodeB c.g g (fun q => Cd.hol c.kids[0] g q) (imgK c.g.edges.length c.m.edges m.edges c.m.edges.length) c.g.nodes.length (imgK c.g.nodes.length c.m.nodes m.nodes c.m.nodes.length) := by
              rw [hR, holStep, if_neg k2, if_neg k3, if_neg k4, if_pos k5]
              congr 1
              funext q
              match c.kids, hlt with
              | y :: r, _ => rfl
            generalize imgK c.g.nodes.length c.m.nodes m.nodes c.m.nodes.length = N0 at *
            generalize imgK c.g.edges.length c.m.edges m.edges c.m.edges.length = E0 at *
            repeat (first | refine AL.seq ?_ | refine AL.block ?_ | refine AL.skip ?_ | refine AL.blk ?_)
            refine AL.weak (Weaks.mk (l' := [(10, .ptr (nb + 62) 0 0), (3, .ptr (nb + 3) 0 0), (4, .ptr (nb + 4) 0 0), (51, .ex (nt + 1) 1 (rI N0)), (60, .ex (nt + 2 + 1) 1 (rI E0))])
              (loc' := [(62, [[.d (ints c.g.nodes), .d (AM.edges c.g.edges), .d (ints g.nodes), .d (AM.edges g.edges), .ex (nt + 1) 1 (rI N0), .ex (nt + 2 + 1) 1 (rI E0), .d (.raw .nilFunc)]]), (4, [g.cells2]), (3, [c.row])]) (by omega) rfl (by simp [ToL]) (by simp [BoxL])) ?_
            refine AL.trans (Trans.thawI (l' := [(10, .ptr (nb + 62) 0 0), (3, .ptr (nb + 3) 0 0), (4, .ptr (nb + 4) 0 0), (51, .msl (nb + 51) 0 c.g.nodes.length 1), (60, .ex (nt + 2 + 1) 1 (rI E0))])
              (loc' := [(62, [[.d (ints c.g.nodes), .d (AM.edges c.g.edges), .d (ints g.nodes), .d (AM.edges g.edges), .msl (nb + 51) 0 c.g.nodes.length 1, .ex (nt + 2 + 1) 1 (rI E0), .d (.raw .nilFunc)]]), (4, [g.cells2]), (3, [c.row])])
              (nt + 1) 51 N0 51 rfl (by show 51 < 69; decide) rfl (by rw [upd_other _ _ (by omega)]; exact upd_same _ _ _) rfl
              ⟨rfl, .same, rfl, .same, rfl, .same, rfl, thTo_exI l1.symm, rfl, .same, trivial⟩
              ⟨rfl, .one (.cons .same (.cons .same (.cons .same (.cons .same (.cons (thTo_exI l1.symm) (.cons .same (.cons .same .nil))))))), rfl, .same, rfl, .same, trivial⟩) ?_
            refine AL.trans (Trans.thawI (l' := [(10, .ptr (nb + 62) 0 0), (3, .ptr (nb + 3) 0 0), (4, .ptr (nb + 4) 0 0), (51, .msl (nb + 51) 0 c.g.nodes.length 1), (60, .msl (nb + 60) 0 c.g.edges.length 1)])
              (loc' := [(51, rowsI N0), (62, [[.d (ints c.g.nodes), .d (AM.edges c.g.edges), .d (ints g.nodes), .d (AM.edges g.edges), .msl (nb + 51) 0 c.g.nodes.length 1, .msl (nb + 60) 0 c.g.edges.length 1, .d (.raw .nilFunc)]]), (4, [g.cells2]), (3, [c.row])])
              (nt + 2 + 1) 60 E0 60 rfl (by show 60 < 69; decide) rfl (by rw [upd_other _ _ (by omega)]; exact upd_same _ _ _) rfl
              ⟨rfl, .same, rfl, .same, rfl, .same, rfl, .same, rfl, thTo_exI l2.symm, trivial⟩
              ⟨rfl, .same, rfl, .one (.cons .same (.cons .same (.cons .same (.cons .same (.cons .same (.cons (thTo_exI l2.symm) (.cons .same .nil))))))), rfl, .same, rfl, .same, trivial⟩) ?_
            have htt : ∀ t, tok t = true → upd (upd (upd (upd tok (nt + 1) true) (nt + 2 + 1) true) (nt + 1) false) (nt + 2 + 1) false t = true := fun t ht => by
              have := htok t ht
              rw [upd_other _ _ (by omega), upd_other _ _ (by omega), upd_other _ _ (by omega), upd_other _ _ (by omega)]; exact ht
            generalize upd (upd (upd (upd tok (nt + 1) true) (nt + 2 + 1) true) (nt + 1) false) (nt + 2 + 1) false = tok1 at *
            try (simp)
            repeat ((repeat (first | refine AL.seq ?_ | refine AL.block ?_ | refine AL.skip ?_ | refine AL.blk ?_)); (refine AL.region follows_Tryz (Nat.le_refl _) (by kernel_rfl) ?_); simp)
            have hF : ExF c.g g (nb + 62) (nb + 51) (nb + 60) (lb nb box [(4, [g.cells2]), (3, [c.row])]) :=
              ⟨hgc, hg, fun e he => validG_edges V.vb e he, by omega, by omega, by omega, by simp [lb_at, lk], by simp [lb_at, lk]⟩
            refine Stop.of_a (node71_c c.g g (fun q => Cd.hol c.kids[0] g q) 51 [.ptr (nb + 3) 0 0, .ptr (nb + 4) 0 0] (nb + 62) (nb + 51) (nb + 60) (lb nb box [(4, [g.cells2]), (3, [c.row])]) hF ?_ ?_ c.g.nodes.length 0 (by omega) N0 E0 _ _ _ _ ?_ n1 n2 (fun j hj => absurd hj (Nat.not_lt_zero _))) ?_
            · intro c1 hc1
              simp only [List.mem_cons, List.not_mem_nil, or_false] at hc1
              rcases hc1 with rfl | rfl
              · exact .ptr (by simp [lb_at])
              · exact .ptr (by simp [lb_at])
            · intro q box' nb' tok' nt' he q1 q2 q3 q4
              exact acc70_c c _ g q _ hlt rfl (ih _ (List.getElem_mem hlt) q ⟨q1, q2, q3, q4⟩) box' nb' _ _ _ _ (he _ _ (by simp [lb_at])) (he _ _ (by simp [lb_at]))
            · refine ⟨?_, by simp [lb_at], by simp [lb_at], by simp [lb_at], l1, l2⟩
              refine Ext.of_lk fun s r hs => ?_
              rw [lk_cons, lk_cons] at hs
              by_cases e4 : s = 4
              · subst e4; simpa [lk_cons] using hs
              · rw [if_neg (by omega)] at hs
                by_cases e3 : s = 3
                · subst e3; simpa [lk_cons] using hs
                · rw [if_neg (by omega)] at hs; simp [lk] at hs
            rintro v m1 ⟨rfl, N', E', hl, hl2, hE', rfl⟩
            try (simp)
            repeat ((repeat (first | refine AL.seq ?_ | refine AL.block ?_ | refine AL.skip ?_ | refine AL.blk ?_)); (refine AL.region follows_Tryz (Nat.le_refl _) (by kernel_rfl) ?_); simp)
            repeat (first | refine AL.seq ?_ | refine AL.block ?_ | refine AL.skip ?_ | refine AL.blk ?_)
            refine AL.ret ?_
            try simp only [AU]
            refine ⟨by simp, Fin.gen (by simp [resAs, resA]; rfl) hbox (Nat.le_refl _) (by omega) (fun t ht => ⟨htt t ht, .inr (htok t ht)⟩) (fun k rows _ h => .inl h) (by simp [packA, hR5])⟩
          · have b5 : (c.kind == 5) = false := by simp [k5]
            simp only [b5]
            repeat (first | refine AL.seq ?_ | refine AL.block ?_ | refine AL.skip ?_ | refine AL.blk ?_)
            refine AL.cond ?_
            simp
            try (simp)
            repeat ((repeat (first | refine AL.seq ?_ | refine AL.block ?_ | refine AL.skip ?_ | refine AL.blk ?_)); (refine AL.region follows_Tryz (Nat.le_refl _) (by kernel_rfl) ?_); simp)
            repeat (first | refine AL.seq ?_ | refine AL.block ?_ | refine AL.skip ?_ | refine AL.blk ?_)
            refine AL.ret ?_
            try simp only [AU]
            refine ⟨by simp, Fin.data (by simp [resAs, resA]; rfl) hbox rfl htok (fun _ h => h) (Nat.le_refl _) ?_⟩
            simp [packA, hR, holStep, k2, k3, k4, k5]
end Go.AM
/-
  shift.Satisfies, agree.
-/
namespace Go.AM
open Go Go.Proofs
set_option linter.unusedSimpArgs false
set_option linter.unusedVariables false

def satR (a : Gr) (c : Cd) (g : Gr) (m : Mo) : Bool × Int := if arrR a g m ≠ 0 then (false, arrR a g m) else if validC a c ≠ 0 then (false, validC a c) else (c.hol g m, 0)
theorem arrR_valid {a b : Gr} {m : Mo} (h : arrR a b m = 0) : validM a b m = 0 ∧ injM a b m = true := by
  unfold arrR at h
  split at h
  · contradiction
  · rename_i h1
    split at h
    · rename_i h2; exact ⟨by simpa using h1, h2⟩
    · contradiction
theorem arrR_flm {a b : Gr} {m : Mo} (h : arrR a b m = 0) : Flm a m :=
  have V := validM_VM (arrR_valid h).1
  ⟨V.ln, V.le, fun x hx => (V.n x hx).1, fun x hx => (V.e x hx).1⟩
theorem validC_ovr {a : Gr} {c : Cd} (h : validC a c = 0) : validG a = 0 ∧ c.ovr a = 0 ∧ smallC c = 0 := by
  unfold validC at h
  split at h
  · contradiction
  · rename_i h1
    split at h
    · contradiction
    · rename_i h2; exact ⟨by simpa using h1, by simpa using h2, h⟩

theorem satisfies_c (a : Gr) (c : Cd) (g : Gr) (m : Mo) (ha : a.Fit) (hc : c.Fit) (hg : g.Fit) (hm : m.Fit) (tok : Nat → Bool) (nt : Nat) : DCall Tryz.prog 10 [a.av, c.av, g.av, m.av] tok nt (.tup [B (satR a c g m).1, I (satR a c g m).2]) tok nt := by
  intro box nb
  have hi := cdInj_c a g m ha hg hm
  have hv := validC_c a c ha hc
  have hh := fun (h1 : arrR a g m = 0) (h2 : validC a c = 0) => holds43_c _ c (Nat.lt_succ_self _) hc a (validC_ovr h2).2.1 g hg m (arrR_flm h1)
  refine ACalls.of_body Tryz.func10 rfl (by kernel_rfl) follows_Tryz (by kernel_rfl) (by simp [Tryz.ntmps10]) ?_
  intro hbox htok
  simp only at hbox htok
  apply AL.start
  try (simp)
  repeat ((repeat (first | refine AL.seq ?_ | refine AL.block ?_ | refine AL.skip ?_ | refine AL.blk ?_)); (refine AL.region follows_Tryz (Nat.le_refl _) (by kernel_rfl) ?_); simp)
  refine Stop.of_d (hi _ _) ?_
  simp
  try (simp)
  repeat ((repeat (first | refine AL.seq ?_ | refine AL.block ?_ | refine AL.skip ?_ | refine AL.blk ?_)); (refine AL.region follows_Tryz (Nat.le_refl _) (by kernel_rfl) ?_); simp)
  by_cases h0 : arrR a g m = 0
  · simp only [h0]
    repeat (first | refine AL.seq ?_ | refine AL.block ?_ | refine AL.skip ?_ | refine AL.blk ?_)
    refine AL.cond ?_
    simp
    try (simp)
    repeat ((repeat (first | refine AL.seq ?_ | refine AL.block ?_ | refine AL.skip ?_ | refine AL.blk ?_)); (refine AL.region follows_Tryz (Nat.le_refl _) (by kernel_rfl) ?_); simp)
    refine Stop.of_d (hv _ _) ?_
    simp
    try (simp)
    repeat ((repeat (first | refine AL.seq ?_ | refine AL.block ?_ | refine AL.skip ?_ | refine AL.blk ?_)); (refine AL.region follows_Tryz (Nat.le_refl _) (by kernel_rfl) ?_); simp)
    by_cases h1 : validC a c = 0
    · have hh' := hh h0 h1
      simp only [h1]
      repeat (first | refine AL.seq ?_ | refine AL.block ?_ | refine AL.skip ?_ | refine AL.blk ?_)
      refine AL.cond ?_
      simp
      try (simp)
      repeat ((repeat (first | refine AL.seq ?_ | refine AL.block ?_ | refine AL.skip ?_ | refine AL.blk ?_)); (refine AL.region follows_Tryz (Nat.le_refl _) (by kernel_rfl) ?_); simp)
      refine Stop.of_d (hh' _ _) ?_
      simp
      try (simp)
      repeat ((repeat (first | refine AL.seq ?_ | refine AL.block ?_ | refine AL.skip ?_ | refine AL.blk ?_)); (refine AL.region follows_Tryz (Nat.le_refl _) (by kernel_rfl) ?_); simp)
      repeat (first | refine AL.seq ?_ | refine AL.block ?_ | refine AL.skip ?_ | refine AL.blk ?_)
      refine AL.ret ?_
      try simp only [AU]
      refine ⟨by simp, Fin.data (by simp [resAs, resA]; rfl) hbox rfl htok (fun _ h => h) (Nat.le_refl _) ?_⟩
      simp [packA, satR, h0, h1]
    · have b1 : (validC a c != 0) = true := by simp [h1]
      simp only [b1]
      repeat (first | refine AL.seq ?_ | refine AL.block ?_ | refine AL.skip ?_ | refine AL.blk ?_)
      refine AL.cond ?_
      simp
      try (simp)
      repeat ((repeat (first | refine AL.seq ?_ | refine AL.block ?_ | refine AL.skip ?_ | refine AL.blk ?_)); (refine AL.region follows_Tryz (Nat.le_refl _) (by kernel_rfl) ?_); simp)
      repeat (first | refine AL.seq ?_ | refine AL.block ?_ | refine AL.skip ?_ | refine AL.blk ?_)
      refine AL.ret ?_
      try simp only [AU]
      refine ⟨by simp, Fin.data (by simp [resAs, resA]; rfl) hbox rfl htok (fun _ h => h) (Nat.le_refl _) ?_⟩
      simp [packA, satR, h0, h1]
  · have b0 : (arrR a g m != 0) = true := by simp [h0]
    simp only [b0]
    repeat (first | refine AL.seq ?_ | refine AL.block ?_ | refine AL.skip ?_ | refine AL.blk ?_)
    refine AL.cond ?_
    simp
    try (simp)
    repeat ((repeat (first | refine AL.seq ?_ | refine AL.block ?_ | refine AL.skip ?_ | refine AL.blk ?_)); (refine AL.region follows_Tryz (Nat.le_refl _) (by kernel_rfl) ?_); simp)
    repeat (first | refine AL.seq ?_ | refine AL.block ?_ | refine AL.skip ?_ | refine AL.blk ?_)
    refine AL.ret ?_
    try simp only [AU]
    refine ⟨by simp, Fin.data (by simp [resAs, resA]; rfl) hbox rfl htok (fun _ h => h) (Nat.le_refl _) ?_⟩
    simp [packA, satR, h0]

/-- Two ways that lead to the same. -/
def agrK (a b c d : List Int) (i : Nat) : Bool := decide (∀ j, j < i → b.getD (a.getD j 0).toNat 0 = d.getD (c.getD j 0).toNat 0)
def stAg (a b c d : List Int) (nb : Nat) (box : Nat → Option (List (List AV))) (tok : Nat → Bool) (nt : Nat) (i : Nat) : AState :=
  ⟨tl [(11, I a.length), (12, I i), (0, .d (ints a)), (1, .d (ints b)), (2, .d (ints c)), (3, .d (ints d))], lb nb box [], tok, nt⟩
theorem agree_c (a b c d : List Int) (hl : a.length ≤ 1000000) (h1 : ∀ x ∈ a, 0 ≤ x ∧ x < b.length) (hc : a.length ≤ c.length) (h2 : ∀ x ∈ c, 0 ≤ x ∧ x < d.length) (tok : Nat → Bool) (nt : Nat) :
    DCall Tryz.prog 77 [.d (ints a), .d (ints b), .d (ints c), .d (ints d)] tok nt (B (agrK a b c d a.length)) tok nt := by
  intro box nb
  refine ACalls.of_body Tryz.func77 rfl (by kernel_rfl) follows_Tryz (by kernel_rfl) (by simp [Tryz.ntmps77]) ?_
  intro hbox htok
  simp only at hbox htok
  apply AL.start
  try (simp)
  repeat ((repeat (first | refine AL.seq ?_ | refine AL.block ?_ | refine AL.skip ?_ | refine AL.blk ?_)); (refine AL.region follows_Tryz (Nat.le_refl _) (by kernel_rfl) ?_); simp)
  repeat (first | refine AL.seq ?_ | refine AL.block ?_ | refine AL.skip ?_ | refine AL.blk ?_)
  refine AL.loopT (stAg a b c d nb box tok nt) (fun i => i ≤ a.length ∧ agrK a b c d i = true) (fun i => a.length - i) 0 ⟨Nat.zero_le _, by simp [agrK]⟩ (Weaks.mk (Nat.le_refl _) rfl (by simp [ToL, lk]) (by simp [BoxL, lk])) ?_
  rintro i S ⟨hi, hz⟩ hS
  simp only [stAg] at hS
  subst hS
  have hw : IntKind.i64.wrap (↑i + 1) = ((i + 1 : Nat) : Int) := by rw [wrap_in (by omega) (by omega)]; rfl
  try (simp)
  repeat ((repeat (first | refine AL.seq ?_ | refine AL.block ?_ | refine AL.skip ?_ | refine AL.blk ?_)); (refine AL.region follows_Tryz (Nat.le_refl _) (by kernel_rfl) ?_); simp)
  repeat (first | refine AL.seq ?_ | refine AL.block ?_ | refine AL.skip ?_ | refine AL.blk ?_)
  refine AL.cond ?_
  simp
  refine ⟨fun hlt => ?_, fun hge => ?_⟩
  · have hic : i < c.length := by omega
    obtain ⟨x1, x2⟩ := h1 _ (List.getElem_mem hlt)
    obtain ⟨y1, y2⟩ := h2 _ (List.getElem_mem hic)
    have x3 : a[i].toNat < b.length := by omega
    have y3 : c[i].toNat < d.length := by omega
    have hyes : b[a[i].toNat] = d[c[i].toNat] → agrK a b c d (i + 1) = true := fun he => by
      simp only [agrK, decide_eq_true_eq] at hz ⊢
      intro j hj
      by_cases e : j = i
      · subst e; simpa [hlt, hic, x3, y3] using he
      · exact hz j (by omega)
    have hno : b[a[i].toNat] ≠ d[c[i].toNat] → agrK a b c d a.length = false := fun he => by
      simp only [agrK, decide_eq_false_iff_not]
      intro h
      have := h i hlt
      simp [hlt, hic, x3, y3] at this
      exact he this
    try (simp [hlt, hic, x1, x3, y1, y3, x2, y2])
    repeat ((repeat (first | refine AL.seq ?_ | refine AL.block ?_ | refine AL.skip ?_ | refine AL.blk ?_)); (refine AL.region follows_Tryz (Nat.le_refl _) (by kernel_rfl) ?_); simp [hlt, hic, x1, x3, y1, y3, x2, y2])
    by_cases he : b[a[i].toNat] = d[c[i].toNat]
    · have hy := hyes he
      simp only [he]
      repeat (first | refine AL.seq ?_ | refine AL.block ?_ | refine AL.skip ?_ | refine AL.blk ?_)
      refine AL.cond ?_
      simp
      try (simp [hw])
      repeat ((repeat (first | refine AL.seq ?_ | refine AL.block ?_ | refine AL.skip ?_ | refine AL.blk ?_)); (refine AL.region follows_Tryz (Nat.le_refl _) (by kernel_rfl) ?_); simp [hw])
      repeat (first | refine AL.seq ?_ | refine AL.block ?_ | refine AL.skip ?_ | refine AL.blk ?_)
      refine AL.nil ?_
      exact ⟨i + 1, ⟨hlt, hy⟩, by omega, Weaks.mk (Nat.le_refl _) rfl (by simp [ToL, lk]) (by simp [BoxL, lk])⟩
    · have hn := hno he
      have bn : (b[a[i].toNat] != d[c[i].toNat]) = true := by simp [he]
      simp only [bn]
      repeat (first | refine AL.seq ?_ | refine AL.block ?_ | refine AL.skip ?_ | refine AL.blk ?_)
      refine AL.cond ?_
      simp
      try (simp)
      repeat ((repeat (first | refine AL.seq ?_ | refine AL.block ?_ | refine AL.skip ?_ | refine AL.blk ?_)); (refine AL.region follows_Tryz (Nat.le_refl _) (by kernel_rfl) ?_); simp)
      repeat (first | refine AL.seq ?_ | refine AL.block ?_ | refine AL.skip ?_ | refine AL.blk ?_)
      refine AL.ret ?_
      try simp only [AU]
      refine ⟨by simp, Fin.data (by simp [resAs, resA]; rfl) hbox rfl htok (fun _ h => h) (Nat.le_refl _) ?_⟩
      simp [packA, hn]
  · repeat (first | refine AL.seq ?_ | refine AL.block ?_ | refine AL.skip ?_ | refine AL.blk ?_)
    refine AL.exit ?_
    simp only [AU, ↓reduceIte]
    have : i = a.length := by omega
    subst this
    try (simp)
    repeat ((repeat (first | refine AL.seq ?_ | refine AL.block ?_ | refine AL.skip ?_ | refine AL.blk ?_)); (refine AL.region follows_Tryz (Nat.le_refl _) (by kernel_rfl) ?_); simp)
    repeat (first | refine AL.seq ?_ | refine AL.block ?_ | refine AL.skip ?_ | refine AL.blk ?_)
    refine AL.ret ?_
    try simp only [AU]
    refine ⟨by simp, Fin.data (by simp [resAs, resA]; rfl) hbox rfl htok (fun _ h => h) (Nat.le_refl _) ?_⟩
    simp [packA, hz]
end Go.AM
/-
  What all standard overlaps are, and what shifting computes.
-/
namespace Go.AM
open Go Go.Proofs
set_option linter.unusedSimpArgs false
set_option linter.unusedVariables false

/-- A morphism that stays within. -/
structure Inn (m : Mo) (a b : Gr) : Prop where
  ln : m.nodes.length = a.nodes.length
  le : m.edges.length = a.edges.length
  n : ∀ x ∈ m.nodes, 0 ≤ x ∧ x < b.nodes.length
  e : ∀ x ∈ m.edges, 0 ≤ x ∧ x < b.edges.length
theorem Inn.of {a b : Gr} {m : Mo} (h : validM a b m = 0) : Inn m a b := have V := validM_VM h; ⟨V.ln, V.le, V.n, V.e⟩

structure OvOk (b p : Gr) (o : Ov) : Prop where
  l : validM b o.g o.l = 0
  r : validM p o.g o.r = 0
  il : injM b o.g o.l = true
  ir : injM p o.g o.r = true

theorem overlapsR_ok {b p : Gr} {o : Ov} (ho : o ∈ (overlapsR b p).1) : OvOk b p o := by
  by_cases hb : validG b = 0
  · by_cases hp : validG p = 0
    · by_cases hs : 40 < b.nodes.length + p.nodes.length ∨ 80 < b.edges.length + p.edges.length
      · simp [overlapsR, hb, hp, hs] at ho
      · rw [overlapsR_list b p hb hp hs] at ho
        split at ho
        · simp at ho
        · simp only [listO, List.mem_map] at ho
          obtain ⟨⟨x, es⟩, h1, rfl⟩ := ho
          have hp1 := (pairsM_mem b p _).1 h1
          have g1 := glue_law hb hp (by omega) hp1
          have g2 := glue_law2 hb hp (by omega) hp1
          exact ⟨g1.2.1, g1.2.2, g2.1, g2.2.1⟩
    · simp [overlapsR, hb, hp] at ho
  · simp [overlapsR, hb] at ho
/-! ### Shifting -/
abbrev St2 := Int × Int
def seqL {α : Type} (f : α → St2 → List Cd × St2) : List α → St2 → List Cd × St2
  | [], st => ([], st)
  | x :: r, st => ((f x st).1 ++ (seqL f r (f x st).2).1, (seqL f r (f x st).2).2)
theorem seqL_append {α : Type} (f : α → St2 → List Cd × St2) (x : α) : ∀ (l : List α) (st : St2), seqL f (l ++ [x]) st = ((seqL f l st).1 ++ (f x (seqL f l st).2).1, (f x (seqL f l st).2).2)
  | [], st => by simp [seqL]
  | y :: r, st => by simp [seqL, seqL_append f x r]
theorem seqL_take {α : Type} (f : α → St2 → List Cd × St2) (l : List α) (st : St2) {i : Nat} (h : i < l.length) :
    seqL f (l.take (i + 1)) st = ((seqL f (l.take i) st).1 ++ (f l[i] (seqL f (l.take i) st).2).1, (f l[i] (seqL f (l.take i) st).2).2) := by
  rw [List.take_succ_eq_append_getElem h, seqL_append]

def cdOf (k : Int) (kids : List Cd) : Cd := .mk k kids ⟨[], []⟩ ⟨[], []⟩ [] 0 []
def exOf (o : Ov) (kid : Cd) : Cd := .mk 5 [kid] o.l o.g [] 0 []
def agrO (m mm : Mo) (o : Ov) : Bool := agrK m.nodes o.l.nodes mm.nodes o.r.nodes m.nodes.length && agrK m.edges o.l.edges mm.edges o.r.edges m.edges.length
def inc (n : Int) : Int := IntKind.i64.wrap (n + 1)
def ovF (m mm : Mo) (H : Gr → Mo → St2 → Cd × St2) (o : Ov) (st : St2) : List Cd × St2 :=
  if agrO m mm o = true then ([exOf o (H o.g o.r (inc st.1, st.2)).1], (H o.g o.r (inc st.1, st.2)).2) else ([], st)
def st1 (st : St2) : St2 := (inc st.1, if 2000 < inc st.1 then 3 else st.2)
def shStep (k : Int) (mm : Mo) (p b : Gr) (m : Mo) (st : St2) (L : St2 → List Cd × St2) (H : Gr → Mo → St2 → Cd × St2) : Cd × St2 :=
  if (st1 st).2 ≠ 0 then (cdOf k [], st1 st)
  else if k ≠ 5 then (cdOf k (L (st1 st)).1, (L (st1 st)).2)
  else if (overlapsR b p).2 ≠ 0 then (cdOf 4 [], ((st1 st).1, (overlapsR b p).2))
  else (cdOf 4 (seqL (ovF m mm H) (overlapsR b p).1 (st1 st)).1, (seqL (ovF m mm H) (overlapsR b p).1 (st1 st)).2)
mutual
def Cd.shf : Cd → Gr → Mo → St2 → Cd × St2
  | .mk k c mm p s v t, b, m, st => shStep k mm p b m st (fun st => Cd.shfL c b m st) (fun b m st => Cd.shfH c b m st)
def Cd.shfL : List Cd → Gr → Mo → St2 → List Cd × St2
  | [], _, _, st => ([], st)
  | x :: r, b, m, st => ([(Cd.shf x b m st).1] ++ (Cd.shfL r b m (Cd.shf x b m st).2).1, (Cd.shfL r b m (Cd.shf x b m st).2).2)
def Cd.shfH : List Cd → Gr → Mo → St2 → Cd × St2
  | [], _, _, st => (cdOf 0 [], st)
  | x :: _, b, m, st => Cd.shf x b m st
end
def shF (b : Gr) (m : Mo) (x : Cd) (st : St2) : List Cd × St2 := ([(Cd.shf x b m st).1], (Cd.shf x b m st).2)
theorem Cd.shfL_eq (b : Gr) (m : Mo) : ∀ (l : List Cd) (st : St2), Cd.shfL l b m st = seqL (shF b m) l st
  | [], st => by simp [Cd.shfL, seqL]
  | x :: r, st => by simp [Cd.shfL, seqL, shF, Cd.shfL_eq b m r]
theorem Cd.shf_eq (c : Cd) (b : Gr) (m : Mo) (st : St2) : c.shf b m st = shStep c.kind c.m c.g b m st (fun st => seqL (shF b m) c.kids st) (fun b m st => Cd.shfH c.kids b m st) := by
  cases c
  simp only [Cd.shf, Cd.shfL_eq]
  rfl
end Go.AM
/-
  The abstract machine: regions whose order is open, and in which a call writes a box.
-/
namespace Go.AM
open Go
set_option linter.unusedSimpArgs false
set_option linter.unusedVariables false

variable {P : Program}

theorem EffV.val {o : Oper} {ρ : Operand → AV} {box box' : Nat → Option (List (List AV))} {tok tok' : Nat → Bool} {nt nt' : Nat} {v : AV} (h : EffV P o ρ box tok nt v box' tok' nt') : isVal o.op = true := by
  unfold EffV at h
  split at h
  · rename_i c ho
    split at h
    · rename_i f hf
      rw [ho]
      obtain ⟨cal, args, tys⟩ := c
      simp only at hf
      subst hf
      rfl
    · exact h.elim
  · exact h.elim
theorem EffV.spec {o : Oper} {ρ : Operand → AV} {box box' : Nat → Option (List (List AV))} {tok tok' : Nat → Bool} {nt nt' : Nat} {v : AV} (h : EffV P o ρ box tok nt v box' tok' nt') :
    ∃ x k i off rows, callPtr o.op = some x ∧ ρ x = .ptr k i off ∧ box' = upd box k (some rows) := by
  unfold EffV at h
  split at h
  · split at h
    · split at h
      · obtain ⟨x, k, i, off, rows, g1, g2, g3, g4, g5⟩ := h
        exact ⟨x, k, i, off, rows, g1, g2, g4⟩
      · exact h.elim
    · exact h.elim
  · exact h.elim

theorem Eff.up {wr : Bool} {base : Nat} {o : Oper} {ρ : Operand → AV} {box box' : Nat → Option (List (List AV))} {tok tok' : Nat → Bool} {nt nt' : Nat} {v : AV} (h : Eff P false base o ρ box tok nt v box' tok' nt') : Eff P wr base o ρ box tok nt v box' tok' nt' := by
  unfold Eff at h ⊢
  cases hc : cls o.op <;> simp only [hc] at h ⊢ <;> first | exact h | exact .inl (t_false h)
theorem Eff.down {wr : Bool} {base : Nat} {o : Oper} {ρ : Operand → AV} {box box' : Nat → Option (List (List AV))} {tok tok' : Nat → Bool} {nt nt' : Nat} {v : AV} (hv : isVal o.op = false) (h : Eff P wr base o ρ box tok nt v box' tok' nt') : Eff P false base o ρ box tok nt v box' tok' nt' := by
  unfold Eff at h ⊢
  cases hc : cls o.op <;> simp only [hc] at h ⊢ <;> first | exact h | skip
  rcases h with h | ⟨_, h⟩
  · exact .inl h
  · rw [h.val] at hv; cases hv
theorem Step.up {wr : Bool} {base : Nat} {o : Oper} {S S' : AState} (h : Step P false base o S S') : Step P wr base o S S' := by
  obtain ⟨v, b, t, n, h1, h2⟩ := h
  exact ⟨v, b, t, n, h1.up, h2⟩

def ptrOp3 (o : Op) : Option Operand := match ptrOp o with
  | some p => some p
  | none => callPtr o
def calm (x y : Oper) : Bool := match isVal x.op, isVal y.op with
  | true, true => false
  | true, false => decide (cls y.op = .n) || decide (cls y.op = .r)
  | false, true => decide (cls x.op = .n) || decide (cls x.op = .r)
  | false, false => !clash x y || isPtr x.op && isPtr y.op

theorem load_ptr {o : Oper} (h : cls o.op = .r) : ∃ p, ptrOp o.op = some p := by
  cases hop : o.op <;> rw [hop] at h <;> simp only [cls, reduceCtorEq] at h
  · exact ⟨_, rfl⟩
  · split at h <;> first | (rename_i e; cases e; done) | (cases h; done) | simp_all
theorem val_cls {o : Op} (h : isVal o = true) : cls o = .t ∧ ptrOp o = none := by
  unfold isVal at h
  split at h
  · exact ⟨rfl, rfl⟩
  · cases h

theorem calm_swap {base : Nat} {x y : Oper} {ρ : Operand → AV} {b0 b1 b2 : Nat → Option (List (List AV))} {t0 t1 t2 : Nat → Bool} {n0 n1 n2 : Nat} {vx vy : AV} (hc : calm x y = true)
    (hk : ∀ p q, ptrOp3 x.op = some p → ptrOp3 y.op = some q → (cls x.op ≠ .r ∨ cls y.op ≠ .r) → ∀ k i off k' i' off', ρ p = .ptr k i off → ρ q = .ptr k' i' off' → k ≠ k')
    (hx : Eff P true base x ρ b0 t0 n0 vx b1 t1 n1) (hy : Eff P true base y ρ b1 t1 n1 vy b2 t2 n2) : ∃ c t n, Eff P true base y ρ b0 t0 n0 vy c t n ∧ Eff P true base x ρ c t n vx b2 t2 n2 := by
  unfold calm at hc
  cases vx' : isVal x.op <;> cases vy' : isVal y.op <;> simp only [vx', vy'] at hc
  · have dx := hx.down vx'
    have dy := hy.down vy'
    cases hcl : clash x y with
    | false =>
      obtain ⟨c, t, n, h1, h2⟩ := eff_swap hcl dx dy
      exact ⟨c, t, n, h1.up, h2.up⟩
    | true =>
      rw [hcl] at hc
      simp only [Bool.not_true, Bool.false_or, Bool.and_eq_true] at hc
      obtain ⟨p, hp⟩ := Option.isSome_iff_exists.1 hc.1
      obtain ⟨q, hq⟩ := Option.isSome_iff_exists.1 hc.2
      have hp3 : ptrOp3 x.op = some p := by unfold ptrOp3; rw [hp]
      have hq3 : ptrOp3 y.op = some q := by unfold ptrOp3; rw [hq]
      have hr : cls x.op ≠ .r ∨ cls y.op ≠ .r := by
        by_cases e1 : cls x.op = .r
        · by_cases e2 : cls y.op = .r
          · simp [clash, e1, e2] at hcl
          · exact .inr e2
        · exact .inl e1
      obtain ⟨c, t, n, h1, h2⟩ := eff_far hp hq (hk p q hp3 hq3 hr) dx dy
      exact ⟨c, t, n, h1.up, h2.up⟩
  · -- the call comes second
    obtain ⟨cy, py⟩ := val_cls vy'
    unfold Eff at hx hy ⊢
    simp only [Bool.or_eq_true, decide_eq_true_eq] at hc
    rcases hc with hc | hc <;> simp only [hc, cy] at hx hy ⊢
    · obtain ⟨e, rfl, rfl, rfl⟩ := hx
      exact ⟨_, _, _, hy, e, rfl, rfl, rfl⟩
    · obtain ⟨e, rfl, rfl, rfl⟩ := hx
      obtain ⟨p, hp⟩ := load_ptr hc
      refine ⟨_, _, _, hy, ?_, rfl, rfl, rfl⟩
      rcases hy with ⟨_, rfl⟩ | ⟨_, hv⟩
      · exact e
      · obtain ⟨z, k, i, off, rows, g1, g2, rfl⟩ := hv.spec
        refine effR_ptr hp hc e fun k1 i1 off1 h1 => ?_
        exact hk p z (by unfold ptrOp3; rw [hp]) (by unfold ptrOp3; rw [py]; exact g1) (.inr (by rw [cy]; decide)) _ _ _ _ _ _ h1 g2
  · -- the call comes first
    obtain ⟨cx, px⟩ := val_cls vx'
    unfold Eff at hx hy ⊢
    simp only [Bool.or_eq_true, decide_eq_true_eq] at hc
    rcases hc with hc | hc <;> simp only [hc, cx] at hx hy ⊢
    · obtain ⟨e, rfl, rfl, rfl⟩ := hy
      exact ⟨_, _, _, ⟨e, rfl, rfl, rfl⟩, hx⟩
    · obtain ⟨e, rfl, rfl, rfl⟩ := hy
      obtain ⟨q, hq⟩ := load_ptr hc
      refine ⟨_, _, _, ⟨?_, rfl, rfl, rfl⟩, hx⟩
      rcases hx with ⟨_, rfl⟩ | ⟨_, hv⟩
      · exact e
      · obtain ⟨z, k, i, off, rows, g1, g2, rfl⟩ := hv.spec
        refine effR_back hq hc (fun k1 i1 off1 h1 => ?_) e
        exact Ne.symm (hk z q (by unfold ptrOp3; rw [px]; exact g1) (by unfold ptrOp3; rw [hq]) (.inl (by rw [cx]; decide)) _ _ _ _ _ _ g2 h1)
  · cases hc

def regOk3 (ops : Array Oper) : Bool :=
  let an := ancs ops.toList []
  dstUniq ops && (List.range ops.size).all fun i => (match ops[i]? with | some o => (direct o).all fun j => decide (j < i) | none => true) &&
    (List.range i).all fun j => (an.getD i 0).testBit j || (match ops[j]?, ops[i]? with
      | some x, some y => Oper.apart ops x y && calm x y
      | _, _ => false)

/-- The pairs of pointers that nothing orders, one of them a store's or a call's. -/
def unPairs (ops : Array Oper) : List (Operand × Operand) :=
  let an := ancs ops.toList []
  (List.range ops.size).flatMap fun i => (List.range i).filterMap fun j => if (an.getD i 0).testBit j then none else match ops[j]?, ops[i]? with
    | some x, some y => match ptrOp3 x.op, ptrOp3 y.op with
      | some p, some q => if cls x.op = .r ∧ cls y.op = .r then none else some (p, q)
      | _, _ => none
    | _, _ => none
def FarP (S : AState) : List (Operand × Operand) → Prop
  | [] => True
  | (p, q) :: r => NK (S.ev p) (S.ev q) ∧ FarP S r
theorem FarP.at {S : AState} {p q : Operand} : ∀ {L : List (Operand × Operand)}, FarP S L → (p, q) ∈ L → NK (S.ev p) (S.ev q)
  | (a, b) :: r, h, hm => by
    rcases List.mem_cons.1 hm with e | hm
    · cases e; exact h.1
    · exact FarP.at h.2 hm
theorem unPairs_mem {ops : Array Oper} {i j : Nat} {x y : Oper} {p q : Operand} (hx : ops[j]? = some x) (hy : ops[i]? = some y) (hij : j < i) (hb : ((ancs ops.toList []).getD i 0).testBit j = false) (hp : ptrOp3 x.op = some p) (hq : ptrOp3 y.op = some q) (hr : cls x.op ≠ .r ∨ cls y.op ≠ .r) : (p, q) ∈ unPairs ops := by
  have his : i < ops.size := (Array.getElem?_eq_some_iff.1 hy).1
  unfold unPairs
  simp only [List.mem_flatMap, List.mem_range, List.mem_filterMap]
  refine ⟨i, his, j, hij, ?_⟩
  have hnr : ¬ (cls x.op = .r ∧ cls y.op = .r) := fun h => by rcases hr with hr | hr; exact hr h.1; exact hr h.2
  rw [hb, hx, hy]
  simp [hp, hq, hnr]

theorem any_sound3 {n nb base : Nat} {ops : Array Oper} {Q : Exit → Act → World → Prop} {Sf : AState} {G0 : Gh} {w0 : World} {b0 : Nat → Option (List (List AV))} (hreg : regOk3 ops = true) (hal : allocOk ops = true) (hdst : dstOk n ops = true) (hnb : base + n ≤ nb)
    (hfar : FarP Sf (unPairs ops))
    (hQ : ∀ a' w' G', RelS n nb G' Sf a' w' → LeK base G0 w0 b0 G' w' Sf.box → Q .normal a' w') (fuel : Nat) (listed : Array Bool) (rem : List Nat) (S : AState) (a : Act) (w : World) (G : Gh) (hrem : rem = List.range ops.size) (hside : Side ops S)
    (h1 : listed.size = ops.size) (h2 : rem = (List.range ops.size).filter (fun i => !listed.getD i true)) (h3 : rem.length = fuel) (h4 : ∀ i o, ops[i]? = some o → listed.getD i false = true → ∀ j ∈ direct o, listed.getD j false = true)
    (h5 : IRun P true base ops rem S Sf) (h6 : RelS n nb G S a w) (h7 : ∀ i ∈ rem, ∀ o, ops[i]? = some o → Pend P base o G S.box) (h8 : LeK base G0 w0 b0 G w S.box) : wpAny P .any ops Q fuel listed a w := by
  unfold regOk3 at hreg
  simp only [Bool.and_eq_true] at hreg
  obtain ⟨hu, hreg⟩ := hreg
  have key : ∀ (i : Nat) (o : Oper), ops[i]? = some o → (∀ j ∈ direct o, j < i) ∧ ∀ j x, ops[j]? = some x → j < i → ((ancs ops.toList []).getD i 0).testBit j = true ∨ x.apart ops o = true ∧ calm x o = true := by
    intro i o ho
    have his : i < ops.size := (Array.getElem?_eq_some_iff.1 ho).1
    have hall := List.all_eq_true.1 hreg i (by simpa using his)
    rw [ho] at hall
    simp only [Bool.and_eq_true] at hall
    refine ⟨fun j hj => by simpa using List.all_eq_true.1 hall.1 j hj, fun j x hx hj => ?_⟩
    have h2 := List.all_eq_true.1 hall.2 j (by simpa using hj)
    rw [hx] at h2
    simpa only [Bool.or_eq_true, Bool.and_eq_true] using h2
  have start : Ivs Sf S := by
    intro t
    by_cases hd : ∃ o ∈ ops.toList, o.dst = some t
    · obtain ⟨o, ho, hd⟩ := hd
      exact .inr (hside o ho t hd)
    · refine .inl (irun_keeps (fun j _ x hx hxd => hd ⟨x, by simpa using Array.mem_of_getElem? hx, hxd⟩) h5).symm
  refine any_sound' (wr := true) (fun i o ho => (key i o ho).1) (Iv := Ivs Sf) (fun i o S' S'' rest ho hni hst hrun hiv => ivs_step hu i o S' S'' rest ho hni hst hrun hiv) ?_ hal hdst hnb hQ fuel listed rem S a w G h1 h2 h3 h4 start h5 h6 h7 h8
  intro i j o x ho hx hj hb S' S1 S2 hiv g1 g2
  rcases (key i o ho).2 j x hx hj with h | ⟨h, h'⟩
  · rw [hb] at h; cases h
  · refine gstep_swap' h (fun {c0 c1 c2 s0 s1 s2 m0 m1 m2 vx vy} e1 e2 => ?_) g1 g2
    have back : ∀ (z : Operand) k i off, S'.ev z = .ptr k i off → Sf.ev z = .ptr k i off := by
      intro z k i off hz
      cases z with
      | tmp t =>
        rcases hiv t with e | e
        · exact e.symm.trans hz
        · have hz' : S'.tmps t = .ptr k i off := hz
          rw [hz'] at e
          exact e.elim
      | const c => exact hz
      | global c => exact hz
      | func c => exact hz
    refine calm_swap h' (fun p q hp hq hr k i1 off k' i2 off' hk hk' => ?_) e1 e2
    have hnk := hfar.at (unPairs_mem hx ho hj hb hp hq hr)
    rw [back p _ _ _ hk, back q _ _ _ hk'] at hnk
    exact hnk

/-! ### The evaluator -/
def StopW (P : Program) (o : Oper) (fid : FuncId) (args : List AV) (S : AState) (K : AState → Prop) : Prop :=
  (∃ v tok' nt', RCall P fid args S.box S.tok S.nt v tok' nt' ∧ K ⟨putT S.tmps o.dst v, S.box, tok', nt'⟩) ∨
  ∃ x k i off rows v tok' nt', callPtr o.op = some x ∧ S.ev x = .ptr k i off ∧ S.box k ≠ none ∧ WCall P fid args k S.box S.tok S.nt v rows tok' nt' ∧ K ⟨putT S.tmps o.dst v, upd S.box k (some rows), tok', nt'⟩

def FOneW (P : Program) (cx : Cx) (o : Oper) (K : AState → Prop) (S : AState) : Prop := match callFn o S.ev with
  | some (fid, args) => StopW P o fid args S K
  | none => FOne P cx true o K S

def FOpsW (P : Program) (cx : Cx) (ops : Array Oper) : List Oper → (AState → Prop) → AState → Prop
  | [], K, S => K S
  | o :: r, K, S => match o.guard with
    | none => FOneW P cx o (FOpsW P cx ops r K) S
    | some (j, want) => match yieldA ops S j with
      | some (some b) => Gd b want (FOneW P cx o (FOpsW P cx ops r K)) (FSkip o.dst (FOpsW P cx ops r K)) S
      | some none => FSkip o.dst (FOpsW P cx ops r K) S
      | none => False

theorem fOpsW_true {cx : Cx} {ops : Array Oper} {K : AState → Prop} : ∀ (l : List Oper) (S : AState), FOpsW P cx ops l K S → ∃ S', ARun P true cx.base ops l S S' ∧ K S'
  | [], S, h => ⟨S, rfl, h⟩
  | o :: r, S, h => by
    have one : FOneW P cx o (FOpsW P cx ops r K) S → ∃ S1 S', Step P true cx.base o S S1 ∧ ARun P true cx.base ops r S1 S' ∧ K S' := by
      intro h1
      unfold FOneW at h1
      split at h1
      · rename_i fid args hc
        unfold callFn at hc
        split at hc
        · rename_i c ho
          split at hc
          · rename_i f hcal
            split at hc
            · rename_i fid' caps hf
              simp only [Option.some.injEq, Prod.mk.injEq] at hc
              obtain ⟨rfl, rfl⟩ := hc
              have hcl : cls o.op = .t := by
                rw [ho]
                obtain ⟨cal, args, tys⟩ := c
                simp only at hcal
                subst hcal
                rfl
              rcases h1 with ⟨v, tok', nt', hd, hk'⟩ | ⟨x, k, i, off, rows, v, tok', nt', g1, g2, g3, hw, hk'⟩
              · obtain ⟨S', h2, h3⟩ := fOpsW_true r _ hk'
                refine ⟨_, S', ⟨v, S.box, tok', nt', ?_, rfl⟩, h2, h3⟩
                unfold Eff
                rw [hcl]
                refine .inl ⟨.inr ?_, rfl⟩
                unfold EffC
                simp only [ho, hcal, hf]
                exact hd
              · obtain ⟨S', h2, h3⟩ := fOpsW_true r _ hk'
                refine ⟨_, S', ⟨v, upd S.box k (some rows), tok', nt', ?_, rfl⟩, h2, h3⟩
                unfold Eff
                rw [hcl]
                refine .inr ⟨rfl, ?_⟩
                unfold EffV
                rw [ho] at g1 ⊢
                simp only [hcal, hf]
                exact ⟨x, k, i, off, rows, g1, g2, g3, rfl, hw⟩
            · cases hc
          · cases hc
        · cases hc
      · rename_i hc
        rcases fOne_cases h1 with ⟨_, S1, hs, hk⟩ | ⟨hdr, _⟩ | ⟨fid, args, hc', hk⟩
        · obtain ⟨S', h2, h3⟩ := fOpsW_true r S1 hk
          exact ⟨S1, S', hs.up, h2, h3⟩
        · cases hdr
        · rw [hc] at hc'; cases hc'
    unfold FOpsW at h
    unfold ARun
    split at h
    · rename_i hg
      obtain ⟨S1, S', h1, h2, h3⟩ := one h
      exact ⟨S', ⟨S1, by unfold GStep; rw [hg]; exact h1, h2⟩, h3⟩
    · rename_i j want hg
      split at h
      · rename_i b hy
        by_cases e : b = want
        · obtain ⟨S1, S', h1, h2, h3⟩ := one (h.1 e)
          exact ⟨S', ⟨S1, by unfold GStep; rw [hg]; simp only [hy, e, ↓reduceIte]; exact h1, h2⟩, h3⟩
        · obtain ⟨S', h2, h3⟩ := fOpsW_true r _ (h.2 (by cases b <;> cases want <;> simp_all))
          exact ⟨S', ⟨_, by unfold GStep; rw [hg]; simp only [hy, Option.some.injEq, e, ↓reduceIte], h2⟩, h3⟩
      · rename_i hy
        obtain ⟨S', h2, h3⟩ := fOpsW_true r _ h
        exact ⟨S', ⟨_, by unfold GStep; rw [hg]; simp only [hy, reduceCtorEq, ↓reduceIte], h2⟩, h3⟩
      · exact h.elim

def FRegW (P : Program) (cx : Cx) (ops : Array Oper) (K : AState → Prop) (S : AState) : Prop := match preF P cx.base ops.toList S.box with
  | some b => FOpsW P cx ops ops.toList K ⟨S.tmps, b, S.tok, S.nt⟩
  | none => False

theorem AL.region3 {cx : Cx} {nt0 : Nat} {K : Exit → AState → Prop} {r : List CI} {S : AState} {id : Nat} {ops : Array Oper} (hf : P.follows .mixedOrders = true) (hnb : cx.base + cx.n ≤ cx.nb) (hok : (allocOk ops && dstOk cx.n ops && regOk3 ops) = true) (hside : Side ops S) (L : List (Operand × Operand)) (hL : unPairs ops = L)
    (h : FRegW P cx ops (fun S' => FarP S' L ∧ AL P cx nt0 K r S') S) : AL P cx nt0 K (.c (.region id ops true) :: r) S := by
  simp only [AL]
  simp only [Bool.and_eq_true] at hok
  obtain ⟨⟨hal, hdst⟩, hreg⟩ := hok
  intro G0 w0 he hn G a w hr hl
  have hd := dstOk_spec hdst
  have hpre : PreB P cx.base ops.toList S.box fun b => ∃ S', ARun P true cx.base ops ops.toList { S with box := b } S' ∧ FarP S' L ∧ AL P cx nt0 K r S' := by
    unfold FRegW at h
    split at h
    · rename_i b hb
      exact preF_sound _ _ b hb (fOpsW_true _ _ h)
    · exact h.elim
  obtain ⟨b, hb, hr1, hp, hkeep⟩ := preB_sound hnb ops.toList S.box (S := S) hr (fun o ho d hod => hd o d (by simpa using ho) hod) (allocOk_nodup hal) hpre
  have hl1 : LeC cx G0 w0 G w { S with box := b } := ⟨hl.1, fun k hk hg => by
    rw [← hl.2 k hk hg]
    refine hkeep k fun hm => ?_
    obtain ⟨o, ho, he⟩ := List.mem_filterMap.1 hm
    split at he
    · rename_i T s h1 h2
      simp only [Option.some.injEq] at he
      subst he
      exact absurd hk (by simp)
    · cases he⟩
  obtain ⟨S', hrun, hfar, hK⟩ := hb
  refine wp_region_any hf ?_
  have hrd : RelS cx.n cx.nb G { S with box := b } a w.drew := hr1.drew
  have hld : LeC cx G0 w0 G w.drew { S with box := b } := hl1.step ⟨Le.drew, fun k _ hg => ⟨hg, rfl⟩⟩
  refine any_sound3 (n := cx.n) (nb := cx.nb) (base := cx.base) (Sf := S') (G0 := G) (w0 := w.drew) (b0 := b) hreg hal hdst hnb (by rw [hL]; exact hfar) (fun a' w' G' h1 h2 => ⟨S', G', hK, h1, hld.step h2⟩) ops.size (Array.replicate ops.size false) (List.range ops.size) { S with box := b } a w.drew G rfl hside (by simp) ?_ (by simp) ?_ (IRun.of_all hrun) hrd ?_ (LeK.refl _ _ _ _)
  · rw [List.filter_eq_self.2]
    intro i hi
    simp at hi
    simp [Array.getD, hi]
  · intro i o ho hlst
    have hi := (Array.getElem?_eq_some_iff.1 ho).1
    simp [Array.getD, hi] at hlst
  · intro i _ o ho
    exact hp o (by simpa using Array.mem_of_getElem? ho)

theorem StopW.of_w {o : Oper} {fid : FuncId} {args : List AV} {S : AState} {K : AState → Prop} {v : AV} {tok' : Nat → Bool} {nt' : Nat} {x : Operand} {k i off : Nat} {rows : List (List AV)} (hx : callPtr o.op = some x) (hp : S.ev x = .ptr k i off) (hb : S.box k ≠ none)
    (h : WCall P fid args k S.box S.tok S.nt v rows tok' nt') (hk : K ⟨putT S.tmps o.dst v, upd S.box k (some rows), tok', nt'⟩) : StopW P o fid args S K := .inr ⟨x, k, i, off, rows, v, tok', nt', hx, hp, hb, h, hk⟩

attribute [simp] FRegW FOneW callFn FarP
@[simp] theorem FOpsW_nil {cx : Cx} {ops : Array Oper} {K : AState → Prop} {t : Nat → AV} {b : Nat → Option (List (List AV))} {k : Nat → Bool} {n : Nat} : FOpsW P cx ops [] K ⟨t, b, k, n⟩ = K ⟨t, b, k, n⟩ := by simp only [FOpsW]
@[simp] theorem FOpsW_cons {cx : Cx} {ops : Array Oper} {o : Oper} {r : List Oper} {K : AState → Prop} {t : Nat → AV} {b : Nat → Option (List (List AV))} {k : Nat → Bool} {n : Nat} : FOpsW P cx ops (o :: r) K ⟨t, b, k, n⟩ = match o.guard with
    | none => FOneW P cx o (FOpsW P cx ops r K) ⟨t, b, k, n⟩
    | some (j, want) => match yieldA ops ⟨t, b, k, n⟩ j with
      | some (some g) => Gd g want (FOneW P cx o (FOpsW P cx ops r K)) (FSkip o.dst (FOpsW P cx ops r K)) ⟨t, b, k, n⟩
      | some none => FSkip o.dst (FOpsW P cx ops r K) ⟨t, b, k, n⟩
      | none => False := by
  simp only [FOpsW]
end Go.AM
/-
  shift.shifter.shift.
-/
namespace Go.AM
open Go Go.Proofs
set_option linter.unusedSimpArgs false
set_option linter.unusedVariables false

def QSh (r : Cd × St2) (ks : Nat) (box : Nat → Option (List (List AV))) (nb : Nat) (tok : Nat → Bool) (nt : Nat) (v : AV) (m : AMem) : Prop :=
  v = r.1.av ∧ m = ⟨upd box ks (some [[I r.2.1, I r.2.2]]), nb, tok, nt⟩

theorem shF_len (b : Gr) (m : Mo) : ∀ (l : List Cd) (st : St2), (seqL (shF b m) l st).1.length = l.length
  | [], st => rfl
  | x :: r, st => by
    simp only [seqL, shF, List.length_append, List.length_cons, List.length_nil, shF_len b m r]
    omega

theorem outS {a b : Int} {box : Nat → Option (List (List AV))} {k base : Nat} {p q : Nat → Prop} : ∀ k' rows, k' < base → (upd box k (some [[I a, I b]])) k' = some rows → box k' = some rows ∨ ∀ r ∈ rows, ∀ x ∈ r, OkIn p q x := by
  intro k' rows hk' hr
  by_cases e : k' = k
  · subst e
    rw [upd_same] at hr
    cases hr
    exact .inr (by simp)
  · rw [upd_other _ _ e] at hr
    exact .inl hr

abbrev nilS : AV := .osl 0 [] .full
abbrev z0i : AV := .d (.raw (.int .i64 0))
def stSk (c : Cd) (b : Gr) (m : Mo) (u : St2) (ks nb : Nat) (box : Nat → Option (List (List AV))) (x : Acc) : AState :=
  ⟨tl [(45, .d (conds c.kids)), (46, I c.kids.length), (47, I x.i), (9, .ptr (nb + 9) 0 0), (0, .ptr ks 0 0), (5, .ptr (nb + 5) 0 0), (6, .ptr (nb + 6) 0 0), (8, .ptr (nb + 8) 0 0)],
    lb nb (upd box ks (some [[I (seqL (shF b m) (c.kids.take x.i) u).2.1, I (seqL (shF b m) (c.kids.take x.i) u).2.2]]))
      [(9, [[I c.kind, .osl 9 ((seqL (shF b m) (c.kids.take x.i) u).1.map Cd.cells) x.own, nilS, nilS, nilS, nilS, nilS, z0i, nilS]]), (5, [b.cells2]), (6, [m.cells2]), (8, [[z0i, nilS, nilS, nilS, nilS, nilS, nilS, z0i, nilS]])], x.tok, x.nt⟩

theorem ovF_yes {m mm : Mo} {H : Gr → Mo → St2 → Cd × St2} {o : Ov} {st : St2} (h : agrO m mm o = true) : ovF m mm H o st = ([exOf o (H o.g o.r (inc st.1, st.2)).1], (H o.g o.r (inc st.1, st.2)).2) := if_pos h
theorem ovF_no {m mm : Mo} {H : Gr → Mo → St2 → Cd × St2} {o : Ov} {st : St2} (h : ¬ agrO m mm o = true) : ovF m mm H o st = ([], st) := if_neg h
theorem Cd.shfH_get {l : List Cd} (h : 0 < l.length) (b : Gr) (m : Mo) (st : St2) : Cd.shfH l b m st = Cd.shf l[0] b m st := by
  match l, h with
  | x :: r, _ => simp [Cd.shfH]
def stSo (H : Gr → Mo → St2 → Cd × St2) (c : Cd) (b : Gr) (m : Mo) (u : St2) (ks nb : Nat) (box : Nat → Option (List (List AV))) (L : List Ov) (x : Acc) : AState :=
  ⟨tl [(81, I x.i), (80, I L.length), (79, .d (ovs L)), (9, .ptr (nb + 9) 0 0), (0, .ptr ks 0 0), (5, .ptr (nb + 5) 0 0), (6, .ptr (nb + 6) 0 0), (7, .ptr (nb + 7) 0 0), (8, .ptr (nb + 8) 0 0)],
    lb nb (upd box ks (some [[I (seqL (ovF m c.m H) (L.take x.i) u).2.1, I (seqL (ovF m c.m H) (L.take x.i) u).2.2]]))
      [(9, [[I 4, .osl 9 ((seqL (ovF m c.m H) (L.take x.i) u).1.map Cd.cells) x.own, nilS, nilS, nilS, nilS, nilS, z0i, nilS]]), (5, [b.cells2]), (6, [m.cells2]), (7, [c.row]), (8, [[z0i, nilS, nilS, nilS, nilS, nilS, nilS, z0i, nilS]])], x.tok, x.nt⟩
theorem ovs_ok {b p : Gr} {q : List Ov × Int} (hb : b.Fit) (hbv : validG b = 0) (hp : p.Fit) (h : overlapsR b p = q) : (∀ o ∈ q.1, OvOk b p o) ∧ ∀ o ∈ q.1, o.Fit := by
  subst h
  refine ⟨fun o ho => overlapsR_ok ho, fun o ho => ?_⟩
  have hk := overlapsR_ok ho
  have hvp : validG p = 0 := (validM_VM hk.r).va
  have h1 := (validG_types hbv).1
  have h2 := (validG_types hvp).1
  exact (overlapsR_fit b p ⟨by omega, by omega⟩ ⟨by omega, by omega⟩).2 o ho
theorem ovs_few {b p : Gr} {q : List Ov × Int} (hbv : validG b = 0) (h : overlapsR b p = q) : q.1.length ≤ 1000000 := by
  subst h
  by_cases hp : validG p = 0
  · have h1 := (validG_types hbv).1
    have h2 := (validG_types hp).1
    exact (overlapsR_fit b p ⟨by omega, by omega⟩ ⟨by omega, by omega⟩).1
  · simp [overlapsR, hbv, hp]
theorem ovF_len (m mm : Mo) (H : Gr → Mo → St2 → Cd × St2) : ∀ (l : List Ov) (st : St2), (seqL (ovF m mm H) l st).1.length ≤ l.length
  | [], st => by simp [seqL]
  | o :: r, st => by
    have h1 : (ovF m mm H o st).1.length ≤ 1 := by unfold ovF; split <;> simp
    have h2 := ovF_len m mm H r (ovF m mm H o st).2
    simp only [seqL, List.length_append, List.length_cons]
    omega

set_option maxRecDepth 100000 in
theorem shift62_c : ∀ (n : Nat) (c : Cd), SizeOf.sizeOf c < n → c.Fit → ∀ a, c.ovr a = 0 → ∀ b : Gr, b.Fit → validG b = 0 → ∀ m : Mo, Inn m a b → ∀ (st : St2) (ks : Nat) (box : Nat → Option (List (List AV))), box ks = some [[I st.1, I st.2]] → ∀ (nb : Nat) (tok : Nat → Bool) (nt : Nat),
   ACalls Tryz.prog 56 [.ptr ks 0 0, b.av, m.av, c.av] ⟨box, nb, tok, nt⟩ (QSh (c.shf b m st) ks box nb tok nt)
  | 0, c, hn, _, _, _, _, _, _, _, _, _, _, _, _, _, tok, nt => absurd hn (Nat.not_lt_zero _)
  | n + 1, c, hn, hc, a, hv, b, hbf, hbv, m, hm, st, ks, box, hk, nb, tok, nt => by
    have ih := fun x (hx : x ∈ c.kids) => shift62_c n x (by have := Cd.kid_lt hx; omega) (hc.kid x hx) (c.inn a) ((Cd.ovr_zero hv).2.2 x hx)
    obtain ⟨hs0, hst, _⟩ := Cd.ovr_zero hv
    have hkb := hc.kids
    have hR := c.shf_eq b m st
    refine ACalls.of_body Tryz.func56 rfl (by kernel_rfl) follows_Tryz (by kernel_rfl) (by simp [Tryz.ntmps56]) ?_
    intro hbox htok
    simp only at hbox htok
    apply AL.start
    have kn := key_lt hbox hk
    have hw : IntKind.i64.wrap (st.1 + 1) = inc st.1 := rfl
    try (simp [lb_out kn, hk, upd_lb_out kn, upd_same, hw])
    repeat ((repeat (first | refine AL.seq ?_ | refine AL.block ?_ | refine AL.skip ?_ | refine AL.blk ?_)); (refine AL.region follows_Tryz (Nat.le_refl _) (by kernel_rfl) ?_); simp [lb_out kn, hk, upd_lb_out kn, upd_same, hw])
    have ht0 := TK.start htok
    obtain ⟨u, hu⟩ : ∃ u, st1 st = u := ⟨_, rfl⟩
    have hu1 : u.1 = inc st.1 := by rw [← hu]; rfl
    have hu2 : u.2 = if 2000 < inc st.1 then 3 else st.2 := by rw [← hu]; rfl
    refine AL.mid ⟨tl [(0, .ptr ks 0 0), (5, .ptr (nb + 5) 0 0), (6, .ptr (nb + 6) 0 0), (7, .ptr (nb + 7) 0 0), (8, .ptr (nb + 8) 0 0)],
      lb nb (upd box ks (some [[I u.1, I u.2]])) [(5, [b.cells2]), (6, [m.cells2]), (7, [c.row]), (8, [[.d (.raw (.int .i64 0)), .osl 0 [] .full, .osl 0 [] .full, .osl 0 [] .full, .osl 0 [] .full, .osl 0 [] .full, .osl 0 [] .full, .d (.raw (.int .i64 0)), .osl 0 [] .full]])], tok, nt⟩ ?_ ?_
    · by_cases h1 : 2000 < inc st.1
      · rw [if_pos h1] at hu2
        have d1 : decide (2000 < inc st.1) = true := decide_eq_true h1
        simp only [d1]
        repeat (first | refine AL.seq ?_ | refine AL.block ?_ | refine AL.skip ?_ | refine AL.blk ?_)
        refine AL.cond ?_
        simp
        try (simp [lb_out kn, upd_lb_out kn, upd_same, upd_upd])
        repeat ((repeat (first | refine AL.seq ?_ | refine AL.block ?_ | refine AL.skip ?_ | refine AL.blk ?_)); (refine AL.region follows_Tryz (Nat.le_refl _) (by kernel_rfl) ?_); simp [lb_out kn, upd_lb_out kn, upd_same, upd_upd])
        repeat (first | refine AL.seq ?_ | refine AL.block ?_ | refine AL.skip ?_ | refine AL.blk ?_)
        refine AL.nil ?_
        simp only [hu1, hu2]
        exact Weaks.mk' (Nat.le_refl _) (by simp [ToL, lk]; exact to_ptr (by rw [lb_out kn, upd_same]; simp)) (by simp [BoxL, lk]) outS
      · rw [if_neg h1] at hu2
        have d1 : decide (2000 < inc st.1) = false := decide_eq_false h1
        simp only [d1]
        repeat (first | refine AL.seq ?_ | refine AL.block ?_ | refine AL.skip ?_ | refine AL.blk ?_)
        refine AL.cond ?_
        simp
        repeat (first | refine AL.seq ?_ | refine AL.block ?_ | refine AL.skip ?_ | refine AL.blk ?_)
        refine AL.nil ?_
        simp only [hu1, hu2]
        exact Weaks.mk' (Nat.le_refl _) (by simp [ToL, lk]; exact to_ptr (by rw [lb_out kn, upd_same]; simp)) (by simp [BoxL, lk]) outS
    · rw [shStep, hu] at hR
      by_cases h2 : u.2 = 0
      · rw [if_neg (by simp [h2])] at hR
        have b2n : (u.2 != 0) = false := by simp [h2]
        try (simp [lb_out kn, upd_lb_out kn, upd_same, upd_upd, b2n])
        repeat ((repeat (first | refine AL.seq ?_ | refine AL.block ?_ | refine AL.skip ?_ | refine AL.blk ?_)); (refine AL.region follows_Tryz (Nat.le_refl _) (by kernel_rfl) ?_); simp [lb_out kn, upd_lb_out kn, upd_same, upd_upd, b2n])
        repeat (first | refine AL.seq ?_ | refine AL.block ?_ | refine AL.skip ?_ | refine AL.blk ?_)
        refine AL.cond ?_
        simp
        try (simp [lb_out kn, upd_lb_out kn, upd_same, upd_upd, b2n])
        repeat ((repeat (first | refine AL.seq ?_ | refine AL.block ?_ | refine AL.skip ?_ | refine AL.blk ?_)); (refine AL.region follows_Tryz (Nat.le_refl _) (by kernel_rfl) ?_); simp [lb_out kn, upd_lb_out kn, upd_same, upd_upd, b2n])
        by_cases k5 : c.kind = 5
        · have b5 : (c.kind != 5) = false := by simp [k5]
          rw [if_neg (by simp [k5])] at hR
          obtain ⟨H, hH⟩ : ∃ H, (fun (b : Gr) (m : Mo) (st : St2) => Cd.shfH c.kids b m st) = H := ⟨_, rfl⟩
          rw [hH] at hR
          simp only [b5]
          repeat (first | refine AL.seq ?_ | refine AL.block ?_ | refine AL.skip ?_ | refine AL.blk ?_)
          refine AL.cond ?_
          simp
          have hso := overlapsF_c b c.g hbf hc.g tok nt
          obtain ⟨ov, hov⟩ : ∃ q, overlapsR b c.g = q := ⟨_, rfl⟩
          rw [hov] at hR hso
          try (simp [lb_out kn, upd_lb_out kn, upd_same, upd_upd])
          repeat ((repeat (first | refine AL.seq ?_ | refine AL.block ?_ | refine AL.skip ?_ | refine AL.blk ?_)); (refine AL.region follows_Tryz (Nat.le_refl _) (by kernel_rfl) ?_); simp [lb_out kn, upd_lb_out kn, upd_same, upd_upd])
          refine Stop.of_d (hso) ?_
          simp
          try (simp)
          repeat ((repeat (first | refine AL.seq ?_ | refine AL.block ?_ | refine AL.skip ?_ | refine AL.blk ?_)); (refine AL.region follows_Tryz (Nat.le_refl _) (by kernel_rfl) ?_); simp)
          by_cases he : ov.2 = 0
          · rw [if_neg (by simp [he])] at hR
            have be : (ov.2 != 0) = false := by simp [he]
            simp only [be]
            repeat (first | refine AL.seq ?_ | refine AL.block ?_ | refine AL.skip ?_ | refine AL.blk ?_)
            refine AL.cond ?_
            simp
            try (simp [lb_out kn, upd_lb_out kn, upd_same, upd_upd])
            repeat ((repeat (first | refine AL.seq ?_ | refine AL.block ?_ | refine AL.skip ?_ | refine AL.blk ?_)); (refine AL.region follows_Tryz (Nat.le_refl _) (by kernel_rfl) ?_); simp [lb_out kn, upd_lb_out kn, upd_same, upd_upd])
            repeat (first | refine AL.seq ?_ | refine AL.block ?_ | refine AL.skip ?_ | refine AL.blk ?_)
            have hcm : Inn c.m a c.g := Inn.of (by
              have h5 := hst
              rw [ovrStep, if_pos k5] at h5
              split at h5
              · contradiction
              · rename_i h6; exact Decidable.not_not.1 h6)
            have hva : a.nodes.length ≤ 1000000 ∧ a.edges.length ≤ 1000000 := by
              have h5 := hst
              rw [ovrStep, if_pos k5] at h5
              split at h5
              · contradiction
              · rename_i h6
                have := (validG_types (validM_VM (Decidable.not_not.1 h6)).va).1
                omega
            obtain ⟨hok, hfit⟩ := ovs_ok hbf hbv hc.g hov
            have hfew := ovs_few hbv hov
            refine AL.loopT (stSo H c b m u ks nb box ov.1) (fun x => x.i ≤ ov.1.length ∧ TK tok nt x.tok x.nt [x.own]) (fun x => ov.1.length - x.i) ⟨0, .full, tok, nt⟩ ⟨Nat.zero_le _, ht0.full⟩
              (Weaks.mk' (Nat.le_refl _) (by simp [ToL, lk]; exact to_ptr (by rw [lb_out kn, upd_same]; simp)) (by simp [BoxL, lk, seqL]) outS) ?_
            rintro ⟨i, own, tok1, nt1⟩ S ⟨hi, htk⟩ hS
            simp only [stSo] at hS hi htk
            subst hS
            have hw1 : IntKind.i64.wrap (↑i + 1) = ((i + 1 : Nat) : Int) := by rw [wrap_in (by omega) (by omega)]; rfl
            try (simp)
            repeat ((repeat (first | refine AL.seq ?_ | refine AL.block ?_ | refine AL.skip ?_ | refine AL.blk ?_)); (refine AL.region follows_Tryz (Nat.le_refl _) (by kernel_rfl) ?_); simp)
            repeat (first | refine AL.seq ?_ | refine AL.block ?_ | refine AL.skip ?_ | refine AL.blk ?_)
            refine AL.cond ?_
            simp
            refine ⟨fun hlt => ?_, fun hge => ?_⟩
            · have hS := seqL_take (ovF m c.m H) ov.1 u hlt
              have hoo := hok _ (List.getElem_mem hlt)
              have hof := hfit _ (List.getElem_mem hlt)
              repeat (first | refine AL.seq ?_ | refine AL.block ?_ | refine AL.skip ?_ | refine AL.blk ?_)
              refine AL.region follows_Tryz (Nat.le_refl _) (by kernel_rfl) ?_
              simp [hlt]
              generalize ov.1[i] = o at *
              have vl := validM_VM hoo.l
              have vr := validM_VM hoo.r
              have ag1 := agree_c m.nodes o.l.nodes c.m.nodes o.r.nodes (by rw [hm.ln]; exact hva.1) (fun x hx => by rw [vl.ln]; exact hm.n x hx) (by rw [hm.ln, hcm.ln]; exact Nat.le_refl _) (fun x hx => by rw [vr.ln]; exact hcm.n x hx)
              have ag2 := agree_c m.edges o.l.edges c.m.edges o.r.edges (by rw [hm.le]; exact hva.2) (fun x hx => by rw [vl.le]; exact hm.e x hx) (by rw [hm.le, hcm.le]; exact Nat.le_refl _) (fun x hx => by rw [vr.le]; exact hcm.e x hx)
              try (simp)
              repeat ((repeat (first | refine AL.seq ?_ | refine AL.block ?_ | refine AL.skip ?_ | refine AL.blk ?_)); (refine AL.region follows_Tryz (Nat.le_refl _) (by kernel_rfl) ?_); simp)
              refine Stop.of_d (ag1 _ _) ?_
              simp
              cases g1 : agrK m.nodes o.l.nodes c.m.nodes o.r.nodes m.nodes.length
              · try (simp)
                repeat ((repeat (first | refine AL.seq ?_ | refine AL.block ?_ | refine AL.skip ?_ | refine AL.blk ?_)); (refine AL.region follows_Tryz (Nat.le_refl _) (by kernel_rfl) ?_); simp)
                repeat (first | refine AL.seq ?_ | refine AL.block ?_ | refine AL.skip ?_ | refine AL.blk ?_)
                refine AL.cond ?_
                simp
                repeat (first | refine AL.seq ?_ | refine AL.block ?_ | refine AL.skip ?_ | refine AL.blk ?_)
                refine AL.exit ?_
                simp only [AU, ↓reduceIte]
                try (simp [hw1])
                repeat ((repeat (first | refine AL.seq ?_ | refine AL.block ?_ | refine AL.skip ?_ | refine AL.blk ?_)); (refine AL.region follows_Tryz (Nat.le_refl _) (by kernel_rfl) ?_); simp [hw1])
                repeat (first | refine AL.seq ?_ | refine AL.block ?_ | refine AL.skip ?_ | refine AL.blk ?_)
                refine AL.nil ?_
                rw [ovF_no (by simp [agrO, g1])] at hS
                refine ⟨⟨i + 1, own, tok1, nt1⟩, ⟨hlt, htk⟩, by simp only; omega, ?_⟩
                simp only [stSo, hS]
                refine Weaks.mk' htk.le ?_ ?_ outS
                · simp [ToL, lk]
                  exact to_ptr (by rw [lb_out kn, upd_same]; simp)
                · simp [BoxL, lk]
              · try (simp)
                repeat ((repeat (first | refine AL.seq ?_ | refine AL.block ?_ | refine AL.skip ?_ | refine AL.blk ?_)); (refine AL.region follows_Tryz (Nat.le_refl _) (by kernel_rfl) ?_); simp)
                refine Stop.of_d (ag2 _ _) ?_
                simp
                cases g2 : agrK m.edges o.l.edges c.m.edges o.r.edges m.edges.length
                · try (simp)
                  repeat ((repeat (first | refine AL.seq ?_ | refine AL.block ?_ | refine AL.skip ?_ | refine AL.blk ?_)); (refine AL.region follows_Tryz (Nat.le_refl _) (by kernel_rfl) ?_); simp)
                  repeat (first | refine AL.seq ?_ | refine AL.block ?_ | refine AL.skip ?_ | refine AL.blk ?_)
                  refine AL.cond ?_
                  simp
                  repeat (first | refine AL.seq ?_ | refine AL.block ?_ | refine AL.skip ?_ | refine AL.blk ?_)
                  refine AL.exit ?_
                  simp only [AU, ↓reduceIte]
                  try (simp [hw1])
                  repeat ((repeat (first | refine AL.seq ?_ | refine AL.block ?_ | refine AL.skip ?_ | refine AL.blk ?_)); (refine AL.region follows_Tryz (Nat.le_refl _) (by kernel_rfl) ?_); simp [hw1])
                  repeat (first | refine AL.seq ?_ | refine AL.block ?_ | refine AL.skip ?_ | refine AL.blk ?_)
                  refine AL.nil ?_
                  rw [ovF_no (by simp [agrO, g1, g2])] at hS
                  refine ⟨⟨i + 1, own, tok1, nt1⟩, ⟨hlt, htk⟩, by simp only; omega, ?_⟩
                  simp only [stSo, hS]
                  refine Weaks.mk' htk.le ?_ ?_ outS
                  · simp [ToL, lk]
                    exact to_ptr (by rw [lb_out kn, upd_same]; simp)
                  · simp [BoxL, lk]
                · try (simp)
                  repeat ((repeat (first | refine AL.seq ?_ | refine AL.block ?_ | refine AL.skip ?_ | refine AL.blk ?_)); (refine AL.region follows_Tryz (Nat.le_refl _) (by kernel_rfl) ?_); simp)
                  have h0lt : 0 < c.kids.length := shape_one hs0 (.inr k5)
                  have hii : c.inn a = c.g := if_pos k5
                  rw [hii] at ih
                  rw [ovF_yes (by simp [agrO, g1, g2])] at hS
                  generalize hst0 : (seqL (ovF m c.m H) (ov.1.take i) u).2 = s0 at *
                  have hwi : IntKind.i64.wrap (s0.1 + 1) = inc s0.1 := rfl
                  have ihx := ih _ (List.getElem_mem h0lt) o.g hof.g vl.vb o.r (Inn.of hoo.r) (inc s0.1, s0.2) ks
                  rw [← Cd.shfH_get h0lt, show ∀ b m st, Cd.shfH c.kids b m st = H b m st from fun b m st => by rw [← hH]] at ihx
                  repeat (first | refine AL.seq ?_ | refine AL.block ?_ | refine AL.skip ?_ | refine AL.blk ?_)
                  refine AL.cond ?_
                  simp
                  repeat (first | refine AL.seq ?_ | refine AL.block ?_ | refine AL.skip ?_ | refine AL.blk ?_)
                  refine AL.region follows_Tryz (Nat.le_refl _) (by kernel_rfl) ?_
                  simp [lb_out kn, upd_lb_out kn, upd_same, upd_upd]
                  repeat (first | refine AL.seq ?_ | refine AL.block ?_ | refine AL.skip ?_ | refine AL.blk ?_)
                  refine AL.region3 follows_Tryz (Nat.le_refl _) (by kernel_rfl) (Side.of (by simp)) [] (by kernel_rfl) ?_
                  simp [lb_out kn, upd_lb_out kn, upd_same, upd_upd, h0lt, Cd.cells_eq, hwi]
                  refine StopW.of_w rfl rfl (by simp only; rw [lb_out kn, upd_same]; simp) (fun box' nb' hb' => (ihx box' (by rw [hb']; simp only; rw [lb_out kn, upd_same]) nb' tok1 nt1).mono fun v m1 hq => ⟨hq.1, hq.2⟩) ?_
                  simp [lb_out kn, upd_lb_out kn, upd_same, upd_upd]
                  try (simp [lb_out kn, upd_lb_out kn, upd_same, upd_upd])
                  repeat ((repeat (first | refine AL.seq ?_ | refine AL.block ?_ | refine AL.skip ?_ | refine AL.blk ?_)); (refine AL.region follows_Tryz (Nat.le_refl _) (by kernel_rfl) ?_); simp [lb_out kn, upd_lb_out kn, upd_same, upd_upd])
                  refine ⟨⟨?_, htk.live⟩, ?_⟩
                  · have := ovF_len m c.m H (ov.1.take i) u
                    rw [List.length_take] at this
                    omega
                  try (simp [hw1])
                  repeat ((repeat (first | refine AL.seq ?_ | refine AL.block ?_ | refine AL.skip ?_ | refine AL.blk ?_)); (refine AL.region follows_Tryz (Nat.le_refl _) (by kernel_rfl) ?_); simp [hw1])
                  repeat (first | refine AL.seq ?_ | refine AL.block ?_ | refine AL.skip ?_ | refine AL.blk ?_)
                  refine AL.nil ?_
                  refine ⟨⟨i + 1, .tok nt1, upd (own.kill tok1) nt1 true, nt1 + 1⟩, ⟨hlt, htk.app⟩, by simp only; omega, ?_⟩
                  simp only [stSo, hS]
                  refine Weaks.mk' (by have := htk.le; omega) ?_ ?_ outS
                  · simp [ToL, lk]
                    exact to_ptr (by rw [lb_out kn, upd_same]; simp)
                  · simp [BoxL, lk]
                    refine to_snoc ?_ _
                    simp [exOf, Cd.cells_eq, Cd.kind, Cd.kids, Cd.m, Cd.g, Cd.sl, Cd.vars, Cd.te, slots, tests]
            · repeat (first | refine AL.seq ?_ | refine AL.block ?_ | refine AL.skip ?_ | refine AL.blk ?_)
              refine AL.exit ?_
              simp only [AU, ↓reduceIte]
              have : i = ov.1.length := by omega
              subst this
              try (simp)
              repeat ((repeat (first | refine AL.seq ?_ | refine AL.block ?_ | refine AL.skip ?_ | refine AL.blk ?_)); (refine AL.region follows_Tryz (Nat.le_refl _) (by kernel_rfl) ?_); simp)
              repeat (first | refine AL.seq ?_ | refine AL.block ?_ | refine AL.skip ?_ | refine AL.blk ?_)
              refine AL.ret ?_
              try simp only [AU]
              refine ⟨by simp, (Fin.gen (av := (cdOf 4 (seqL (ovF m c.m H) ov.1 u).1).av) (tok' := tok) (nt' := nt) (by simp [resAs, resA, lk]; rfl) (by rw [← upd_lb_out kn, hbox]) (Nat.le_refl _) htk.le (fun t ht => ⟨htk.old t ht, .inr (htok t ht)⟩) outS (by simp [packA, cdOf, conds, ints, AM.edges, slots, tests, Cd.kind, Cd.kids, Cd.m, Cd.g, Cd.sl, Cd.vars, Cd.te])).mono fun v m hq => by rw [hR]; exact hq⟩
          · rw [if_pos (by simp [he])] at hR
            have be : (ov.2 != 0) = true := by simp [he]
            simp only [be]
            repeat (first | refine AL.seq ?_ | refine AL.block ?_ | refine AL.skip ?_ | refine AL.blk ?_)
            refine AL.cond ?_
            simp
            try (simp [lb_out kn, upd_lb_out kn, upd_same, upd_upd])
            repeat ((repeat (first | refine AL.seq ?_ | refine AL.block ?_ | refine AL.skip ?_ | refine AL.blk ?_)); (refine AL.region follows_Tryz (Nat.le_refl _) (by kernel_rfl) ?_); simp [lb_out kn, upd_lb_out kn, upd_same, upd_upd])
            repeat (first | refine AL.seq ?_ | refine AL.block ?_ | refine AL.skip ?_ | refine AL.blk ?_)
            refine AL.ret ?_
            try simp only [AU]
            refine ⟨by simp, (Fin.gen (av := (cdOf 4 []).av) (tok' := tok) (nt' := nt) (by simp [resAs, resA, lk]; rfl) (by rw [← upd_lb_out kn, hbox]) (Nat.le_refl _) (Nat.le_refl _) (fun t ht => ⟨ht, .inl rfl⟩) outS (by simp [packA, cdOf, conds, ints, AM.edges, slots, tests, Cd.kind, Cd.kids, Cd.m, Cd.g, Cd.sl, Cd.vars, Cd.te])).mono fun v m hq => by rw [hR]; exact hq⟩
        · have b5 : (c.kind != 5) = true := by simp [k5]
          rw [if_pos k5] at hR
          simp only [b5]
          repeat (first | refine AL.seq ?_ | refine AL.block ?_ | refine AL.skip ?_ | refine AL.blk ?_)
          refine AL.cond ?_
          simp
          try (simp [lb_out kn, upd_lb_out kn, upd_same, upd_upd])
          repeat ((repeat (first | refine AL.seq ?_ | refine AL.block ?_ | refine AL.skip ?_ | refine AL.blk ?_)); (refine AL.region follows_Tryz (Nat.le_refl _) (by kernel_rfl) ?_); simp [lb_out kn, upd_lb_out kn, upd_same, upd_upd])
          repeat (first | refine AL.seq ?_ | refine AL.block ?_ | refine AL.skip ?_ | refine AL.blk ?_)
          rw [kidN_eq] at hkb
          refine AL.loopT (stSk c b m u ks nb box) (fun x => x.i ≤ c.kids.length ∧ TK tok nt x.tok x.nt [x.own]) (fun x => c.kids.length - x.i) ⟨0, .full, tok, nt⟩ ⟨Nat.zero_le _, ht0.full⟩
            (Weaks.mk' (Nat.le_refl _) (by simp [ToL, lk]; exact to_ptr (by rw [lb_out kn, upd_same]; simp)) (by simp [BoxL, lk, seqL]) outS) ?_
          rintro ⟨i, own, tok1, nt1⟩ S ⟨hi, htk⟩ hS
          simp only [stSk] at hS hi htk
          subst hS
          have hw1 : IntKind.i64.wrap (↑i + 1) = ((i + 1 : Nat) : Int) := by rw [wrap_in (by omega) (by omega)]; rfl
          have hii : c.inn a = a := if_neg k5
          rw [hii] at ih
          try (simp)
          repeat ((repeat (first | refine AL.seq ?_ | refine AL.block ?_ | refine AL.skip ?_ | refine AL.blk ?_)); (refine AL.region follows_Tryz (Nat.le_refl _) (by kernel_rfl) ?_); simp)
          repeat (first | refine AL.seq ?_ | refine AL.block ?_ | refine AL.skip ?_ | refine AL.blk ?_)
          refine AL.cond ?_
          simp
          refine ⟨fun hlt => ?_, fun hge => ?_⟩
          · have hS := seqL_take (shF b m) c.kids u hlt
            have ihx := ih _ (List.getElem_mem hlt) b hbf hbv m hm (seqL (shF b m) (c.kids.take i) u).2 ks
            have hsh : ∀ q, shF b m c.kids[i] q = ([(c.kids[i].shf b m q).1], (c.kids[i].shf b m q).2) := fun q => rfl
            rw [hsh] at hS
            repeat (first | refine AL.seq ?_ | refine AL.block ?_ | refine AL.skip ?_ | refine AL.blk ?_)
            refine AL.region follows_Tryz (Nat.le_refl _) (by kernel_rfl) ?_
            simp [hlt, Cd.cells_eq, lb_out kn, upd_lb_out kn, upd_same]
            generalize c.kids[i] = x at *
            have hne9 : nb + 9 ≠ ks := by omega
            repeat (first | refine AL.seq ?_ | refine AL.block ?_ | refine AL.skip ?_ | refine AL.blk ?_)
            refine AL.region3 follows_Tryz (Nat.le_refl _) (by kernel_rfl) (Side.of (by simp)) [(Operand.tmp 51, Operand.tmp 53)] (by kernel_rfl) ?_
            simp [lb_out kn, upd_lb_out kn, upd_same]
            refine StopW.of_w rfl rfl (by simp only; rw [lb_out kn, upd_same]; simp) (fun box' nb' hb' => (ihx box' (by rw [hb']; simp only; rw [lb_out kn, upd_same]) nb' tok1 nt1).mono fun v m1 hq => ⟨hq.1, hq.2⟩) ?_
            simp [lb_out kn, upd_lb_out kn, upd_same, upd_upd, NK, hne9]
            refine ⟨⟨?_, htk.live⟩, ?_⟩
            · have := shF_len b m (c.kids.take i) u
              rw [List.length_take] at this
              omega
            try (simp [hw1])
            repeat ((repeat (first | refine AL.seq ?_ | refine AL.block ?_ | refine AL.skip ?_ | refine AL.blk ?_)); (refine AL.region follows_Tryz (Nat.le_refl _) (by kernel_rfl) ?_); simp [hw1])
            repeat (first | refine AL.seq ?_ | refine AL.block ?_ | refine AL.skip ?_ | refine AL.blk ?_)
            refine AL.nil ?_
            refine ⟨⟨i + 1, .tok nt1, upd (own.kill tok1) nt1 true, nt1 + 1⟩, ⟨hlt, htk.app⟩, by simp only; omega, ?_⟩
            simp only [stSk, hS]
            refine Weaks.mk' (by have := htk.le; omega) ?_ ?_ outS
            · simp [ToL, lk]
              exact to_ptr (by rw [lb_out kn, upd_same]; simp)
            · simp [BoxL, lk, hS, Cd.cells_eq]
          · repeat (first | refine AL.seq ?_ | refine AL.block ?_ | refine AL.skip ?_ | refine AL.blk ?_)
            refine AL.exit ?_
            simp only [AU, ↓reduceIte]
            have : i = c.kids.length := by omega
            subst this
            try (simp)
            repeat ((repeat (first | refine AL.seq ?_ | refine AL.block ?_ | refine AL.skip ?_ | refine AL.blk ?_)); (refine AL.region follows_Tryz (Nat.le_refl _) (by kernel_rfl) ?_); simp)
            repeat (first | refine AL.seq ?_ | refine AL.block ?_ | refine AL.skip ?_ | refine AL.blk ?_)
            refine AL.ret ?_
            try simp only [AU]
            refine ⟨by simp, (Fin.gen (av := (cdOf c.kind (seqL (shF b m) c.kids u).1).av) (tok' := tok) (nt' := nt) (by simp [resAs, resA, lk]; rfl) (by rw [← upd_lb_out kn, hbox]) (Nat.le_refl _) htk.le (fun t ht => ⟨htk.old t ht, .inr (htok t ht)⟩) outS (by simp [packA, cdOf, conds, ints, AM.edges, slots, tests, Cd.kind, Cd.kids, Cd.m, Cd.g, Cd.sl, Cd.vars, Cd.te])).mono fun v m hq => by rw [hR]; exact hq⟩
      · rw [if_pos h2] at hR
        have b2 : (u.2 != 0) = true := by simp [h2]
        try (simp [lb_out kn, upd_lb_out kn, upd_same, upd_upd, b2])
        repeat ((repeat (first | refine AL.seq ?_ | refine AL.block ?_ | refine AL.skip ?_ | refine AL.blk ?_)); (refine AL.region follows_Tryz (Nat.le_refl _) (by kernel_rfl) ?_); simp [lb_out kn, upd_lb_out kn, upd_same, upd_upd, b2])
        repeat (first | refine AL.seq ?_ | refine AL.block ?_ | refine AL.skip ?_ | refine AL.blk ?_)
        refine AL.cond ?_
        simp
        try (simp [lb_out kn, upd_lb_out kn, upd_same, upd_upd, b2])
        repeat ((repeat (first | refine AL.seq ?_ | refine AL.block ?_ | refine AL.skip ?_ | refine AL.blk ?_)); (refine AL.region follows_Tryz (Nat.le_refl _) (by kernel_rfl) ?_); simp [lb_out kn, upd_lb_out kn, upd_same, upd_upd, b2])
        repeat (first | refine AL.seq ?_ | refine AL.block ?_ | refine AL.skip ?_ | refine AL.blk ?_)
        refine AL.ret ?_
        try simp only [AU]
        refine ⟨by simp, (Fin.gen (av := (cdOf c.kind []).av) (tok' := tok) (nt' := nt) (by simp [resAs, resA, lk]; rfl) (by rw [← upd_lb_out kn, hbox]) (Nat.le_refl _) (Nat.le_refl _) (fun t ht => ⟨ht, .inl rfl⟩) outS (by simp [packA, cdOf, conds, ints, AM.edges, slots, tests, Cd.kind, Cd.kids, Cd.m, Cd.g, Cd.sl, Cd.vars, Cd.te])).mono fun v m hq => by rw [hR]; exact hq⟩
end Go.AM
namespace Go.AM
open Go Go.Proofs
set_option linter.unusedSimpArgs false
set_option linter.unusedVariables false

/-! ### Through -/
end Go.AM
namespace Go.AM
open Go Go.Proofs
set_option linter.unusedSimpArgs false
set_option linter.unusedVariables false

/-! ### ref13.Through -/
end Go.AM
/-
  The plain law of Through: the two morphisms go through the gluing along the places that they share, and what is left is injective. No program in sight.
-/
namespace Go.AM
open Go
set_option linter.unusedSimpArgs false
set_option linter.unusedVariables false

theorem indexI_cases (h : List Int) (v : Int) : (v ∉ h ∧ indexI h v = -1) ∨ ∃ j : Nat, j < h.length ∧ indexI h v = j ∧ h.getD j 0 = v := by
  unfold indexI
  by_cases hv : v ∈ h
  · right
    rw [if_pos hv]
    have hj : h.idxOf v < h.length := List.idxOf_lt_length_iff.2 hv
    exact ⟨h.idxOf v, hj, rfl, by rw [List.getD_eq_getElem?_getD, List.getElem?_eq_getElem hj]; simp⟩
  · left
    rw [if_neg hv]
    exact ⟨hv, rfl⟩
theorem getD_inj {h : List Int} (hn : h.Nodup) {i j : Nat} (hi : i < h.length) (hj : j < h.length) (e : h.getD i 0 = h.getD j 0) : i = j := by
  rw [List.getD_eq_getElem?_getD, List.getD_eq_getElem?_getD, List.getElem?_eq_getElem hi, List.getElem?_eq_getElem hj] at e
  rcases Nat.lt_trichotomy i j with h1 | h1 | h1
  · exact absurd e (List.pairwise_iff_getElem.1 hn i j hi hj h1)
  · exact h1
  · exact absurd e.symm (List.pairwise_iff_getElem.1 hn j i hj hi h1)
theorem indexI_at {h : List Int} (hn : h.Nodup) {j : Nat} (hj : j < h.length) : indexI h (h.getD j 0) = j := by
  rcases indexI_cases h (h.getD j 0) with ⟨h1, _⟩ | ⟨q, q1, q2, q3⟩
  · exact absurd (getD_mem hj) h1
  · rw [q2, getD_inj hn q1 hj q3]
theorem injM_iff (a b : Gr) (m : Mo) : injM a b m = true ↔ validM a b m = 0 ∧ m.nodes.Nodup ∧ m.edges.Nodup := by
  simp only [injM, Bool.and_eq_true, decide_eq_true_eq, distK_nodup]

theorem validM_of {a b : Gr} {m : Mo} (h : VM a b m) : validM a b m = 0 := by
  have z1 : firstE (nodeE a b m) a.nodes.length = 0 := firstE_zero _ fun i hi => by
    have := h.n _ (getD_mem (d := 0) (show i < m.nodes.length by rw [h.ln]; exact hi))
    unfold nodeE
    rw [if_neg (by omega), if_pos (h.nt i hi)]
  have z2 : firstE (edgeE a b m) a.edges.length = 0 := firstE_zero _ fun i hi => by
    have := h.e _ (getD_mem (d := 0) (show i < m.edges.length by rw [h.le]; exact hi))
    unfold edgeE
    rw [if_neg (by omega)]
    simp only [h.et i hi, ne_eq, not_true_eq_false, or_self, ↓reduceIte]
  unfold validM
  rw [if_neg (by simp [h.va]), if_neg (by simp [h.vb]), if_neg (by have := h.ln; have := h.le; omega), if_neg (by simp [z1]), z2]

theorem byK_ext {l by' t : List Int} (hl : l.length = t.length) (h : ∀ i, i < l.length → by'.getD (l.getD i 0).toNat 0 = t.getD i 0) : byK l by' l.length = t := by
  apply List.ext_getElem
  · simp [hl]
  · intro i h1 h2
    have hi : i < l.length := by omega
    have := h i hi
    simp only [List.getD_eq_getElem?_getD, List.getElem?_eq_getElem hi, List.getElem?_eq_getElem h2, Option.getD_some] at this
    simp only [byK, List.take_length, List.getElem_map, List.getD_eq_getElem?_getD]
    exact this

theorem mem_getD {l : List Int} {v : Int} (h : v ∈ l) : ∃ j, j < l.length ∧ l.getD j 0 = v := by
  obtain ⟨j, hj, e⟩ := List.getElem_of_mem h
  exact ⟨j, hj, by rw [List.getD_eq_getElem?_getD, List.getElem?_eq_getElem hj]; exact e⟩

end Go.AM
namespace Go.AM
open Go Go.Proofs
set_option linter.unusedSimpArgs false
set_option linter.unusedVariables false

end Go.AM
namespace Go.AM
open Go Go.Proofs
set_option linter.unusedSimpArgs false
set_option linter.unusedVariables false

/-! ### chosen -/
/-- The nodes chosen of the first i, and where they stand. -/
def chN (ns : List Int) (bit : Nat → Bool) : Nat → List Int × List Int
  | 0 => ([], [])
  | i + 1 => if bit i = true then ((chN ns bit i).1 ++ [ns.getD i 0], (chN ns bit i).2 ++ [(i : Int)]) else chN ns bit i
def atK (ns : List Int) (bit : Nat → Bool) : Nat → List Int
  | 0 => []
  | i + 1 => if bit i = true then atK ns bit i ++ [((chN ns bit i).1.length : Int)] else atK ns bit i ++ [-1]
def atR (ns : List Int) (bit : Nat → Bool) (i : Nat) : List Int := atK ns bit i ++ List.replicate (ns.length - i) 0
theorem atK_len (ns : List Int) (bit : Nat → Bool) : ∀ i, (atK ns bit i).length = i
  | 0 => rfl
  | i + 1 => by
    simp only [atK]
    split <;> simp [atK_len ns bit i]
@[simp] theorem atR_len (ns : List Int) (bit : Nat → Bool) {i : Nat} (h : i ≤ ns.length) : (atR ns bit i).length = ns.length := by simp [atR, atK_len]; omega
end Go.AM
/-
  The plain law of the parts of a graph that bits describe: valid graphs, with injective inclusions; and the gluing along shared places is among the standard overlaps. No program in sight.
-/
namespace Go.AM
open Go
set_option linter.unusedSimpArgs false
set_option linter.unusedVariables false

end Go.AM
/-
  The gluing along shared places is among the standard overlaps.
-/
namespace Go.AM
open Go
set_option linter.unusedSimpArgs false
set_option linter.unusedVariables false

end Go.AM
/-
  Extensions of embeddings, and what a condition says: plain laws.
-/
namespace Go.AM
open Go Go.Proofs
set_option linter.unusedSimpArgs false
set_option linter.unusedVariables false

theorem nodup_getD {l : List Int} : l.Nodup ↔ ∀ i j, i < j → j < l.length → l.getD i 0 ≠ l.getD j 0 := by
  unfold List.Nodup
  rw [List.pairwise_iff_getElem]
  constructor
  · intro h i j hij hj
    have := h i j (by omega) hj hij
    simpa [hj, show i < l.length by omega] using this
  · intro h i j hi hj hij
    have := h i j hij hj
    simpa [hi, hj] using this
theorem ext_getD {l l' : List Int} (h : l.length = l'.length) (h2 : ∀ j, j < l.length → l.getD j 0 = l'.getD j 0) : l = l' :=
  List.ext_getElem h fun i h1 h3 => by have := h2 i h1; simpa [h1, h3] using this
theorem set_getD_same {l : List Int} {i : Nat} (h : i < l.length) (v : Int) : (l.set i v).getD i 0 = v := by simp [h]
theorem set_getD_other {l : List Int} {i j : Nat} (h : j ≠ i) (v : Int) : (l.set i v).getD j 0 = l.getD j 0 := by
  simp [List.getElem?_set, show ¬ i = j by omega]

/-! ### A search that fills places -/
def srch (ok : Nat → Nat → Bool) (n m : Nat) (fin : List Int → Bool) : Nat → List Int → Bool
  | 0, L => fin L
  | r + 1, L => if 0 ≤ L.getD (n - (r + 1)) 0 then srch ok n m fin r L
    else (List.range m).any fun k => ok (n - (r + 1)) k && !decide ((k : Int) ∈ L) && srch ok n m fin r (L.set (n - (r + 1)) k)

def NN (L : List Int) : Prop := ∀ i j, i < j → j < L.length → 0 ≤ L.getD i 0 → L.getD i 0 ≠ L.getD j 0

/-- What fills the places that are left. -/
structure Fills (ok : Nat → Nat → Bool) (n m : Nat) (L L' : List Int) : Prop where
  l : L'.length = n
  old : ∀ j, j < n → 0 ≤ L.getD j 0 → L'.getD j 0 = L.getD j 0
  new : ∀ j, j < n → ¬ 0 ≤ L.getD j 0 → ∃ k : Nat, L'.getD j 0 = k ∧ k < m ∧ ok j k = true
  nd : L'.Nodup

theorem srch_iff (ok : Nat → Nat → Bool) (n m : Nat) (fin : List Int → Bool) : ∀ (r : Nat) (L : List Int), L.length = n → r ≤ n → (∀ j, j < n - r → 0 ≤ L.getD j 0) → NN L →
    (srch ok n m fin r L = true ↔ ∃ L', Fills ok n m L L' ∧ fin L' = true)
  | 0, L, hl, _, hp, hn => by
    simp only [srch]
    constructor
    · intro h
      exact ⟨L, ⟨hl, fun _ _ _ => rfl, fun j hj h0 => absurd (hp j (by omega)) h0, nodup_getD.2 fun i j hij hj => hn i j hij hj (hp i (by omega))⟩, h⟩
    · rintro ⟨L', h, h5⟩
      have : L' = L := ext_getD (by rw [h.l, hl]) fun j hj => h.old j (by rw [← h.l]; exact hj) (hp j (by have := h.l; omega))
      rwa [this] at h5
  | r + 1, L, hl, hr, hp, hn => by
    obtain ⟨i, hid⟩ : ∃ i, n - (r + 1) = i := ⟨_, rfl⟩
    have hi : i < n := by omega
    simp only [srch, hid]
    rw [hid] at hp
    by_cases h0 : 0 ≤ L.getD i 0
    · rw [if_pos h0]
      refine srch_iff ok n m fin r L hl (by omega) (fun j hj => ?_) hn
      by_cases e : j = i
      · subst e; exact h0
      · exact hp j (by omega)
    · rw [if_neg h0, List.any_eq_true]
      have g1 : ∀ (k : Nat) j, j ≠ i → (L.set i (k : Int)).getD j 0 = L.getD j 0 := fun k j e => set_getD_other e _
      have g2 : ∀ k : Nat, (L.set i (k : Int)).getD i 0 = k := fun k => set_getD_same (by omega) _
      have ihk : ∀ k : Nat, (k : Int) ∉ L → (srch ok n m fin r (L.set i (k : Int)) = true ↔ ∃ L', Fills ok n m (L.set i (k : Int)) L' ∧ fin L' = true) := fun k hk => by
        refine srch_iff ok n m fin r _ (by simp [hl]) (by omega) (fun j hj => ?_) fun a b hab hb ha => ?_
        · by_cases e : j = i
          · subst e; rw [g2]; omega
          · rw [g1 k j e]; exact hp j (by omega)
        · simp only [List.length_set] at hb
          by_cases ea : a = i
          · subst ea
            rw [g2, g1 k b (by omega)]
            exact fun e => hk (e ▸ getD_mem hb)
          · rw [g1 k a ea] at ha ⊢
            by_cases eb : b = i
            · subst eb
              rw [g2]
              exact fun e => hk (e ▸ getD_mem (by omega))
            · rw [g1 k b eb]
              exact hn a b hab hb ha
      constructor
      · rintro ⟨k, hk, hb⟩
        simp only [List.mem_range] at hk
        simp only [Bool.and_eq_true, Bool.not_eq_true', decide_eq_false_iff_not] at hb
        obtain ⟨⟨ho, hm⟩, hs⟩ := hb
        obtain ⟨L', a, a5⟩ := (ihk k hm).1 hs
        refine ⟨L', ⟨a.l, fun j hj hj0 => ?_, fun j hj hj0 => ?_, a.nd⟩, a5⟩
        · have hne : j ≠ i := fun e => h0 (e ▸ hj0)
          rw [a.old j hj (by rw [g1 k j hne]; exact hj0), g1 k j hne]
        · by_cases e : j = i
          · subst e
            exact ⟨k, by rw [a.old j hj (by rw [g2]; omega), g2], hk, ho⟩
          · exact a.new j hj (by rw [g1 k j e]; exact hj0)
      · rintro ⟨L', a, a5⟩
        obtain ⟨k, k1, k2, k3⟩ := a.new i hi h0
        have hm : (k : Int) ∉ L := fun hmem => by
          obtain ⟨j, hj, hje⟩ := mem_getD hmem
          have hne : j ≠ i := fun e => by subst e; rw [hje] at h0; omega
          have h1 := a.old j (by omega) (by rw [hje]; omega)
          have h2 : L'.getD j 0 = L'.getD i 0 := by rw [h1, hje, k1]
          exact hne (getD_inj a.nd (by rw [a.l]; omega) (by rw [a.l]; omega) h2)
        refine ⟨k, by simpa using k2, ?_⟩
        simp only [Bool.and_eq_true, Bool.not_eq_true', decide_eq_false_iff_not]
        refine ⟨⟨k3, hm⟩, (ihk k hm).2 ⟨L', ⟨a.l, fun j hj hj0 => ?_, fun j hj hj0 => ?_, a.nd⟩, a5⟩⟩
        · by_cases e : j = i
          · subst e; rw [g2, k1]
          · rw [g1 k j e] at hj0 ⊢; exact a.old j hj hj0
        · by_cases e : j = i
          · subst e; rw [g2] at hj0; omega
          · rw [g1 k j e] at hj0; exact a.new j hj hj0

/-! ### Images of a map and what is behind it -/
theorem img_spec {n : Nat} {by' m : List Int} (hr : ∀ x ∈ by', 0 ≤ x ∧ x < n) (hnd : by'.Nodup) : ∀ i, i ≤ by'.length →
    (∀ j, j < i → (imgK n by' m i).getD (by'.getD j 0).toNat 0 = m.getD j 0) ∧ ∀ x : Nat, x < n → (∀ j, j < i → by'.getD j 0 ≠ x) → (imgK n by' m i).getD x 0 = -1
  | 0, _ => ⟨fun j hj => absurd hj (Nat.not_lt_zero _), fun x hx _ => by simp [imgK, hx]⟩
  | i + 1, hi => by
    obtain ⟨h1, h2⟩ := img_spec (m := m) hr hnd i (by omega)
    have hb := hr _ (getD_mem (d := 0) (show i < by'.length by omega))
    have hlt : (by'.getD i 0).toNat < (imgK n by' m i).length := by rw [imgK_len]; omega
    refine ⟨fun j hj => ?_, fun x hx hno => ?_⟩
    · simp only [imgK]
      by_cases e : j = i
      · subst e; exact set_getD_same hlt _
      · have hb' := hr _ (getD_mem (d := 0) (show j < by'.length by omega))
        have hne : (by'.getD j 0).toNat ≠ (by'.getD i 0).toNat := fun e' => e (getD_inj hnd (by omega) (by omega) (by omega))
        rw [set_getD_other hne]
        exact h1 j (by omega)
    · simp only [imgK]
      have := hno i (by omega)
      rw [set_getD_other (by omega)]
      exact h2 x hx fun j hj => hno j (by omega)

/-- Of a place: it is an image, or it is empty. -/
theorem img_cases {n : Nat} {by' m : List Int} (hr : ∀ x ∈ by', 0 ≤ x ∧ x < n) (hnd : by'.Nodup) (x : Nat) (hx : x < n) :
    (∃ j, j < by'.length ∧ by'.getD j 0 = x ∧ (imgK n by' m by'.length).getD x 0 = m.getD j 0) ∨ (∀ j, j < by'.length → by'.getD j 0 ≠ x) ∧ (imgK n by' m by'.length).getD x 0 = -1 := by
  obtain ⟨h1, h2⟩ := img_spec (m := m) hr hnd by'.length (Nat.le_refl _)
  by_cases h : ∃ j, j < by'.length ∧ by'.getD j 0 = x
  · obtain ⟨j, hj, e⟩ := h
    refine .inl ⟨j, hj, e, ?_⟩
    have := h1 j hj
    rwa [e, Int.toNat_natCast] at this
  · have h' : ∀ j, j < by'.length → by'.getD j 0 ≠ x := fun j hj e => h ⟨j, hj, e⟩
    exact .inr ⟨h', h2 x hx h'⟩
theorem img_NN {n : Nat} {by' m : List Int} (hr : ∀ x ∈ by', 0 ≤ x ∧ x < n) (hnd : by'.Nodup) (hl : by'.length = m.length) (hm : m.Nodup) (hp : ∀ x ∈ m, 0 ≤ x) : NN (imgK n by' m by'.length) := fun i j hij hj h0 he => by
  rw [imgK_len] at hj
  rcases img_cases (m := m) hr hnd i (by omega) with ⟨k, k1, k2, k3⟩ | ⟨_, k3⟩
  · rcases img_cases (m := m) hr hnd j hj with ⟨q, q1, q2, q3⟩ | ⟨_, q3⟩
    · rw [k3, q3] at he
      have := getD_inj hm (by omega) (by omega) he
      subst this
      omega
    · have := hp _ (getD_mem (d := 0) (show k < m.length by omega))
      omega
  · omega

/-! ### Embeddings -/
structure Emb (a b : Gr) (m : Mo) : Prop where
  v : validM a b m = 0
  n : m.nodes.Nodup
  e : m.edges.Nodup
theorem Emb.vm {a b : Gr} {m : Mo} (h : Emb a b m) : VM a b m := validM_VM h.v
theorem Emb.of {a b : Gr} {m : Mo} (h : injM a b m = true) : Emb a b m := have h := (injM_iff a b m).1 h; ⟨h.1, h.2.1, h.2.2⟩
theorem byK_getD {l h : List Int} {i : Nat} (hi : i < l.length) : (byK l h l.length).getD i 0 = h.getD (l.getD i 0).toNat 0 := by simp [byK, hi]
theorem nat_of {x : Int} {n : Nat} (h : 0 ≤ x ∧ x < n) : x.toNat < n ∧ ((x.toNat : Nat) : Int) = x := by omega
theorem edgeB_srch (p g : Gr) (acc : Mo → Bool) (N : List Int) : ∀ r Es, edgeB p g acc N r Es = srch (fun i k => decide (g.edges.getD k default = wantX p N i)) p.edges.length g.edges.length (fun E => acc ⟨N, E⟩) r Es
  | 0, Es => rfl
  | r + 1, Es => by simp only [edgeB, srch, edgeB_srch p g acc N r]
theorem nodeB_srch (p g : Gr) (acc : Mo → Bool) (Es : List Int) : ∀ r N, nodeB p g acc Es r N = srch (fun i k => decide (g.nodes.getD k 0 = p.nodes.getD i 0)) p.nodes.length g.nodes.length (fun N => edgeB p g acc N p.edges.length Es) r N
  | 0, N => rfl
  | r + 1, N => by simp only [nodeB, srch, nodeB_srch p g acc Es r]

/-- The search finds the embeddings behind a map. -/
theorem exists_iff {a p g : Gr} {x m : Mo} (hx : Emb a p x) (hm : Emb a g m) (acc : Mo → Bool) :
    nodeB p g acc (imgK p.edges.length x.edges m.edges x.edges.length) p.nodes.length (imgK p.nodes.length x.nodes m.nodes x.nodes.length) = true ↔ ∃ q, Emb p g q ∧ thenM x q = m ∧ acc q = true := by
  have v := hx.vm
  have w := hm.vm
  have nn1 := img_NN (m := m.nodes) v.n hx.n (by rw [v.ln, w.ln]) hm.n (fun y hy => (w.n y hy).1)
  have nn2 := img_NN (m := m.edges) v.e hx.e (by rw [v.le, w.le]) hm.e (fun y hy => (w.e y hy).1)
  have cn := fun i hi => img_cases (m := m.nodes) v.n hx.n i hi
  have ce := fun i hi => img_cases (m := m.edges) v.e hx.e i hi
  have ea := validG_edges v.va
  have ep := validG_edges v.vb
  rw [nodeB_srch, srch_iff _ _ _ _ _ _ (imgK_len _ _ _ _) (Nat.le_refl _) (fun j hj => by omega) nn1]
  constructor
  · rintro ⟨N, fN, hN⟩
    rw [edgeB_srch, srch_iff _ _ _ _ _ _ (imgK_len _ _ _ _) (Nat.le_refl _) (fun j hj => by omega) nn2] at hN
    obtain ⟨E', fE, hE⟩ := hN
    -- the images of the places that were given
    have on : ∀ i, i < a.nodes.length → N.getD (x.nodes.getD i 0).toNat 0 = m.nodes.getD i 0 := fun i hi => by
      have hxi := v.n _ (getD_mem (d := 0) (show i < x.nodes.length by rw [v.ln]; exact hi))
      have h1 := (img_spec (m := m.nodes) v.n hx.n _ (Nat.le_refl _)).1 i (by rw [v.ln]; exact hi)
      have h2 := (w.n _ (getD_mem (d := 0) (show i < m.nodes.length by rw [w.ln]; exact hi))).1
      rw [fN.old _ (nat_of hxi).1 (by rw [h1]; exact h2), h1]
    have oe : ∀ i, i < a.edges.length → E'.getD (x.edges.getD i 0).toNat 0 = m.edges.getD i 0 := fun i hi => by
      have hxi := v.e _ (getD_mem (d := 0) (show i < x.edges.length by rw [v.le]; exact hi))
      have h1 := (img_spec (m := m.edges) v.e hx.e _ (Nat.le_refl _)).1 i (by rw [v.le]; exact hi)
      have h2 := (w.e _ (getD_mem (d := 0) (show i < m.edges.length by rw [w.le]; exact hi))).1
      rw [fE.old _ (nat_of hxi).1 (by rw [h1]; exact h2), h1]
    refine ⟨⟨N, E'⟩, ⟨validM_of ⟨v.vb, w.vb, fN.l, fE.l, fun y hy => ?_, fun y hy => ?_, fun j hj => ?_, fun j hj => ?_⟩, fN.nd, fE.nd⟩, ?_, hE⟩
    · obtain ⟨j, hj, rfl⟩ := mem_getD hy
      rw [fN.l] at hj
      rcases cn j hj with ⟨i, hi, e, e2⟩ | ⟨_, e2⟩
      · have := on i (by rw [← v.ln]; exact hi)
        rw [e, Int.toNat_natCast] at this
        rw [this]
        exact w.n _ (getD_mem (by rw [w.ln, ← v.ln]; exact hi))
      · obtain ⟨k, k1, k2, _⟩ := fN.new j hj (by rw [e2]; omega)
        rw [k1]; omega
    · obtain ⟨j, hj, rfl⟩ := mem_getD hy
      rw [fE.l] at hj
      rcases ce j hj with ⟨i, hi, e, e2⟩ | ⟨_, e2⟩
      · have := oe i (by rw [← v.le]; exact hi)
        rw [e, Int.toNat_natCast] at this
        rw [this]
        exact w.e _ (getD_mem (by rw [w.le, ← v.le]; exact hi))
      · obtain ⟨k, k1, k2, _⟩ := fE.new j hj (by rw [e2]; omega)
        rw [k1]; omega
    · simp only
      rcases cn j hj with ⟨i, hi, e, e2⟩ | ⟨_, e2⟩
      · have hi' : i < a.nodes.length := by rw [← v.ln]; exact hi
        have h1 := on i hi'
        have h3 := v.nt i hi'
        rw [e, Int.toNat_natCast] at h1 h3
        rw [h1, w.nt i hi', h3]
      · obtain ⟨k, k1, k2, k3⟩ := fN.new j hj (by rw [e2]; omega)
        rw [k1, Int.toNat_natCast]
        exact of_decide_eq_true k3
    · simp only
      rcases ce j hj with ⟨i, hi, e, e2⟩ | ⟨_, e2⟩
      · have hi' : i < a.edges.length := by rw [← v.le]; exact hi
        have h1 := oe i hi'
        have h3 := v.et i hi'
        rw [e, Int.toNat_natCast] at h1 h3
        have hx' := ea (a.edges.getD i default) (getD_mem hi')
        rw [h1, w.et i hi', h3]
        simp only
        rw [on _ (by omega), on _ (by omega)]
      · obtain ⟨k, k1, k2, k3⟩ := fE.new j hj (by rw [e2]; omega)
        rw [k1, Int.toNat_natCast]
        exact of_decide_eq_true k3
    · simp only [thenM]
      rw [byK_ext (t := m.nodes) (by rw [v.ln, w.ln]) (fun i hi => on i (by rw [← v.ln]; exact hi)), byK_ext (t := m.edges) (by rw [v.le, w.le]) (fun i hi => oe i (by rw [← v.le]; exact hi))]
  · rintro ⟨q, hq, he, ha⟩
    have u := hq.vm
    have qn : ∀ i, i < x.nodes.length → q.nodes.getD (x.nodes.getD i 0).toNat 0 = m.nodes.getD i 0 := fun i hi => by rw [← he]; exact (byK_getD hi).symm
    have qe : ∀ i, i < x.edges.length → q.edges.getD (x.edges.getD i 0).toNat 0 = m.edges.getD i 0 := fun i hi => by rw [← he]; exact (byK_getD hi).symm
    refine ⟨q.nodes, ⟨u.ln, fun j hj h0 => ?_, fun j hj h0 => ?_, hq.n⟩, ?_⟩
    · rcases cn j hj with ⟨i, hi, e, e2⟩ | ⟨_, e2⟩
      · have := qn i hi
        rw [e, Int.toNat_natCast] at this
        rw [e2, this]
      · omega
    · have h1 := nat_of (u.n _ (getD_mem (d := 0) (show j < q.nodes.length by rw [u.ln]; exact hj)))
      exact ⟨_, h1.2.symm, h1.1, decide_eq_true (u.nt j hj)⟩
    · rw [edgeB_srch, srch_iff _ _ _ _ _ _ (imgK_len _ _ _ _) (Nat.le_refl _) (fun j hj => by omega) nn2]
      refine ⟨q.edges, ⟨u.le, fun j hj h0 => ?_, fun j hj h0 => ?_, hq.e⟩, ha⟩
      · rcases ce j hj with ⟨i, hi, e, e2⟩ | ⟨_, e2⟩
        · have := qe i hi
          rw [e, Int.toNat_natCast] at this
          rw [e2, this]
        · omega
      · have h1 := nat_of (u.e _ (getD_mem (d := 0) (show j < q.edges.length by rw [u.le]; exact hj)))
        exact ⟨_, h1.2.symm, h1.1, decide_eq_true (u.et j hj)⟩
end Go.AM
/-
  Shifting keeps what a condition says.
-/
namespace Go.AM
open Go Go.Proofs
set_option linter.unusedSimpArgs false
set_option linter.unusedVariables false

/-! ### An error stays -/
section
variable {α : Type} {f : α → St2 → List Cd × St2} (hs : ∀ x s, (f x s).2.2 = 0 → s.2 = 0)
include hs
end
theorem ex_hol {c : Cd} {a g : Gr} {m : Mo} (k5 : c.kind = 5) {x : Cd} (hx : c.kids = [x]) (hc : Emb a c.g c.m) (hm : Emb a g m) : c.hol g m = true ↔ ∃ q, Emb c.g g q ∧ thenM c.m q = m ∧ x.hol g q = true := by
  rw [Cd.hol_eq]
  have e : holStep c.kind c.m c.g g m (fun q => c.kids.map fun x => x.hol g q) = nodeB c.g g (fun q => x.hol g q) (imgK c.g.edges.length c.m.edges m.edges c.m.edges.length) c.g.nodes.length (imgK c.g.nodes.length c.m.nodes m.nodes c.m.nodes.length) := by
    rw [hx, k5]; rfl
  rw [e]
  exact exists_iff hc hm _

theorem ovr_ex {c : Cd} {a : Gr} (h : c.ovr a = 0) (k5 : c.kind = 5) : Emb a c.g c.m ∧ ∃ x, c.kids = [x] := by
  obtain ⟨h0, h1, _⟩ := Cd.ovr_zero h
  have hl := shape_kind h0 k5
  rw [ovrStep, if_pos k5] at h1
  split at h1
  · contradiction
  · split at h1
    · rename_i h2
      exact ⟨Emb.of h2, List.length_eq_one_iff.1 hl⟩
    · cases h1
/-! ### The law -/
end Go.AM
/-
  What shifting makes is valid, and as great as was counted.
-/
namespace Go.AM
open Go Go.Proofs
set_option linter.unusedSimpArgs false
set_option linter.unusedVariables false

/-! ### Size and depth as natural numbers -/

/-! ### There is an overlap that agrees -/
/-! ### What is made is over the graph -/
end Go.AM
/-
  shift.shifted, Shift, Local.
-/
namespace Go.AM
open Go Go.Proofs
set_option linter.unusedSimpArgs false
set_option linter.unusedVariables false

theorem fit_nil : Gr.Fit ⟨[], []⟩ := ⟨by simp, by simp⟩
theorem fit_nilM : Mo.Fit ⟨[], []⟩ := ⟨by simp, by simp⟩
theorem cdOf_fit {k : Int} {l : List Cd} (hl : l.length ≤ kidN) (h : ∀ x ∈ l, x.Fit) : (cdOf k l).Fit := .mk hl fit_nilM fit_nil (by rw [bigN_eq]; simp [cdOf, Cd.sl]) (by rw [bigN_eq]; simp [cdOf, Cd.te]) h

def shdR (b : Gr) (m : Mo) (c : Cd) : Cd × Int := if (c.shf b m (0, 0)).2.2 = 0 then ((c.shf b m (0, 0)).1, 0) else (cdOf 0 [], (c.shf b m (0, 0)).2.2)
def shiftR (a b : Gr) (m : Mo) (c : Cd) : Cd × Int := if arrR a b m ≠ 0 then (cdOf 0 [], arrR a b m) else if validC a c ≠ 0 then (cdOf 0 [], validC a c) else shdR b m c
theorem shifted_c (b : Gr) (m : Mo) (c : Cd) (hc : c.Fit) (a : Gr) (hv : c.ovr a = 0) (hb : b.Fit) (hbv : validG b = 0) (hm : Inn m a b) (tok : Nat → Bool) (nt : Nat) :
    DCall Tryz.prog 33 [b.av, m.av, c.av] tok nt (.tup [(shdR b m c).1.av, I (shdR b m c).2]) tok nt := by
  intro box nb
  have hs := shift62_c _ c (Nat.lt_succ_self _) hc a hv b hb hbv m hm (0, 0)
  obtain ⟨r, hr⟩ : ∃ r, c.shf b m (0, 0) = r := ⟨_, rfl⟩
  have hR : shdR b m c = if r.2.2 = 0 then (r.1, 0) else (cdOf 0 [], r.2.2) := by rw [shdR, hr]
  rw [hr] at hs
  refine ACalls.of_body Tryz.func33 rfl (by kernel_rfl) follows_Tryz (by kernel_rfl) (by simp [Tryz.ntmps33]) ?_
  intro hbox htok
  simp only at hbox htok
  apply AL.start
  try (simp)
  repeat ((repeat (first | refine AL.seq ?_ | refine AL.block ?_ | refine AL.skip ?_ | refine AL.blk ?_)); (refine AL.region follows_Tryz (Nat.le_refl _) (by kernel_rfl) ?_); simp)
  refine Stop.of_a (hs (nb + 11) _ (by simp [lb_at]) _ _ _) ?_
  rintro v m' ⟨rfl, rfl⟩
  simp
  try (simp)
  repeat ((repeat (first | refine AL.seq ?_ | refine AL.block ?_ | refine AL.skip ?_ | refine AL.blk ?_)); (refine AL.region follows_Tryz (Nat.le_refl _) (by kernel_rfl) ?_); simp)
  by_cases he : r.2.2 = 0
  · rw [if_pos he] at hR
    have be : (r.2.2 != 0) = false := by simp [he]
    simp only [be]
    repeat (first | refine AL.seq ?_ | refine AL.block ?_ | refine AL.skip ?_ | refine AL.blk ?_)
    refine AL.cond ?_
    simp
    trace_state
    try (simp)
    repeat ((repeat (first | refine AL.seq ?_ | refine AL.block ?_ | refine AL.skip ?_ | refine AL.blk ?_)); (refine AL.region follows_Tryz (Nat.le_refl _) (by kernel_rfl) ?_); simp)
    repeat (first | refine AL.seq ?_ | refine AL.block ?_ | refine AL.skip ?_ | refine AL.blk ?_)
    refine AL.ret ?_
    try simp only [AU]
    refine ⟨by simp, Fin.data (by simp [resAs, resA]; rfl) hbox rfl htok (fun _ h => h) (Nat.le_refl _) ?_⟩
    simp [packA, hR]
  · rw [if_neg he] at hR
    have be : (r.2.2 != 0) = true := by simp [he]
    simp only [be]
    repeat (first | refine AL.seq ?_ | refine AL.block ?_ | refine AL.skip ?_ | refine AL.blk ?_)
    refine AL.cond ?_
    simp
    repeat (first | refine AL.seq ?_ | refine AL.block ?_ | refine AL.skip ?_ | refine AL.blk ?_)
    refine AL.region2 follows_Tryz (Nat.le_refl _) (by kernel_rfl) (Side.of (by simp)) ?_
    simp
    try (simp)
    repeat ((repeat (first | refine AL.seq ?_ | refine AL.block ?_ | refine AL.skip ?_ | refine AL.blk ?_)); (refine AL.region follows_Tryz (Nat.le_refl _) (by kernel_rfl) ?_); simp)
    repeat (first | refine AL.seq ?_ | refine AL.block ?_ | refine AL.skip ?_ | refine AL.blk ?_)
    refine AL.ret ?_
    try simp only [AU]
    refine ⟨by simp, Fin.data (by simp [resAs, resA]; rfl) hbox rfl htok (fun _ h => h) (Nat.le_refl _) ?_⟩
    simp [packA, hR, cdOf, conds, ints, AM.edges, slots, tests, Cd.kind, Cd.kids, Cd.m, Cd.g, Cd.sl, Cd.vars, Cd.te]

theorem cdShift_c (a b : Gr) (m : Mo) (c : Cd) (ha : a.Fit) (hb : b.Fit) (hm : m.Fit) (hc : c.Fit) (tok : Nat → Bool) (nt : Nat) :
    DCall Tryz.prog 13 [a.av, b.av, m.av, c.av] tok nt (.tup [(shiftR a b m c).1.av, I (shiftR a b m c).2]) tok nt := by
  intro box nb
  have hi := cdInj_c a b m ha hb hm
  have hv := validC_c a c ha hc
  have hh := fun (h1 : arrR a b m = 0) (h2 : validC a c = 0) => shifted_c b m c hc a (validC_ovr h2).2.1 hb (validM_VM (arrR_valid h1).1).vb (Inn.of (arrR_valid h1).1)
  refine ACalls.of_body Tryz.func13 rfl (by kernel_rfl) follows_Tryz (by kernel_rfl) (by simp [Tryz.ntmps13]) ?_
  intro hbox htok
  simp only at hbox htok
  apply AL.start
  try (simp)
  repeat ((repeat (first | refine AL.seq ?_ | refine AL.block ?_ | refine AL.skip ?_ | refine AL.blk ?_)); (refine AL.region follows_Tryz (Nat.le_refl _) (by kernel_rfl) ?_); simp)
  refine Stop.of_d (hi _ _) ?_
  simp
  try (simp)
  repeat ((repeat (first | refine AL.seq ?_ | refine AL.block ?_ | refine AL.skip ?_ | refine AL.blk ?_)); (refine AL.region follows_Tryz (Nat.le_refl _) (by kernel_rfl) ?_); simp)
  by_cases h0 : arrR a b m = 0
  · simp only [h0]
    repeat (first | refine AL.seq ?_ | refine AL.block ?_ | refine AL.skip ?_ | refine AL.blk ?_)
    refine AL.cond ?_
    simp
    try (simp)
    repeat ((repeat (first | refine AL.seq ?_ | refine AL.block ?_ | refine AL.skip ?_ | refine AL.blk ?_)); (refine AL.region follows_Tryz (Nat.le_refl _) (by kernel_rfl) ?_); simp)
    refine Stop.of_d (hv _ _) ?_
    simp
    try (simp)
    repeat ((repeat (first | refine AL.seq ?_ | refine AL.block ?_ | refine AL.skip ?_ | refine AL.blk ?_)); (refine AL.region follows_Tryz (Nat.le_refl _) (by kernel_rfl) ?_); simp)
    by_cases h1 : validC a c = 0
    · have hh' := hh h0 h1
      have hR : shiftR a b m c = shdR b m c := by rw [shiftR, if_neg (by simp [h0]), if_neg (by simp [h1])]
      simp only [h1]
      repeat (first | refine AL.seq ?_ | refine AL.block ?_ | refine AL.skip ?_ | refine AL.blk ?_)
      refine AL.cond ?_
      simp
      try (simp)
      repeat ((repeat (first | refine AL.seq ?_ | refine AL.block ?_ | refine AL.skip ?_ | refine AL.blk ?_)); (refine AL.region follows_Tryz (Nat.le_refl _) (by kernel_rfl) ?_); simp)
      refine Stop.of_d (hh' _ _) ?_
      simp
      try (simp)
      repeat ((repeat (first | refine AL.seq ?_ | refine AL.block ?_ | refine AL.skip ?_ | refine AL.blk ?_)); (refine AL.region follows_Tryz (Nat.le_refl _) (by kernel_rfl) ?_); simp)
      repeat (first | refine AL.seq ?_ | refine AL.block ?_ | refine AL.skip ?_ | refine AL.blk ?_)
      refine AL.ret ?_
      try simp only [AU]
      refine ⟨by simp, Fin.data (by simp [resAs, resA]; rfl) hbox rfl htok (fun _ h => h) (Nat.le_refl _) ?_⟩
      simp [packA, hR]
    · have b1 : (validC a c != 0) = true := by simp [h1]
      have hR : shiftR a b m c = (cdOf 0 [], validC a c) := by rw [shiftR, if_neg (by simp [h0]), if_pos h1]
      simp only [b1]
      repeat (first | refine AL.seq ?_ | refine AL.block ?_ | refine AL.skip ?_ | refine AL.blk ?_)
      refine AL.cond ?_
      simp
      try (simp)
      repeat ((repeat (first | refine AL.seq ?_ | refine AL.block ?_ | refine AL.skip ?_ | refine AL.blk ?_)); (refine AL.region follows_Tryz (Nat.le_refl _) (by kernel_rfl) ?_); simp)
      repeat (first | refine AL.seq ?_ | refine AL.block ?_ | refine AL.skip ?_ | refine AL.blk ?_)
      refine AL.ret ?_
      try simp only [AU]
      refine ⟨by simp, Fin.data (by simp [resAs, resA]; rfl) hbox rfl htok (fun _ h => h) (Nat.le_refl _) ?_⟩
      simp [packA, hR, cdOf, conds, ints, AM.edges, slots, tests, Cd.kind, Cd.kids, Cd.m, Cd.g, Cd.sl, Cd.vars, Cd.te]
  · have b0 : (arrR a b m != 0) = true := by simp [h0]
    have hR : shiftR a b m c = (cdOf 0 [], arrR a b m) := by rw [shiftR, if_pos h0]
    simp only [b0]
    repeat (first | refine AL.seq ?_ | refine AL.block ?_ | refine AL.skip ?_ | refine AL.blk ?_)
    refine AL.cond ?_
    simp
    try (simp)
    repeat ((repeat (first | refine AL.seq ?_ | refine AL.block ?_ | refine AL.skip ?_ | refine AL.blk ?_)); (refine AL.region follows_Tryz (Nat.le_refl _) (by kernel_rfl) ?_); simp)
    repeat (first | refine AL.seq ?_ | refine AL.block ?_ | refine AL.skip ?_ | refine AL.blk ?_)
    refine AL.ret ?_
    try simp only [AU]
    refine ⟨by simp, Fin.data (by simp [resAs, resA]; rfl) hbox rfl htok (fun _ h => h) (Nat.le_refl _) ?_⟩
    simp [packA, hR, cdOf, conds, ints, AM.edges, slots, tests, Cd.kind, Cd.kids, Cd.m, Cd.g, Cd.sl, Cd.vars, Cd.te]

end Go.AM
/-
  The reference's finder: used, index, edges.
-/
namespace Go.AM
open Go Go.Proofs
set_option linter.unusedSimpArgs false
set_option linter.unusedVariables false

def stUs (xs : List Int) (v : Int) (nb : Nat) (box : Nat → Option (List (List AV))) (tok : Nat → Bool) (nt : Nat) (i : Nat) : AState := ⟨tl [(0, .d (ints xs)), (1, I v), (5, I i)], lb nb box [], tok, nt⟩

theorem used33_c (xs : List Int) (v : Int) (hx : xs.length ≤ 1000000) (tok : Nat → Bool) (nt : Nat) : DCall Tryz.prog 92 [.d (ints xs), I v] tok nt (B (decide (v ∈ xs))) tok nt := by
  intro box nb
  refine ACalls.of_body Tryz.func92 rfl (by kernel_rfl) follows_Tryz (by kernel_rfl) (by simp [Tryz.ntmps92]) ?_
  intro hbox htok
  simp only at hbox htok
  apply AL.start
  repeat (first | refine AL.seq ?_ | refine AL.block ?_ | refine AL.skip ?_ | refine AL.blk ?_)
  refine AL.region follows_Tryz (Nat.le_refl _) (by kernel_rfl) ?_
  simp
  repeat (first | refine AL.seq ?_ | refine AL.block ?_ | refine AL.skip ?_ | refine AL.blk ?_)
  refine AL.region follows_Tryz (Nat.le_refl _) (by kernel_rfl) ?_
  simp
  repeat (first | refine AL.seq ?_ | refine AL.block ?_ | refine AL.skip ?_ | refine AL.blk ?_)
  refine AL.loopT (stUs xs v nb box tok nt) (fun i => i ≤ xs.length ∧ v ∉ xs.take i) (fun i => xs.length - i) 0 ⟨Nat.zero_le _, by simp⟩ (Weaks.mk (Nat.le_refl _) rfl (by simp [ToL]) trivial) ?_
  rintro i S ⟨hi, htk⟩ hS
  simp only [stUs] at hS
  subst hS
  have hw : IntKind.i64.wrap (↑i + 1) = ((i + 1 : Nat) : Int) := by rw [wrap_in (by omega) (by omega)]; rfl
  repeat (first | refine AL.seq ?_ | refine AL.block ?_ | refine AL.skip ?_ | refine AL.blk ?_)
  refine AL.region follows_Tryz (Nat.le_refl _) (by kernel_rfl) ?_
  simp
  repeat (first | refine AL.seq ?_ | refine AL.block ?_ | refine AL.skip ?_ | refine AL.blk ?_)
  refine AL.cond ?_
  simp
  refine ⟨fun hlt => ?_, fun hge => ?_⟩
  · repeat (first | refine AL.seq ?_ | refine AL.block ?_ | refine AL.skip ?_ | refine AL.blk ?_)
    refine AL.region follows_Tryz (Nat.le_refl _) (by kernel_rfl) ?_
    simp [hlt]
    repeat (first | refine AL.seq ?_ | refine AL.block ?_ | refine AL.skip ?_ | refine AL.blk ?_)
    refine AL.cond ?_
    simp
    refine ⟨fun he => ?_, fun hne => ?_⟩
    · repeat (first | refine AL.seq ?_ | refine AL.block ?_ | refine AL.skip ?_ | refine AL.blk ?_)
      refine AL.region follows_Tryz (Nat.le_refl _) (by kernel_rfl) ?_
      simp
      have hmem : v ∈ xs := by rw [← he]; exact List.getElem_mem _
      repeat (first | refine AL.seq ?_ | refine AL.block ?_ | refine AL.skip ?_ | refine AL.blk ?_)
      refine AL.ret ?_
      try simp only [AU]
      refine ⟨by simp, Fin.data (by simp [resAs, resA]; rfl) hbox rfl htok (fun _ h => h) (Nat.le_refl _) ?_⟩
      simp [packA, hmem]
    · repeat (first | refine AL.seq ?_ | refine AL.block ?_ | refine AL.skip ?_ | refine AL.blk ?_)
      refine AL.region follows_Tryz (Nat.le_refl _) (by kernel_rfl) ?_
      simp [hw]
      repeat (first | refine AL.seq ?_ | refine AL.block ?_ | refine AL.skip ?_ | refine AL.blk ?_)
      refine AL.nil ?_
      refine ⟨i + 1, ⟨hlt, ?_⟩, by omega, Weaks.mk (Nat.le_refl _) rfl (by simp [ToL]) trivial⟩
      rw [List.take_succ_eq_append_getElem hlt]
      simp only [List.mem_append, List.mem_singleton, not_or]
      exact ⟨htk, fun e => hne e.symm⟩
  · repeat (first | refine AL.seq ?_ | refine AL.block ?_ | refine AL.skip ?_ | refine AL.blk ?_)
    refine AL.exit ?_
    simp only [AU, ↓reduceIte]
    repeat (first | refine AL.seq ?_ | refine AL.block ?_ | refine AL.skip ?_ | refine AL.blk ?_)
    refine AL.region follows_Tryz (Nat.le_refl _) (by kernel_rfl) ?_
    simp
    have hn : v ∉ xs := by rwa [List.take_of_length_le hge] at htk
    repeat (first | refine AL.seq ?_ | refine AL.block ?_ | refine AL.skip ?_ | refine AL.blk ?_)
    refine AL.ret ?_
    try simp only [AU]
    refine ⟨by simp, Fin.data (by simp [resAs, resA]; rfl) hbox rfl htok (fun _ h => h) (Nat.le_refl _) ?_⟩
    simp [packA, hn]
def stIx (xs : List Int) (v : Int) (nb : Nat) (box : Nat → Option (List (List AV))) (tok : Nat → Bool) (nt : Nat) (i : Nat) : AState := ⟨tl [(0, .d (ints xs)), (1, I v), (5, I i)], lb nb box [], tok, nt⟩

theorem index33_c (xs : List Int) (v : Int) (hx : xs.length ≤ 1000000) (tok : Nat → Bool) (nt : Nat) : DCall Tryz.prog 91 [.d (ints xs), I v] tok nt (I (indexI xs v)) tok nt := by
  intro box nb
  refine ACalls.of_body Tryz.func91 rfl (by kernel_rfl) follows_Tryz (by kernel_rfl) (by simp [Tryz.ntmps91]) ?_
  intro hbox htok
  simp only at hbox htok
  apply AL.start
  repeat (first | refine AL.seq ?_ | refine AL.block ?_ | refine AL.skip ?_ | refine AL.blk ?_)
  refine AL.region follows_Tryz (Nat.le_refl _) (by kernel_rfl) ?_
  simp
  repeat (first | refine AL.seq ?_ | refine AL.block ?_ | refine AL.skip ?_ | refine AL.blk ?_)
  refine AL.region follows_Tryz (Nat.le_refl _) (by kernel_rfl) ?_
  simp
  repeat (first | refine AL.seq ?_ | refine AL.block ?_ | refine AL.skip ?_ | refine AL.blk ?_)
  refine AL.loopT (stIx xs v nb box tok nt) (fun i => i ≤ xs.length ∧ v ∉ xs.take i) (fun i => xs.length - i) 0 ⟨Nat.zero_le _, by simp⟩ (Weaks.mk (Nat.le_refl _) rfl (by simp [ToL]) trivial) ?_
  rintro i S ⟨hi, htk⟩ hS
  simp only [stIx] at hS
  subst hS
  have hw : IntKind.i64.wrap (↑i + 1) = ((i + 1 : Nat) : Int) := by rw [wrap_in (by omega) (by omega)]; rfl
  repeat (first | refine AL.seq ?_ | refine AL.block ?_ | refine AL.skip ?_ | refine AL.blk ?_)
  refine AL.region follows_Tryz (Nat.le_refl _) (by kernel_rfl) ?_
  simp
  repeat (first | refine AL.seq ?_ | refine AL.block ?_ | refine AL.skip ?_ | refine AL.blk ?_)
  refine AL.cond ?_
  simp
  refine ⟨fun hlt => ?_, fun hge => ?_⟩
  · have hsp : xs = xs.take i ++ xs[i] :: xs.drop (i + 1) := by simp
    repeat (first | refine AL.seq ?_ | refine AL.block ?_ | refine AL.skip ?_ | refine AL.blk ?_)
    refine AL.region follows_Tryz (Nat.le_refl _) (by kernel_rfl) ?_
    simp [hlt]
    repeat (first | refine AL.seq ?_ | refine AL.block ?_ | refine AL.skip ?_ | refine AL.blk ?_)
    refine AL.cond ?_
    simp
    refine ⟨fun he => ?_, fun hne => ?_⟩
    · repeat (first | refine AL.seq ?_ | refine AL.block ?_ | refine AL.skip ?_ | refine AL.blk ?_)
      refine AL.region follows_Tryz (Nat.le_refl _) (by kernel_rfl) ?_
      simp
      have hmem : v ∈ xs := by rw [← he]; exact List.getElem_mem _
      have hid : xs.idxOf v = i := by
        unfold List.idxOf
        rw [List.findIdx_eq hlt]
        refine ⟨by simp [he], fun j hj => ?_⟩
        have : xs[j] ≠ v := fun e => htk (by rw [← e, List.mem_take_iff_getElem]; exact ⟨j, by omega, rfl⟩)
        simpa using this
      repeat (first | refine AL.seq ?_ | refine AL.block ?_ | refine AL.skip ?_ | refine AL.blk ?_)
      refine AL.ret ?_
      try simp only [AU]
      refine ⟨by simp, Fin.data (by simp [resAs, resA]; rfl) hbox rfl htok (fun _ h => h) (Nat.le_refl _) ?_⟩
      simp [packA, indexI, hmem, hid]
    · repeat (first | refine AL.seq ?_ | refine AL.block ?_ | refine AL.skip ?_ | refine AL.blk ?_)
      refine AL.region follows_Tryz (Nat.le_refl _) (by kernel_rfl) ?_
      simp [hw]
      repeat (first | refine AL.seq ?_ | refine AL.block ?_ | refine AL.skip ?_ | refine AL.blk ?_)
      refine AL.nil ?_
      refine ⟨i + 1, ⟨hlt, ?_⟩, by omega, Weaks.mk (Nat.le_refl _) rfl (by simp [ToL]) trivial⟩
      rw [List.take_succ_eq_append_getElem hlt]
      simp only [List.mem_append, List.mem_singleton, not_or]
      exact ⟨htk, fun e => hne e.symm⟩
  · repeat (first | refine AL.seq ?_ | refine AL.block ?_ | refine AL.skip ?_ | refine AL.blk ?_)
    refine AL.exit ?_
    simp only [AU, ↓reduceIte]
    repeat (first | refine AL.seq ?_ | refine AL.block ?_ | refine AL.skip ?_ | refine AL.blk ?_)
    refine AL.region follows_Tryz (Nat.le_refl _) (by kernel_rfl) ?_
    simp
    have hn : v ∉ xs := by rwa [List.take_of_length_le hge] at htk
    repeat (first | refine AL.seq ?_ | refine AL.block ?_ | refine AL.skip ?_ | refine AL.blk ?_)
    refine AL.ret ?_
    try simp only [AU]
    refine ⟨by simp, Fin.data (by simp [resAs, resA]; rfl) hbox rfl htok (fun _ h => h) (Nat.le_refl _) ?_⟩
    simp [packA, indexI, hn]

/-! ### What the finder lists -/
def lst {β : Type} (ok : Nat → Nat → Bool) (m : Nat) (fin : List Int → List β) : Nat → List Int → List β
  | 0, L => fin L
  | r + 1, L => (List.range m).flatMap fun (k : Nat) => if (!decide ((k : Int) ∈ L) && ok L.length k) = true then lst ok m fin r (L ++ [(k : Int)]) else []
/-- What a place must hold, if a map and what is behind it say so. -/
def atB (by' of : List Int) (i k : Nat) : Bool := decide (indexI by' i < 0) || decide (of.getD (indexI by' i).toNat 0 = k)
def okXE (p g : Gr) (x m : Mo) (N : List Int) (i k : Nat) : Bool := decide (g.edges.getD k default = wantX p N i) && atB x.edges m.edges i k
def okXN (p g : Gr) (x m : Mo) (i k : Nat) : Bool := decide (g.nodes.getD k 0 = p.nodes.getD i 0) && atB x.nodes m.nodes i k
def exE (p g : Gr) (x m : Mo) (N : List Int) (r : Nat) (L : List Int) : List Mo := lst (okXE p g x m N) g.edges.length (fun E => [⟨N, E⟩]) r L
def exN (p g : Gr) (x m : Mo) (r : Nat) (L : List Int) : List Mo := lst (okXN p g x m) g.nodes.length (fun N => exE p g x m N p.edges.length []) r L
def exts (p g : Gr) (x m : Mo) : List Mo := exN p g x m p.nodes.length []

abbrev Mo.cells (m : Mo) : List D := [ints m.nodes, ints m.edges]
abbrev fiRow (p g : Gr) (x m : Mo) (out : List Mo) (own : Own) : List AV := [.d (ints p.nodes), .d (AM.edges p.edges), .d (ints g.nodes), .d (AM.edges g.edges), .d (ints x.nodes), .d (ints x.edges), .d (ints m.nodes), .d (ints m.edges), .osl 2 (out.map Mo.cells) own]
def QFi (p g : Gr) (x m : Mo) (box : Nat → Option (List (List AV))) (nb k : Nat) (tok : Nat → Bool) (nt : Nat) (own : Own) (out : List Mo) (v : AV) (M : AMem) : Prop :=
  v = .tup [] ∧ ∃ own' tok' nt', M = ⟨upd box k (some [fiRow p g x m out own']), nb, tok', nt'⟩ ∧ Adv tok nt own tok' nt' own'
structure FiH (p g : Gr) (x m : Mo) : Prop where
  fp : p.Fit
  fg : g.Fit
  fx : x.Fit
  ep : ∀ e ∈ p.edges, 0 ≤ e.fr ∧ e.fr < p.nodes.length ∧ 0 ≤ e.to ∧ e.to < p.nodes.length
  ln : x.nodes.length ≤ m.nodes.length
  le : x.edges.length ≤ m.edges.length
theorem fiOk {p g : Gr} {x m : Mo} {out : List Mo} {own : Own} {box : Nat → Option (List (List AV))} {k base : Nat} {pp q : Nat → Prop} (hq : q = fun _ => True) : ∀ k' rows, k' < base → (upd box k (some [fiRow p g x m out own])) k' = some rows → box k' = some rows ∨ ∀ r ∈ rows, ∀ x ∈ r, OkIn pp q x := by
  subst hq
  intro k' rows hk' hr
  by_cases e : k' = k
  · subst e
    rw [upd_same] at hr
    cases hr
    exact .inr (by simp)
  · rw [upd_other _ _ e] at hr
    exact .inl hr
structure AccM where
  i : Nat
  out : List Mo
  own : Own
  tok : Nat → Bool
  nt : Nat
def candE33 (p g : Gr) (x m : Mo) (N : List Int) (r : Nat) (L : List Int) (k : Nat) : List Mo := if (!decide ((k : Int) ∈ L) && okXE p g x m N L.length k) = true then exE p g x m N r (L ++ [(k : Int)]) else []
def stFe (p g : Gr) (x m : Mo) (N L : List Int) (e : E) (nb k : Nat) (box : Nat → Option (List (List AV))) (y : AccM) : AState :=
  ⟨tl [(0, .ptr k 0 0), (1, .d (ints N)), (2, .d (ints L)), (7, .ptr (nb + 7) 0 0), (8, I (indexI x.edges L.length)), (9, I y.i)],
    lb nb (upd box k (some [fiRow p g x m y.out y.own])) [(7, [[I e.ty, I e.fr, I e.to]])], y.tok, y.nt⟩
theorem flat_le {β : Type} (f : Nat → List β) {i : Nat} : ∀ {n : Nat}, i ≤ n → ((List.range i).flatMap f).length ≤ ((List.range n).flatMap f).length
  | 0, h => by have : i = 0 := by omega
               subst this; exact Nat.le_refl _
  | n + 1, h => by
    by_cases e : i = n + 1
    · subst e; exact Nat.le_refl _
    · have := flat_le f (show i ≤ n by omega)
      rw [List.range_succ, List.flatMap_append, List.length_append]
      omega
theorem exE_succ (p g : Gr) (x m : Mo) (N : List Int) (r : Nat) (L : List Int) : exE p g x m N (r + 1) L = (List.range g.edges.length).flatMap (candE33 p g x m N r L) := rfl

set_option maxRecDepth 100000 in
theorem edges33_c (p g : Gr) (x m : Mo) (N : List Int) (h : FiH p g x m) (hN : N.length = p.nodes.length) : ∀ (r : Nat) (L : List Int) (out : List Mo) (own : Own) (box : Nat → Option (List (List AV))) (nb k : Nat) (tok : Nat → Bool) (nt : Nat), L.length + r = p.edges.length →
    out.length + (exE p g x m N r L).length ≤ 1000000000000 → box k = some [fiRow p g x m out own] → own.liveP tok →
    ACalls Tryz.prog 90 [.ptr k 0 0, .d (ints N), .d (ints L)] ⟨box, nb, tok, nt⟩ (QFi p g x m box nb k tok nt own (out ++ exE p g x m N r L)) := by
  intro r
  induction r with
  | zero =>
    intro L out own box nb k tok nt hL hroom hk hlive
    have hself : box = upd box k (some [fiRow p g x m out own]) := (upd_self box k _ hk).symm
    have hpe := h.fp.e
    refine ACalls.of_body Tryz.func90 rfl (by kernel_rfl) follows_Tryz (by kernel_rfl) (by simp [Tryz.ntmps90]) ?_
    intro hbox htok
    simp only at hbox htok
    apply AL.start
    have hkn := key_lt hbox hk
    have hLe : (L.length : Int) = (p.edges.length : Int) := by omega
    try (simp [lb_out hkn, hk])
    repeat ((repeat (first | refine AL.seq ?_ | refine AL.block ?_ | refine AL.skip ?_ | refine AL.blk ?_)); (refine AL.region follows_Tryz (Nat.le_refl _) (by kernel_rfl) ?_); simp [lb_out hkn, hk])
    have hb : ((L.length : Int) == (p.edges.length : Int)) = true := by simp [hLe]
    have he0 : exE p g x m N 0 L = [⟨N, L⟩] := rfl
    rw [he0] at hroom ⊢
    simp only [List.length_cons, List.length_nil] at hroom
    simp only [hb]
    repeat (first | refine AL.seq ?_ | refine AL.block ?_ | refine AL.skip ?_ | refine AL.blk ?_)
    refine AL.cond ?_
    simp
    try (simp [lb_out hkn, hk, upd_lb_out hkn])
    repeat ((repeat (first | refine AL.seq ?_ | refine AL.block ?_ | refine AL.skip ?_ | refine AL.blk ?_)); (refine AL.region follows_Tryz (Nat.le_refl _) (by kernel_rfl) ?_); simp [lb_out hkn, hk, upd_lb_out hkn])
    refine ⟨⟨by omega, hlive⟩, ?_⟩
    try (simp [lb_out hkn, hk, upd_lb_out hkn])
    repeat ((repeat (first | refine AL.seq ?_ | refine AL.block ?_ | refine AL.skip ?_ | refine AL.blk ?_)); (refine AL.region follows_Tryz (Nat.le_refl _) (by kernel_rfl) ?_); simp [lb_out hkn, hk, upd_lb_out hkn])
    repeat (first | refine AL.seq ?_ | refine AL.block ?_ | refine AL.skip ?_ | refine AL.blk ?_)
    refine AL.ret ?_
    try simp only [AU]
    refine ⟨by simp, (Fin.gen (vs := []) (av := .tup []) (tok' := upd (own.kill tok) nt true) (nt' := nt + 1) (by simp [resAs, resA]) ?_ (by omega) (Nat.le_refl _) (fun t h => ⟨h, .inl rfl⟩) ?_ (by simp [packA])).mono fun v M hq => ⟨hq.1, .tok nt, upd (own.kill tok) nt true, nt + 1, ?_, Adv.app hlive htok⟩⟩
    · rw [← upd_lb_out hkn, hbox]
    · intro k' rows hk' hr
      by_cases e : k' = k
      · subst e
        rw [upd_same] at hr
        cases hr
        exact .inr (by simp)
      · rw [upd_other _ _ e] at hr
        exact .inl hr
    · rw [hq.2]
      simp [fiRow]
  | succ r ih =>
    intro L out own box nb k tok nt hL hroom hk hlive
    have hself : box = upd box k (some [fiRow p g x m out own]) := (upd_self box k _ hk).symm
    have hpe := h.fp.e
    have hge := h.fg.e
    have hlt : L.length < p.edges.length := by omega
    refine ACalls.of_body Tryz.func90 rfl (by kernel_rfl) follows_Tryz (by kernel_rfl) (by simp [Tryz.ntmps90]) ?_
    intro hbox htok
    simp only at hbox htok
    apply AL.start
    have hkn := key_lt hbox hk
    try (simp [lb_out hkn, hk])
    repeat ((repeat (first | refine AL.seq ?_ | refine AL.block ?_ | refine AL.skip ?_ | refine AL.blk ?_)); (refine AL.region follows_Tryz (Nat.le_refl _) (by kernel_rfl) ?_); simp [lb_out hkn, hk])
    have hb : ((L.length : Int) == (p.edges.length : Int)) = false := by simp; omega
    simp only [hb]
    repeat (first | refine AL.seq ?_ | refine AL.block ?_ | refine AL.skip ?_ | refine AL.blk ?_)
    refine AL.cond ?_
    simp
    try (simp [lb_out hkn, hk, hlt])
    repeat ((repeat (first | refine AL.seq ?_ | refine AL.block ?_ | refine AL.skip ?_ | refine AL.blk ?_)); (refine AL.region follows_Tryz (Nat.le_refl _) (by kernel_rfl) ?_); simp [lb_out hkn, hk, hlt])
    refine Stop.of_d (index33_c x.edges L.length h.fx.e _ _) ?_
    simp
    try (simp [lb_out hkn, hk, hlt])
    repeat ((repeat (first | refine AL.seq ?_ | refine AL.block ?_ | refine AL.skip ?_ | refine AL.blk ?_)); (refine AL.region follows_Tryz (Nat.le_refl _) (by kernel_rfl) ?_); simp [lb_out hkn, hk, hlt])
    repeat (first | refine AL.seq ?_ | refine AL.block ?_ | refine AL.skip ?_ | refine AL.blk ?_)
    obtain ⟨x1, x2, x3, x4⟩ := h.ep p.edges[L.length] (List.getElem_mem hlt)
    have hwant : wantX p N L.length = ⟨p.edges[L.length].ty, N.getD p.edges[L.length].fr.toNat 0, N.getD p.edges[L.length].to.toNat 0⟩ := by simp [wantX, hlt]
    have hcand : ∀ i : Nat, candE33 p g x m N r L i = if (!decide ((i : Int) ∈ L) && (decide (g.edges.getD i default = wantX p N L.length) && atB x.edges m.edges L.length i)) = true then exE p g x m N r (L ++ [(i : Int)]) else [] := fun i => rfl
    rw [hwant] at hcand
    generalize p.edges[L.length] = e at *
    have y1 : e.fr.toNat < N.length := by omega
    have y2 : e.to.toNat < N.length := by omega
    have hlb : ∀ loc, lb nb box loc = lb nb (upd box k (some [fiRow p g x m out own])) loc := fun loc => by rw [← hself]
    rw [hlb]
    rw [exE_succ] at hroom ⊢
    refine AL.loopT (stFe p g x m N L e nb k box) (fun y => y.i ≤ g.edges.length ∧ y.out = out ++ (List.range y.i).flatMap (candE33 p g x m N r L) ∧ Adv tok nt own y.tok y.nt y.own) (fun y => g.edges.length - y.i)
      ⟨0, out, own, tok, nt⟩ ⟨Nat.zero_le _, by simp, Adv.refl hlive htok⟩ (Weaks.mk' (Nat.le_refl _) (by simp [ToL, lk]; exact to_ptr (by rw [lb_out hkn, upd_same]; simp)) (by simp [BoxL, lk]) (fiOk rfl)) ?_
    rintro ⟨i, out2, own2, tok2, nt2⟩ S ⟨hi, hout, hadv2⟩ hS
    simp only [stFe] at hS hi hout hadv2
    subst hS
    have hw : IntKind.i64.wrap (↑i + 1) = ((i + 1 : Nat) : Int) := by rw [wrap_in (by omega) (by omega)]; rfl
    have hsucc : (List.range (i + 1)).flatMap (candE33 p g x m N r L) = (List.range i).flatMap (candE33 p g x m N r L) ++ candE33 p g x m N r L i := by rw [List.range_succ, List.flatMap_append]; simp
    try (simp [lb_out hkn, upd_same])
    repeat ((repeat (first | refine AL.seq ?_ | refine AL.block ?_ | refine AL.skip ?_ | refine AL.blk ?_)); (refine AL.region follows_Tryz (Nat.le_refl _) (by kernel_rfl) ?_); simp [lb_out hkn, upd_same])
    repeat (first | refine AL.seq ?_ | refine AL.block ?_ | refine AL.skip ?_ | refine AL.blk ?_)
    refine AL.cond ?_
    simp
    refine ⟨fun hli => ?_, fun hge => ?_⟩
    · have hcand' := hcand i
      try (simp [lb_out hkn, upd_same])
      repeat ((repeat (first | refine AL.seq ?_ | refine AL.block ?_ | refine AL.skip ?_ | refine AL.blk ?_)); (refine AL.region follows_Tryz (Nat.le_refl _) (by kernel_rfl) ?_); simp [lb_out hkn, upd_same])
      refine Stop.of_d (used33_c L i (by omega) _ _) ?_
      simp [lb_out hkn, upd_same]
      have hgi : g.edges.getD i default = g.edges[i] := by simp [hli]
      have hNf : N.getD e.fr.toNat 0 = N[e.fr.toNat] := by simp [y1]
      have hNt : N.getD e.to.toNat 0 = N[e.to.toNat] := by simp [y2]
      rw [hgi, hNf, hNt] at hcand'
      by_cases hin : (i : Int) ∈ L
      · have hc0 : candE33 p g x m N r L i = [] := by rw [hcand', if_neg (by simp [hin])]
        simp [hin]
        try (simp [lb_out hkn, upd_same])
        repeat ((repeat (first | refine AL.seq ?_ | refine AL.block ?_ | refine AL.skip ?_ | refine AL.blk ?_)); (refine AL.region follows_Tryz (Nat.le_refl _) (by kernel_rfl) ?_); simp [lb_out hkn, upd_same])
        repeat (first | refine AL.seq ?_ | refine AL.block ?_ | refine AL.skip ?_ | refine AL.blk ?_)
        refine AL.cond ?_
        simp
        try (simp [hw])
        repeat ((repeat (first | refine AL.seq ?_ | refine AL.block ?_ | refine AL.skip ?_ | refine AL.blk ?_)); (refine AL.region follows_Tryz (Nat.le_refl _) (by kernel_rfl) ?_); simp [hw])
        repeat (first | refine AL.seq ?_ | refine AL.block ?_ | refine AL.skip ?_ | refine AL.blk ?_)
        refine AL.nil ?_
        refine ⟨⟨i + 1, out2, own2, tok2, nt2⟩, ⟨hli, by simp only; rw [hsucc, hc0, List.append_nil]; exact hout, hadv2⟩, by simp only; omega, Weaks.mk' hadv2.le (by simp [ToL, lk]; exact to_ptr (by rw [lb_out hkn, upd_same]; simp)) (by simp [BoxL, lk]) (fiOk rfl)⟩
      · simp [hin, lb_out hkn, upd_same, hli, x1, x3, y1, y2]
        simp only [E.eq_and3]
        refine ⟨by omega, by omega, ?_⟩
        by_cases hE : g.edges[i] = ⟨e.ty, N[e.fr.toNat], N[e.to.toNat]⟩
        · rw [decide_eq_true hE]
          have hat : atB x.edges m.edges L.length i = (decide (indexI x.edges L.length < 0) || decide (m.edges.getD (indexI x.edges L.length).toNat 0 = i)) := rfl
          have hidx : indexI x.edges L.length < 0 ∨ (0 ≤ indexI x.edges L.length ∧ (indexI x.edges L.length).toNat < m.edges.length ∧ indexI x.edges L.length < m.edges.length) := by
            rcases indexI_cases x.edges L.length with ⟨_, h1⟩ | ⟨j, hj, h1, _⟩
            · left; omega
            · right; have := h.le; rw [h1]; omega
          generalize hqe : indexI x.edges ↑L.length = q at *
          rcases hidx with hq | ⟨hq0, hq1, hq2⟩
          · have hbq : decide (q < 0) = true := decide_eq_true hq
            simp [hq]
            try (simp [lb_out hkn, upd_same, hq])
            repeat ((repeat (first | refine AL.seq ?_ | refine AL.block ?_ | refine AL.skip ?_ | refine AL.blk ?_)); (refine AL.region follows_Tryz (Nat.le_refl _) (by kernel_rfl) ?_); simp [lb_out hkn, upd_same, hq])
            have hc1 : candE33 p g x m N r L i = exE p g x m N r (L ++ [(i : Int)]) := by rw [hcand', if_pos (by simp [hin, hE, hat, hq])]
            repeat (first | refine AL.seq ?_ | refine AL.block ?_ | refine AL.skip ?_ | refine AL.blk ?_)
            refine AL.cond ?_
            simp
            try (simp [lb_out hkn, upd_same])
            repeat ((repeat (first | refine AL.seq ?_ | refine AL.block ?_ | refine AL.skip ?_ | refine AL.blk ?_)); (refine AL.region follows_Tryz (Nat.le_refl _) (by kernel_rfl) ?_); simp [lb_out hkn, upd_same])
            refine ⟨by omega, by omega, ?_⟩
            refine Stop.data ?_
            simp only [List.map, AV.asD]
            rw [rI_snoc]
            have had := Adv.fresh hadv2.live hadv2.lt
            have hlen := flat_le (candE33 p g x m N r L) (show i + 1 ≤ g.edges.length from hli)
            rw [hsucc, hc1, List.length_append] at hlen
            refine Stop.of_a (ih (L ++ [(i : Int)]) out2 own2 _ _ k _ _ (by simp; omega) (by rw [hout, List.length_append]; omega) (by simp only [lb_out hkn, upd_same]) had.live) ?_
            rintro v M ⟨rfl, own3, tok3, nt3, rfl, hadv⟩
            simp [upd_lb_out hkn, upd_upd]
            have had3 : Adv tok nt own tok3 nt3 own3 := hadv2.trans htok (had.trans hadv2.lt hadv)
            clear hadv had
            try (simp [hw])
            repeat ((repeat (first | refine AL.seq ?_ | refine AL.block ?_ | refine AL.skip ?_ | refine AL.blk ?_)); (refine AL.region follows_Tryz (Nat.le_refl _) (by kernel_rfl) ?_); simp [hw])
            repeat (first | refine AL.seq ?_ | refine AL.block ?_ | refine AL.skip ?_ | refine AL.blk ?_)
            refine AL.nil ?_
            refine ⟨⟨i + 1, out2 ++ exE p g x m N r (L ++ [(i : Int)]), own3, tok3, nt3⟩, ⟨hli, by simp only; rw [hsucc, hc1, hout, List.append_assoc], had3⟩, by simp only; omega, ?_⟩
            simp only [stFe]
            refine Weaks.mk' had3.le ?_ ?_ (fiOk rfl)
            · simp [ToL, lk, hqe]
              exact to_ptr (by rw [lb_out hkn, upd_same]; simp)
            · simp [BoxL, lk]
          · have hq : ¬ q < 0 := by omega
            have hmf : m.edges.getD q.toNat 0 = m.edges[q.toNat] := by simp [hq1]
            rw [hmf] at hat
            by_cases hm : m.edges[q.toNat] = (i : Int)
            · simp [hq, lb_out hkn, upd_same, hq0, hq1, hq2, hm]
              try (simp [lb_out hkn, upd_same, hq])
              repeat ((repeat (first | refine AL.seq ?_ | refine AL.block ?_ | refine AL.skip ?_ | refine AL.blk ?_)); (refine AL.region follows_Tryz (Nat.le_refl _) (by kernel_rfl) ?_); simp [lb_out hkn, upd_same, hq])
              have hc1 : candE33 p g x m N r L i = exE p g x m N r (L ++ [(i : Int)]) := by rw [hcand', if_pos (by simp [hin, hE, hat, hq, hm])]
              repeat (first | refine AL.seq ?_ | refine AL.block ?_ | refine AL.skip ?_ | refine AL.blk ?_)
              refine AL.cond ?_
              simp
              try (simp [lb_out hkn, upd_same])
              repeat ((repeat (first | refine AL.seq ?_ | refine AL.block ?_ | refine AL.skip ?_ | refine AL.blk ?_)); (refine AL.region follows_Tryz (Nat.le_refl _) (by kernel_rfl) ?_); simp [lb_out hkn, upd_same])
              refine ⟨by omega, by omega, ?_⟩
              refine Stop.data ?_
              simp only [List.map, AV.asD]
              rw [rI_snoc]
              have had := Adv.fresh hadv2.live hadv2.lt
              have hlen := flat_le (candE33 p g x m N r L) (show i + 1 ≤ g.edges.length from hli)
              rw [hsucc, hc1, List.length_append] at hlen
              refine Stop.of_a (ih (L ++ [(i : Int)]) out2 own2 _ _ k _ _ (by simp; omega) (by rw [hout, List.length_append]; omega) (by simp only [lb_out hkn, upd_same]) had.live) ?_
              rintro v M ⟨rfl, own3, tok3, nt3, rfl, hadv⟩
              simp [upd_lb_out hkn, upd_upd]
              have had3 : Adv tok nt own tok3 nt3 own3 := hadv2.trans htok (had.trans hadv2.lt hadv)
              clear hadv had
              try (simp [hw])
              repeat ((repeat (first | refine AL.seq ?_ | refine AL.block ?_ | refine AL.skip ?_ | refine AL.blk ?_)); (refine AL.region follows_Tryz (Nat.le_refl _) (by kernel_rfl) ?_); simp [hw])
              repeat (first | refine AL.seq ?_ | refine AL.block ?_ | refine AL.skip ?_ | refine AL.blk ?_)
              refine AL.nil ?_
              refine ⟨⟨i + 1, out2 ++ exE p g x m N r (L ++ [(i : Int)]), own3, tok3, nt3⟩, ⟨hli, by simp only; rw [hsucc, hc1, hout, List.append_assoc], had3⟩, by simp only; omega, ?_⟩
              simp only [stFe]
              refine Weaks.mk' had3.le ?_ ?_ (fiOk rfl)
              · simp [ToL, lk, hqe]
                exact to_ptr (by rw [lb_out hkn, upd_same]; simp)
              · simp [BoxL, lk]
            · have hc0 : candE33 p g x m N r L i = [] := by rw [hcand', if_neg (by simp [hat, hq, hm])]
              have hbm : (m.edges[q.toNat] == (i : Int)) = false := by simp [hm]
              simp [hq, lb_out hkn, upd_same, hq0, hq1, hq2, hbm]
              try (simp [lb_out hkn, upd_same, hq])
              repeat ((repeat (first | refine AL.seq ?_ | refine AL.block ?_ | refine AL.skip ?_ | refine AL.blk ?_)); (refine AL.region follows_Tryz (Nat.le_refl _) (by kernel_rfl) ?_); simp [lb_out hkn, upd_same, hq])
              repeat (first | refine AL.seq ?_ | refine AL.block ?_ | refine AL.skip ?_ | refine AL.blk ?_)
              refine AL.cond ?_
              simp
              try (simp [hw])
              repeat ((repeat (first | refine AL.seq ?_ | refine AL.block ?_ | refine AL.skip ?_ | refine AL.blk ?_)); (refine AL.region follows_Tryz (Nat.le_refl _) (by kernel_rfl) ?_); simp [hw])
              repeat (first | refine AL.seq ?_ | refine AL.block ?_ | refine AL.skip ?_ | refine AL.blk ?_)
              refine AL.nil ?_
              refine ⟨⟨i + 1, out2, own2, tok2, nt2⟩, ⟨hli, by simp only; rw [hsucc, hc0, List.append_nil]; exact hout, hadv2⟩, by simp only; omega, Weaks.mk' hadv2.le (by simp [ToL, lk, hqe]; exact to_ptr (by rw [lb_out hkn, upd_same]; simp)) (by simp [BoxL, lk]) (fiOk rfl)⟩
        · have hc0 : candE33 p g x m N r L i = [] := by rw [hcand', if_neg (by simp [hE])]
          rw [decide_eq_false hE]
          simp
          try (simp [lb_out hkn, upd_same])
          repeat ((repeat (first | refine AL.seq ?_ | refine AL.block ?_ | refine AL.skip ?_ | refine AL.blk ?_)); (refine AL.region follows_Tryz (Nat.le_refl _) (by kernel_rfl) ?_); simp [lb_out hkn, upd_same])
          repeat (first | refine AL.seq ?_ | refine AL.block ?_ | refine AL.skip ?_ | refine AL.blk ?_)
          refine AL.cond ?_
          simp
          try (simp [hw])
          repeat ((repeat (first | refine AL.seq ?_ | refine AL.block ?_ | refine AL.skip ?_ | refine AL.blk ?_)); (refine AL.region follows_Tryz (Nat.le_refl _) (by kernel_rfl) ?_); simp [hw])
          repeat (first | refine AL.seq ?_ | refine AL.block ?_ | refine AL.skip ?_ | refine AL.blk ?_)
          refine AL.nil ?_
          refine ⟨⟨i + 1, out2, own2, tok2, nt2⟩, ⟨hli, by simp only; rw [hsucc, hc0, List.append_nil]; exact hout, hadv2⟩, by simp only; omega, Weaks.mk' hadv2.le (by simp [ToL, lk]; exact to_ptr (by rw [lb_out hkn, upd_same]; simp)) (by simp [BoxL, lk]) (fiOk rfl)⟩
    · repeat (first | refine AL.seq ?_ | refine AL.block ?_ | refine AL.skip ?_ | refine AL.blk ?_)
      refine AL.exit ?_
      simp only [AU, ↓reduceIte]
      have hin : i = g.edges.length := by omega
      subst hin
      repeat (first | refine AL.seq ?_ | refine AL.block ?_ | refine AL.skip ?_ | refine AL.blk ?_)
      refine AL.nil ?_
      refine ⟨by simp, (Fin.gen (vs := []) (av := .tup []) (tok' := tok2) (nt' := nt2) (by simp [resAs, resA]) ?_ hadv2.le (Nat.le_refl _) (fun t h => ⟨h, .inl rfl⟩) (fiOk (by simp)) (by simp [packA])).mono fun v M hq => ⟨hq.1, own2, tok2, nt2, ?_, hadv2⟩⟩
      · rw [← upd_lb_out hkn, hbox]
      · rw [hq.2, hout]
end Go.AM
/-
  What the finder lists: the embeddings behind a map. Plain laws.
-/
namespace Go.AM
open Go Go.Proofs
set_option linter.unusedSimpArgs false
set_option linter.unusedVariables false

structure Ls (ok : Nat → Nat → Bool) (m r : Nat) (L L' : List Int) : Prop where
  len : L'.length = L.length + r
  pre : ∀ j, j < L.length → L'.getD j 0 = L.getD j 0
  new : ∀ j, L.length ≤ j → j < L'.length → ∃ k : Nat, L'.getD j 0 = k ∧ k < m ∧ ok j k = true ∧ ∀ i, i < j → L'.getD i 0 ≠ k
theorem lst_mem {β : Type} (ok : Nat → Nat → Bool) (m : Nat) (fin : List Int → List β) (y : β) : ∀ (r : Nat) (L : List Int), y ∈ lst ok m fin r L ↔ ∃ L', Ls ok m r L L' ∧ y ∈ fin L'
  | 0, L => by
    simp only [lst]
    constructor
    · intro h
      exact ⟨L, ⟨by omega, fun _ _ => rfl, fun j h1 h2 => by omega⟩, h⟩
    · rintro ⟨L', h, hy⟩
      have : L' = L := ext_getD (by have := h.len; omega) fun j hj => h.pre j (by have := h.len; omega)
      rwa [this] at hy
  | r + 1, L => by
    simp only [lst, List.mem_flatMap, List.mem_range]
    constructor
    · rintro ⟨k, hk, hy⟩
      split at hy
      · rename_i hc
        simp only [Bool.and_eq_true, Bool.not_eq_true', decide_eq_false_iff_not] at hc
        obtain ⟨L', h, hf⟩ := (lst_mem ok m fin y r (L ++ [(k : Int)])).1 hy
        have hl := h.len
        simp only [List.length_append, List.length_cons, List.length_nil] at hl
        have hpre : ∀ j, j < L.length → L'.getD j 0 = L.getD j 0 := fun j hj => by rw [h.pre j (by simp; omega), getD_lt hj]
        refine ⟨L', ⟨by omega, hpre, fun j h1 h2 => ?_⟩, hf⟩
        by_cases e : j = L.length
        · subst e
          refine ⟨k, by rw [h.pre _ (by simp), getD_at], hk, hc.2, fun i hi e2 => hc.1 ?_⟩
          rw [hpre i hi] at e2
          rw [← e2]
          exact getD_mem hi
        · exact h.new j (by simp; omega) h2
      · simp at hy
    · rintro ⟨L', h, hf⟩
      have hl := h.len
      obtain ⟨k, k1, k2, k3, k4⟩ := h.new L.length (Nat.le_refl _) (by omega)
      have hk : (k : Int) ∉ L := fun hm => by
        obtain ⟨j, hj, e⟩ := mem_getD hm
        exact k4 j hj (by rw [h.pre j hj, e])
      refine ⟨k, k2, ?_⟩
      rw [if_pos (by simp [hk, k3])]
      refine (lst_mem ok m fin y r (L ++ [(k : Int)])).2 ⟨L', ⟨by simp; omega, fun j hj => ?_, fun j h1 h2 => h.new j (by simp at h1; omega) h2⟩, hf⟩
      simp only [List.length_append, List.length_cons, List.length_nil] at hj
      by_cases e : j = L.length
      · subst e; rw [getD_at, k1]
      · rw [getD_lt (by omega)]; exact h.pre j (by omega)
theorem Ls.nodup {ok : Nat → Nat → Bool} {m r : Nat} {L' : List Int} (h : Ls ok m r [] L') : L'.Nodup := by
  rw [nodup_getD]
  intro i j hij hj e
  obtain ⟨k, k1, _, _, k4⟩ := h.new j (Nat.zero_le _) hj
  exact k4 i hij (by rw [e, k1])
theorem lst_len {β : Type} (ok : Nat → Nat → Bool) (m : Nat) (fin : List Int → List β) (B : Nat) (hB : ∀ L, (fin L).length ≤ B) : ∀ (r : Nat) (L : List Int), (lst ok m fin r L).length ≤ m ^ r * B
  | 0, L => by simp only [lst, Nat.pow_zero, Nat.one_mul]; exact hB L
  | r + 1, L => by
    simp only [lst]
    have := flatMap_le (fun (k : Nat) => if (!decide ((k : Int) ∈ L) && ok L.length k) = true then lst ok m fin r (L ++ [(k : Int)]) else []) (m ^ r * B) (fun k => by
      split
      · exact lst_len ok m fin B hB r _
      · simp) (List.range m)
    rw [List.length_range] at this
    rw [Nat.pow_succ, Nat.mul_comm (m ^ r) m, Nat.mul_assoc]
    exact this
theorem exE_len (p g : Gr) (x m : Mo) (N : List Int) (r : Nat) (L : List Int) : (exE p g x m N r L).length ≤ g.edges.length ^ r := by
  have := lst_len (okXE p g x m N) g.edges.length (fun E => [(⟨N, E⟩ : Mo)]) 1 (fun _ => by simp) r L
  rw [Nat.mul_one] at this
  exact this
theorem exN_len (p g : Gr) (x m : Mo) (r : Nat) (L : List Int) : (exN p g x m r L).length ≤ g.nodes.length ^ r * g.edges.length ^ p.edges.length :=
  lst_len _ _ _ _ (fun N => exE_len p g x m N _ _) r L

theorem atB_iff {by' of : List Int} {i k : Nat} : atB by' of i k = true ↔ ∀ j, j < by'.length → indexI by' i = j → of.getD j 0 = k := by
  simp only [atB, Bool.or_eq_true, decide_eq_true_eq]
  rcases indexI_cases by' i with ⟨_, h⟩ | ⟨j, hj, h, _⟩
  · rw [h]
    constructor
    · intro _ j _ e; omega
    · intro _; exact .inl (by omega)
  · rw [h]
    constructor
    · rintro (h1 | h1) q hq e
      · omega
      · have : q = j := by omega
        subst this
        rwa [Int.toNat_natCast] at h1
    · intro h1
      exact .inr (by rw [Int.toNat_natCast]; exact h1 j hj rfl)

theorem exts_iff {a p g : Gr} {x m : Mo} (hx : Emb a p x) (hm : Emb a g m) (q : Mo) : q ∈ exts p g x m ↔ Emb p g q ∧ thenM x q = m := by
  have v := hx.vm
  have w := hm.vm
  have atN : ∀ i, i < a.nodes.length → indexI x.nodes (x.nodes.getD i 0) = i := fun i hi => indexI_at hx.n (by rw [v.ln]; exact hi)
  have atE : ∀ i, i < a.edges.length → indexI x.edges (x.edges.getD i 0) = i := fun i hi => indexI_at hx.e (by rw [v.le]; exact hi)
  unfold exts exN
  rw [lst_mem]
  constructor
  · rintro ⟨N, hN, hq⟩
    unfold exE at hq
    rw [lst_mem] at hq
    obtain ⟨E', hE, hq⟩ := hq
    rw [List.mem_singleton] at hq
    subst hq
    have lN : N.length = p.nodes.length := by simpa using hN.len
    have lE : E'.length = p.edges.length := by simpa using hE.len
    have on : ∀ i, i < a.nodes.length → N.getD (x.nodes.getD i 0).toNat 0 = m.nodes.getD i 0 := fun i hi => by
      have hxi := nat_of (v.n _ (getD_mem (d := 0) (show i < x.nodes.length by rw [v.ln]; exact hi)))
      obtain ⟨k, k1, k2, k3, _⟩ := hN.new _ (Nat.zero_le _) (by rw [lN]; exact hxi.1)
      have h3 := (Bool.and_eq_true _ _ ▸ k3).2
      rw [atB_iff, hxi.2] at h3
      rw [k1, h3 i (by rw [v.ln]; exact hi) (atN i hi)]
    have oe : ∀ i, i < a.edges.length → E'.getD (x.edges.getD i 0).toNat 0 = m.edges.getD i 0 := fun i hi => by
      have hxi := nat_of (v.e _ (getD_mem (d := 0) (show i < x.edges.length by rw [v.le]; exact hi)))
      obtain ⟨k, k1, k2, k3, _⟩ := hE.new _ (Nat.zero_le _) (by rw [lE]; exact hxi.1)
      have h3 := (Bool.and_eq_true _ _ ▸ k3).2
      rw [atB_iff, hxi.2] at h3
      rw [k1, h3 i (by rw [v.le]; exact hi) (atE i hi)]
    refine ⟨⟨validM_of ⟨v.vb, w.vb, lN, lE, fun y hy => ?_, fun y hy => ?_, fun j hj => ?_, fun j hj => ?_⟩, hN.nodup, hE.nodup⟩, ?_⟩
    · obtain ⟨j, hj, rfl⟩ := mem_getD hy
      obtain ⟨k, k1, k2, _⟩ := hN.new j (Nat.zero_le _) hj
      rw [k1]; omega
    · obtain ⟨j, hj, rfl⟩ := mem_getD hy
      obtain ⟨k, k1, k2, _⟩ := hE.new j (Nat.zero_le _) hj
      rw [k1]; omega
    · obtain ⟨k, k1, k2, k3, _⟩ := hN.new j (Nat.zero_le _) (by rw [lN]; exact hj)
      simp only
      rw [k1, Int.toNat_natCast]
      exact of_decide_eq_true (Bool.and_eq_true _ _ ▸ k3).1
    · obtain ⟨k, k1, k2, k3, _⟩ := hE.new j (Nat.zero_le _) (by rw [lE]; exact hj)
      simp only
      rw [k1, Int.toNat_natCast]
      exact of_decide_eq_true (Bool.and_eq_true _ _ ▸ k3).1
    · simp only [thenM]
      rw [byK_ext (t := m.nodes) (by rw [v.ln, w.ln]) (fun i hi => on i (by rw [← v.ln]; exact hi)), byK_ext (t := m.edges) (by rw [v.le, w.le]) (fun i hi => oe i (by rw [← v.le]; exact hi))]
  · rintro ⟨hq, he⟩
    have u := hq.vm
    have qn : ∀ i, i < x.nodes.length → q.nodes.getD (x.nodes.getD i 0).toNat 0 = m.nodes.getD i 0 := fun i hi => by rw [← he]; exact (byK_getD hi).symm
    have qe : ∀ i, i < x.edges.length → q.edges.getD (x.edges.getD i 0).toNat 0 = m.edges.getD i 0 := fun i hi => by rw [← he]; exact (byK_getD hi).symm
    have at1 : ∀ (by' of t : List Int) (j : Nat), (∀ i, i < by'.length → t.getD (by'.getD i 0).toNat 0 = of.getD i 0) → 0 ≤ t.getD j 0 → atB by' of j (t.getD j 0).toNat = true := fun by' of t j h h0 => by
      rw [atB_iff]
      intro i hi e
      rcases indexI_cases by' j with ⟨_, h1⟩ | ⟨i', hi', h1, h2⟩
      · omega
      · have : i' = i := by omega
        subst this
        have := h i' hi'
        rw [h2, Int.toNat_natCast] at this
        omega
    refine ⟨q.nodes, ⟨by simpa using u.ln, fun j hj => by simp at hj, fun j _ hj => ?_⟩, ?_⟩
    · have h1 := u.n _ (getD_mem (d := 0) hj)
      refine ⟨_, (nat_of h1).2.symm, (nat_of h1).1, ?_, fun i hi e => ?_⟩
      · unfold okXN
        rw [Bool.and_eq_true]
        exact ⟨decide_eq_true (u.nt j (by rw [← u.ln]; exact hj)), at1 _ _ _ j qn h1.1⟩
      · rw [(nat_of h1).2] at e
        exact nodup_getD.1 hq.n i j hi hj e
    · unfold exE
      rw [lst_mem]
      refine ⟨q.edges, ⟨by simpa using u.le, fun j hj => by simp at hj, fun j _ hj => ?_⟩, by simp⟩
      have h1 := u.e _ (getD_mem (d := 0) hj)
      refine ⟨_, (nat_of h1).2.symm, (nat_of h1).1, ?_, fun i hi e => ?_⟩
      · unfold okXE
        rw [Bool.and_eq_true]
        exact ⟨decide_eq_true (u.et j (by rw [← u.le]; exact hj)), at1 _ _ _ j qe h1.1⟩
      · rw [(nat_of h1).2] at e
        exact nodup_getD.1 hq.e i j hi hj e
end Go.AM
