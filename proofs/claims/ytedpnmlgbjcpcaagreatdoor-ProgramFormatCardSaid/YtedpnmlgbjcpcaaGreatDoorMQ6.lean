/-
  Parts of the proof, as merged from many texts: a machine over data, what the functions compute, plain laws.
-/
import Derived.Test.YtedpnmlgbjcpcaaGreatDoorMQ5
import Derived.Lib.IndexAny
set_option linter.unusedSimpArgs false
set_option linter.unusedVariables false
namespace Go.AM
open Go Go.Proofs
abbrev Pr.row (q : Pr) : List AV := [Sb q.name, I q.body.kind, Sb q.body.name, I q.body.num, .d (cms q.body.kids)]
abbrev Pr.av (q : Pr) : AV := .agg q.row
abbrev eD : D := .sl 0 []
abbrev zD : D := .raw (.int .i64 0)
abbrev ruleT : List D := [eD, eD, eD, zD, eD, eD, eD, eD, zD, eD, eD, eD, eD, eD, .raw (.bool false), zD, eD, eD, eD, eD, eD, eD, zD, eD]
abbrev ruleRow (s : ByteArray) : List D := .raw (.string s) :: ruleT
abbrev rules46 (l : List ByteArray) : D := .sl 25 (l.map ruleRow)
abbrev ruleAv (s : ByteArray) : AV := .agg (.d (.raw (.string s)) :: ruleT.map .d)
def stIP (xs : List Pr) (f : FuncId) (caps : List AV) (nb : Nat) (box : Nat → Option (List (List AV))) (tok : Nat → Bool) (nt : Nat) (i : Nat) : AState := ⟨tl [(0, .d (prs xs)), (1, .fn (.func f) caps), (7, I xs.length), (8, I i)], lb nb box [], tok, nt⟩
theorem indexFuncP_c (xs : List Pr) (f : FuncId) (caps : List AV) (p : Pr → Bool) (hx : xs.length ≤ 200000000000000) (box : Nat → Option (List (List AV))) (nb : Nat) (tok : Nat → Bool) (nt : Nat) (hc : ∀ c ∈ caps, OkIn (fun k => box k ≠ none) (fun _ => True) c)
    (hf : ∀ x ∈ xs, ∀ box' nb', Ext box box' → ACalls Tryz.prog f (x.av :: caps) ⟨box', nb', tok, nt⟩ fun v m => v = B (p x) ∧ m = ⟨box', nb', tok, nt⟩) :
    ACalls Tryz.prog 92 [.d (prs xs), .fn (.func f) caps] ⟨box, nb, tok, nt⟩ fun v m => v = I (if anyB p xs = true then (xs.findIdx p : Nat) else -1) ∧ m = ⟨box, nb, tok, nt⟩ := by
  refine sB Tryz.func92 Tryz.ntmps92 ?_
  intro hbox htok
  simp only at hbox htok
  apply AL.start
  try (simp)
  repeat (refine sR ?_; simp)
  refine sN ?_
  refine AL.loopT (stIP xs f caps nb box tok nt) (fun i => i ≤ xs.length ∧ ∀ x ∈ xs.take i, p x = false) (fun i => xs.length - i) 0 ⟨Nat.zero_le _, by simp⟩ (Weaks.mk (Nat.le_refl _) rfl (by simp [ToL]; exact .same (okFn hc hbox [] (by simp) rfl _)) trivial) ?_
  rintro i S ⟨hi, htk⟩ hS
  simp only [stIP] at hS
  subst hS
  have hw := sW (i := i) (by omega)
  try (simp)
  repeat (refine sR ?_; simp)
  refine sC ?_
  simp
  refine ⟨fun hlt => ?_, fun hge => ?_⟩
  · have hfx := hf xs[i] (List.getElem_mem _)
    have hpx : p xs[i] = true → anyB p xs = true ∧ (xs.findIdx p = i) := fun he => any_takeG hlt htk he
    have hmore : p xs[i] = false → ∀ x ∈ xs.take (i + 1), p x = false := fun he x hx => by
      rw [List.take_succ_eq_append_getElem hlt] at hx
      rcases List.mem_append.1 hx with hx | hx
      · exact htk x hx
      · simp at hx; rw [hx]; exact he
    try (simp [hlt])
    repeat (refine sR ?_; simp [hlt])
    generalize xs[i] = x at *
    refine Stop.of_b (hfx _ _ ((Ext.refl box).lb hbox [])) ?_
    simp
    cases he : p x
    · refine sC ?_
      simp
      try (simp [hw])
      repeat (refine sR ?_; simp [hw])
      refine sE ?_
      refine ⟨i + 1, ⟨hlt, ?_⟩, by omega, Weaks.mk (Nat.le_refl _) rfl (by simp [ToL]; exact .same (okFn hc hbox [] (by simp) rfl _)) trivial⟩
      exact hmore he
    · obtain ⟨h1, h2⟩ := hpx he
      refine sC ?_
      simp
      try (simp)
      repeat (refine sR ?_; simp)
      refine sT ?_
      try simp only [AU]
      refine ⟨by simp, sF hbox htok (fun _ h => h) (Nat.le_refl _) ?_⟩
      simp [packA, h1, h2]
  · refine sX ?_
    simp only [AU, ↓reduceIte]
    try (simp)
    repeat (refine sR ?_; simp)
    have hn : anyB p xs = false := by
      rw [List.take_of_length_le hge] at htk
      simpa [anyB] using htk
    refine sT ?_
    try simp only [AU]
    refine ⟨by simp, sF hbox htok (fun _ h => h) (Nat.le_refl _) ?_⟩
    simp [packA, hn]
theorem place1_c (q : Pr) (s : ByteArray) (box : Nat → Option (List (List AV))) (nb k : Nat) (tok : Nat → Bool) (nt : Nat) (h : box k = some [[Sb s]]) :
    ACalls Tryz.prog 93 [q.av, .ptr k 0 0] ⟨box, nb, tok, nt⟩ fun v m => v = B (decide (q.name = s)) ∧ m = ⟨box, nb, tok, nt⟩ := by
  refine sB Tryz.func93 Tryz.ntmps93 ?_
  intro hbox htok
  simp only at hbox htok
  apply AL.start
  have kn := key_lt hbox h
  have e := seq_dec q.name s
  try (simp [lb_out kn, h])
  repeat (refine sR ?_; simp [lb_out kn, h])
  refine sT ?_
  try simp only [AU]
  refine ⟨by simp, sF hbox htok (fun _ h => h) (Nat.le_refl _) ?_⟩
  simp [packA, e]
theorem placeP_c (p : List Pr) (s : ByteArray) (hx : p.length ≤ 200000000000000) (tok : Nat → Bool) (nt : Nat) : DCall Tryz.prog 56 [prsAv p, Sb s] tok nt (I (placeR p s)) tok nt := by
  intro box nb
  refine sB Tryz.func56 Tryz.ntmps56 ?_
  intro hbox htok
  simp only at hbox htok
  apply AL.start
  try (simp)
  repeat (refine sR ?_; simp)
  refine Stop.of_b (indexFuncP_c p 93 _ (fun q => decide (q.name = s)) hx _ _ _ _ (by simp [lb_at]) (fun x hx' box' nb' he => place1_c x s box' nb' _ tok nt (he _ _ (by simp [lb_at, lk])))) ?_
  simp
  try (simp)
  repeat (refine sR ?_; simp)
  refine sT ?_
  try simp only [AU]
  refine ⟨by simp, sF hbox htok (fun _ h => h) (Nat.le_refl _) ?_⟩
  simp [packA, placeR, hasP, anyB]
def stIM (xs : List Cm) (f : FuncId) (caps : List AV) (nb : Nat) (box : Nat → Option (List (List AV))) (tok : Nat → Bool) (nt : Nat) (i : Nat) : AState := ⟨tl [(0, .d (cms xs)), (1, .fn (.func f) caps), (7, I xs.length), (8, I i)], lb nb box [], tok, nt⟩
theorem indexFuncM_c (xs : List Cm) (f : FuncId) (caps : List AV) (p : Cm → Bool) (hx : xs.length ≤ 200000000000000) (box : Nat → Option (List (List AV))) (nb : Nat) (tok : Nat → Bool) (nt : Nat) (hc : ∀ c ∈ caps, OkIn (fun k => box k ≠ none) (fun _ => True) c)
    (hf : ∀ x ∈ xs, ∀ box' nb', Ext box box' → ACalls Tryz.prog f (x.av :: caps) ⟨box', nb', tok, nt⟩ fun v m => v = B (p x) ∧ m = ⟨box', nb', tok, nt⟩) :
    ACalls Tryz.prog 163 [.d (cms xs), .fn (.func f) caps] ⟨box, nb, tok, nt⟩ fun v m => v = I (if anyB p xs = true then (xs.findIdx p : Nat) else -1) ∧ m = ⟨box, nb, tok, nt⟩ := by
  refine sB Tryz.func163 Tryz.ntmps163 ?_
  intro hbox htok
  simp only at hbox htok
  apply AL.start
  try (simp)
  repeat (refine sR ?_; simp)
  refine sN ?_
  refine AL.loopT (stIM xs f caps nb box tok nt) (fun i => i ≤ xs.length ∧ ∀ x ∈ xs.take i, p x = false) (fun i => xs.length - i) 0 ⟨Nat.zero_le _, by simp⟩ (Weaks.mk (Nat.le_refl _) rfl (by simp [ToL]; exact .same (okFn hc hbox [] (by simp) rfl _)) trivial) ?_
  rintro i S ⟨hi, htk⟩ hS
  simp only [stIM] at hS
  subst hS
  have hw := sW (i := i) (by omega)
  try (simp)
  repeat (refine sR ?_; simp)
  refine sC ?_
  simp
  refine ⟨fun hlt => ?_, fun hge => ?_⟩
  · have hfx := hf xs[i] (List.getElem_mem _)
    have hpx : p xs[i] = true → anyB p xs = true ∧ (xs.findIdx p = i) := fun he => any_takeG hlt htk he
    have hmore : p xs[i] = false → ∀ x ∈ xs.take (i + 1), p x = false := fun he x hx => by
      rw [List.take_succ_eq_append_getElem hlt] at hx
      rcases List.mem_append.1 hx with hx | hx
      · exact htk x hx
      · simp at hx; rw [hx]; exact he
    try (simp [hlt, Cm.cells_eq])
    repeat (refine sR ?_; simp [hlt, Cm.cells_eq])
    generalize xs[i] = x at *
    refine Stop.of_b (hfx _ _ ((Ext.refl box).lb hbox [])) ?_
    simp
    cases he : p x
    · refine sC ?_
      simp
      try (simp [hw])
      repeat (refine sR ?_; simp [hw])
      refine sE ?_
      refine ⟨i + 1, ⟨hlt, ?_⟩, by omega, Weaks.mk (Nat.le_refl _) rfl (by simp [ToL]; exact .same (okFn hc hbox [] (by simp) rfl _)) trivial⟩
      exact hmore he
    · obtain ⟨h1, h2⟩ := hpx he
      refine sC ?_
      simp
      try (simp)
      repeat (refine sR ?_; simp)
      refine sT ?_
      try simp only [AU]
      refine ⟨by simp, sF hbox htok (fun _ h => h) (Nat.le_refl _) ?_⟩
      simp [packA, h1, h2]
  · refine sX ?_
    simp only [AU, ↓reduceIte]
    try (simp)
    repeat (refine sR ?_; simp)
    have hn : anyB p xs = false := by
      rw [List.take_of_length_le hge] at htk
      simpa [anyB] using htk
    refine sT ?_
    try simp only [AU]
    refine ⟨by simp, sF hbox htok (fun _ h => h) (Nat.le_refl _) ?_⟩
    simp [packA, hn]
theorem containsFuncM_c (xs : List Cm) (f : FuncId) (caps : List AV) (p : Cm → Bool) (hx : xs.length ≤ 200000000000000) (box : Nat → Option (List (List AV))) (nb : Nat) (tok : Nat → Bool) (nt : Nat) (hc : ∀ c ∈ caps, OkIn (fun k => box k ≠ none) (fun _ => True) c)
    (hf : ∀ x ∈ xs, ∀ box' nb', Ext box box' → ACalls Tryz.prog f (x.av :: caps) ⟨box', nb', tok, nt⟩ fun v m => v = B (p x) ∧ m = ⟨box', nb', tok, nt⟩) :
    ACalls Tryz.prog 157 [.d (cms xs), .fn (.func f) caps] ⟨box, nb, tok, nt⟩ fun v m => v = B (anyB p xs) ∧ m = ⟨box, nb, tok, nt⟩ := by
  refine sB Tryz.func157 Tryz.ntmps157 ?_
  intro hbox htok
  simp only at hbox htok
  apply AL.start
  try (simp)
  repeat (refine sR ?_; simp)
  refine Stop.of_b (indexFuncM_c xs f caps p hx (lb nb box []) _ _ _ (fun c h => (hc c h).mono (fun k hk => by rw [hbox]; exact hk) fun _ h => h) (fun x hx' box' nb' he => hf x hx' box' nb' (by rw [hbox] at he; exact he))) ?_
  simp
  cases hany : anyB p xs
  · try (simp)
    repeat (refine sR ?_; simp)
    refine sT ?_
    try simp only [AU]
    refine ⟨by simp, sF hbox htok (fun _ h => h) (Nat.le_refl _) ?_⟩
    simp [packA]
  · have h0 : (0 : Int) ≤ (xs.findIdx p : Nat) := by omega
    try (simp)
    repeat (refine sR ?_; simp)
    refine sT ?_
    try simp only [AU]
    refine ⟨by simp, sF hbox htok (fun _ h => h) (Nat.le_refl _) ?_⟩
    simp [packA, h0]
theorem formed1_c (q : Cm) (tok : Nat → Bool) (nt : Nat) : DCall Tryz.prog 158 [q.av] tok nt (B (q.kind == 2)) tok nt := by
  intro box nb
  refine sB Tryz.func158 Tryz.ntmps158 ?_
  intro hbox htok
  simp only at hbox htok
  apply AL.start
  try (simp)
  repeat (refine sR ?_; simp)
  refine sT ?_
  try simp only [AU]
  refine ⟨by simp, sF hbox htok (fun _ h => h) (Nat.le_refl _) ?_⟩
  simp [packA]
def stIR (xs : List ByteArray) (f : FuncId) (caps : List AV) (nb : Nat) (box : Nat → Option (List (List AV))) (tok : Nat → Bool) (nt : Nat) (i : Nat) : AState := ⟨tl [(0, .d (rules46 xs)), (1, .fn (.func f) caps), (7, I xs.length), (8, I i)], lb nb box [], tok, nt⟩
theorem indexFuncR_c (xs : List ByteArray) (f : FuncId) (caps : List AV) (p : ByteArray → Bool) (hx : xs.length ≤ 200000000000000) (box : Nat → Option (List (List AV))) (nb : Nat) (tok : Nat → Bool) (nt : Nat) (hc : ∀ c ∈ caps, OkIn (fun k => box k ≠ none) (fun _ => True) c)
    (hf : ∀ x ∈ xs, ∀ box' nb', Ext box box' → ACalls Tryz.prog f (ruleAv x :: caps) ⟨box', nb', tok, nt⟩ fun v m => v = B (p x) ∧ m = ⟨box', nb', tok, nt⟩) :
    ACalls Tryz.prog 159 [.d (rules46 xs), .fn (.func f) caps] ⟨box, nb, tok, nt⟩ fun v m => v = I (if anyB p xs = true then (xs.findIdx p : Nat) else -1) ∧ m = ⟨box, nb, tok, nt⟩ := by
  refine sB Tryz.func159 Tryz.ntmps159 ?_
  intro hbox htok
  simp only at hbox htok
  apply AL.start
  try (simp)
  repeat (refine sR ?_; simp)
  refine sN ?_
  refine AL.loopT (stIR xs f caps nb box tok nt) (fun i => i ≤ xs.length ∧ ∀ x ∈ xs.take i, p x = false) (fun i => xs.length - i) 0 ⟨Nat.zero_le _, by simp⟩ (Weaks.mk (Nat.le_refl _) rfl (by simp [ToL]; exact .same (okFn hc hbox [] (by simp) rfl _)) trivial) ?_
  rintro i S ⟨hi, htk⟩ hS
  simp only [stIR] at hS
  subst hS
  have hw := sW (i := i) (by omega)
  try (simp)
  repeat (refine sR ?_; simp)
  refine sC ?_
  simp
  refine ⟨fun hlt => ?_, fun hge => ?_⟩
  · have hfx := hf xs[i] (List.getElem_mem _)
    have hpx : p xs[i] = true → anyB p xs = true ∧ (xs.findIdx p = i) := fun he => any_takeG hlt htk he
    have hmore : p xs[i] = false → ∀ x ∈ xs.take (i + 1), p x = false := fun he x hx => by
      rw [List.take_succ_eq_append_getElem hlt] at hx
      rcases List.mem_append.1 hx with hx | hx
      · exact htk x hx
      · simp at hx; rw [hx]; exact he
    try (simp [hlt])
    repeat (refine sR ?_; simp [hlt])
    generalize xs[i] = x at *
    refine Stop.of_b (hfx _ _ ((Ext.refl box).lb hbox [])) ?_
    simp
    cases he : p x
    · refine sC ?_
      simp
      try (simp [hw])
      repeat (refine sR ?_; simp [hw])
      refine sE ?_
      refine ⟨i + 1, ⟨hlt, ?_⟩, by omega, Weaks.mk (Nat.le_refl _) rfl (by simp [ToL]; exact .same (okFn hc hbox [] (by simp) rfl _)) trivial⟩
      exact hmore he
    · obtain ⟨h1, h2⟩ := hpx he
      refine sC ?_
      simp
      try (simp)
      repeat (refine sR ?_; simp)
      refine sT ?_
      try simp only [AU]
      refine ⟨by simp, sF hbox htok (fun _ h => h) (Nat.le_refl _) ?_⟩
      simp [packA, h1, h2]
  · refine sX ?_
    simp only [AU, ↓reduceIte]
    try (simp)
    repeat (refine sR ?_; simp)
    have hn : anyB p xs = false := by
      rw [List.take_of_length_le hge] at htk
      simpa [anyB] using htk
    refine sT ?_
    try simp only [AU]
    refine ⟨by simp, sF hbox htok (fun _ h => h) (Nat.le_refl _) ?_⟩
    simp [packA, hn]
theorem containsFuncR_c (xs : List ByteArray) (f : FuncId) (caps : List AV) (p : ByteArray → Bool) (hx : xs.length ≤ 200000000000000) (box : Nat → Option (List (List AV))) (nb : Nat) (tok : Nat → Bool) (nt : Nat) (hc : ∀ c ∈ caps, OkIn (fun k => box k ≠ none) (fun _ => True) c)
    (hf : ∀ x ∈ xs, ∀ box' nb', Ext box box' → ACalls Tryz.prog f (ruleAv x :: caps) ⟨box', nb', tok, nt⟩ fun v m => v = B (p x) ∧ m = ⟨box', nb', tok, nt⟩) :
    ACalls Tryz.prog 147 [.d (rules46 xs), .fn (.func f) caps] ⟨box, nb, tok, nt⟩ fun v m => v = B (anyB p xs) ∧ m = ⟨box, nb, tok, nt⟩ := by
  refine sB Tryz.func147 Tryz.ntmps147 ?_
  intro hbox htok
  simp only at hbox htok
  apply AL.start
  try (simp)
  repeat (refine sR ?_; simp)
  refine Stop.of_b (indexFuncR_c xs f caps p hx (lb nb box []) _ _ _ (fun c h => (hc c h).mono (fun k hk => by rw [hbox]; exact hk) fun _ h => h) (fun x hx' box' nb' he => hf x hx' box' nb' (by rw [hbox] at he; exact he))) ?_
  simp
  cases hany : anyB p xs
  · try (simp)
    repeat (refine sR ?_; simp)
    refine sT ?_
    try simp only [AU]
    refine ⟨by simp, sF hbox htok (fun _ h => h) (Nat.le_refl _) ?_⟩
    simp [packA]
  · have h0 : (0 : Int) ≤ (xs.findIdx p : Nat) := by omega
    try (simp)
    repeat (refine sR ?_; simp)
    refine sT ?_
    try simp only [AU]
    refine ⟨by simp, sF hbox htok (fun _ h => h) (Nat.le_refl _) ?_⟩
    simp [packA, h0]
theorem own1_c (r : ByteArray) (c : Cm) (box : Nat → Option (List (List AV))) (nb k : Nat) (tok : Nat → Bool) (nt : Nat) (h : box k = some [c.row]) :
    ACalls Tryz.prog 148 [ruleAv r, .ptr k 0 0] ⟨box, nb, tok, nt⟩ fun v m => v = B (decide (c.name = r)) ∧ m = ⟨box, nb, tok, nt⟩ := by
  refine sB Tryz.func148 Tryz.ntmps148 ?_
  intro hbox htok
  simp only at hbox htok
  apply AL.start
  have kn := key_lt hbox h
  have e := seq_dec r c.name
  have e2 : decide (r = c.name) = decide (c.name = r) := by rw [Bool.eq_iff_iff, decide_eq_true_eq, decide_eq_true_eq]; exact eq_comm
  rw [e2] at e
  try (simp [lb_out kn, h])
  repeat (refine sR ?_; simp [lb_out kn, h])
  refine sT ?_
  try simp only [AU]
  refine ⟨by simp, sF hbox htok (fun _ h => h) (Nat.le_refl _) ?_⟩
  simp [packA, e]
end Go.AM
namespace Go.AM
open Go Go.Proofs
def lenB (c : Cm) : Bool :=
  if c.kind = 2 ∨ c.kind = 3 then decide (2 ≤ c.kids.length) else if c.kind = 4 then decide (c.kids.length = 3)
   else if c.kind = 5 ∨ c.kind = 6 ∨ c.kind = 7 then decide (c.kids.length = 1) else if c.kind = 1 ∨ c.kind = 8 ∨ c.kind = 9 ∨ c.kind = 10 then decide (c.kids.length = 0) else false
theorem okB_len (c : Cm) : okB c = (lenB c && !(decide (c.kind = 2) && c.kids.any fun k => k.kind == 2) && (decide (c.kind = 1 ∨ c.kind = 10) || decide (c.name = ⟨#[]⟩)) && (decide (c.kind = 6) || decide (c.num = 0))) := by
  unfold okB lenB
  congr 2
  by_cases h2 : c.kind = 2
  · simp [h2]
  · by_cases h3 : c.kind = 3
    · simp [h3]
    · simp [h2, h3]
theorem name_nil {s : ByteArray} : s.toList = [] ↔ s = ⟨#[]⟩ := by
  have h := seq_iff (a := s) (b := ⟨#[]⟩)
  simpa using h
structure I2 where
  a : Int
  b : Int
def stFo (c : Cm) (nb : Nat) (box : Nat → Option (List (List AV))) (tok : Nat → Bool) (nt : Nat) (a : I2) : AState := ⟨tl [(1, .ptr (nb + 1) 0 0), (3, I a.a), (4, I a.b)], lb nb box [(1, [c.row])], tok, nt⟩
set_option maxRecDepth 100000 in
theorem formed_c (c : Cm) (hl : c.kids.length ≤ 200000000000000) (tok : Nat → Bool) (nt : Nat) : DCall Tryz.prog 146 [c.av] tok nt (B (okB c)) tok nt := by
  intro box nb
  have hk : c.kind = 2 ∨ c.kind = 3 ∨ c.kind = 4 ∨ c.kind = 5 ∨ c.kind = 6 ∨ c.kind = 7 ∨ c.kind = 1 ∨ c.kind = 8 ∨ c.kind = 9 ∨ c.kind = 10 ∨ (c.kind ≠ 2 ∧ c.kind ≠ 3 ∧ c.kind ≠ 4 ∧ c.kind ≠ 5 ∧ c.kind ≠ 6 ∧ c.kind ≠ 7 ∧ c.kind ≠ 1 ∧ c.kind ≠ 8 ∧ c.kind ≠ 9 ∧ c.kind ≠ 10) := by omega
  have hok := okB_len c
  refine sB Tryz.func146 Tryz.ntmps146 ?_
  intro hbox htok
  simp only at hbox htok
  apply AL.start
  try (simp)
  repeat (refine sR ?_; simp)
  refine AL.cut (l := [_, _, _]) (stFo c nb box tok nt) (fun a => lenB c = (decide (a.a ≤ (c.kids.length : Int)) && decide ((c.kids.length : Int) ≤ a.b))) ?_ ?_
  · rcases hk with hk | hk | hk | hk | hk | hk | hk | hk | hk | hk | hk
    · try (simp [hk])
      repeat (first | (refine sR ?_; simp [hk]) | (refine sC ?_; simp [hk]) | (refine sX ?_; simp only [AU, ↓reduceIte]))
      refine sE ?_
      exact ⟨⟨2, c.kids.length⟩, by simp only [lenB, hk]; rw [Bool.eq_iff_iff]; simp; omega, Weaks.mk (Nat.le_refl _) rfl (by simp [ToL, lk]) (by simp [BoxL, lk])⟩
    · try (simp [hk])
      repeat (first | (refine sR ?_; simp [hk]) | (refine sC ?_; simp [hk]) | (refine sX ?_; simp only [AU, ↓reduceIte]))
      refine sE ?_
      exact ⟨⟨2, c.kids.length⟩, by simp only [lenB, hk]; rw [Bool.eq_iff_iff]; simp; omega, Weaks.mk (Nat.le_refl _) rfl (by simp [ToL, lk]) (by simp [BoxL, lk])⟩
    · try (simp [hk])
      repeat (first | (refine sR ?_; simp [hk]) | (refine sC ?_; simp [hk]) | (refine sX ?_; simp only [AU, ↓reduceIte]))
      refine sE ?_
      exact ⟨⟨3, 3⟩, by simp only [lenB, hk]; rw [Bool.eq_iff_iff]; simp; omega, Weaks.mk (Nat.le_refl _) rfl (by simp [ToL, lk]) (by simp [BoxL, lk])⟩
    · try (simp [hk])
      repeat (first | (refine sR ?_; simp [hk]) | (refine sC ?_; simp [hk]) | (refine sX ?_; simp only [AU, ↓reduceIte]))
      refine sE ?_
      exact ⟨⟨1, 1⟩, by simp only [lenB, hk]; rw [Bool.eq_iff_iff]; simp; omega, Weaks.mk (Nat.le_refl _) rfl (by simp [ToL, lk]) (by simp [BoxL, lk])⟩
    · try (simp [hk])
      repeat (first | (refine sR ?_; simp [hk]) | (refine sC ?_; simp [hk]) | (refine sX ?_; simp only [AU, ↓reduceIte]))
      refine sE ?_
      exact ⟨⟨1, 1⟩, by simp only [lenB, hk]; rw [Bool.eq_iff_iff]; simp; omega, Weaks.mk (Nat.le_refl _) rfl (by simp [ToL, lk]) (by simp [BoxL, lk])⟩
    · try (simp [hk])
      repeat (first | (refine sR ?_; simp [hk]) | (refine sC ?_; simp [hk]) | (refine sX ?_; simp only [AU, ↓reduceIte]))
      refine sE ?_
      exact ⟨⟨1, 1⟩, by simp only [lenB, hk]; rw [Bool.eq_iff_iff]; simp; omega, Weaks.mk (Nat.le_refl _) rfl (by simp [ToL, lk]) (by simp [BoxL, lk])⟩
    · try (simp [hk])
      repeat (first | (refine sR ?_; simp [hk]) | (refine sC ?_; simp [hk]) | (refine sX ?_; simp only [AU, ↓reduceIte]))
      refine sE ?_
      exact ⟨⟨0, 0⟩, by simp only [lenB, hk]; rw [Bool.eq_iff_iff]; simp, Weaks.mk (Nat.le_refl _) rfl (by simp [ToL, lk]) (by simp [BoxL, lk])⟩
    · try (simp [hk])
      repeat (first | (refine sR ?_; simp [hk]) | (refine sC ?_; simp [hk]) | (refine sX ?_; simp only [AU, ↓reduceIte]))
      refine sE ?_
      exact ⟨⟨0, 0⟩, by simp only [lenB, hk]; rw [Bool.eq_iff_iff]; simp, Weaks.mk (Nat.le_refl _) rfl (by simp [ToL, lk]) (by simp [BoxL, lk])⟩
    · try (simp [hk])
      repeat (first | (refine sR ?_; simp [hk]) | (refine sC ?_; simp [hk]) | (refine sX ?_; simp only [AU, ↓reduceIte]))
      refine sE ?_
      exact ⟨⟨0, 0⟩, by simp only [lenB, hk]; rw [Bool.eq_iff_iff]; simp, Weaks.mk (Nat.le_refl _) rfl (by simp [ToL, lk]) (by simp [BoxL, lk])⟩
    · try (simp [hk])
      repeat (first | (refine sR ?_; simp [hk]) | (refine sC ?_; simp [hk]) | (refine sX ?_; simp only [AU, ↓reduceIte]))
      refine sE ?_
      exact ⟨⟨0, 0⟩, by simp only [lenB, hk]; rw [Bool.eq_iff_iff]; simp, Weaks.mk (Nat.le_refl _) rfl (by simp [ToL, lk]) (by simp [BoxL, lk])⟩
    · have hn : okB c = false := by rw [hok]; simp [lenB, hk]
      have b1 : (c.kind == 2) = false := by simp [hk]
      have b2 : (c.kind == 3) = false := by simp [hk]
      have b3 : (c.kind == 4) = false := by simp [hk]
      have b4 : (c.kind == 5) = false := by simp [hk]
      have b5 : (c.kind == 6) = false := by simp [hk]
      have b6 : (c.kind == 7) = false := by simp [hk]
      have b7 : (c.kind == 1) = false := by simp [hk]
      have b8 : (c.kind == 8) = false := by simp [hk]
      have b9 : (c.kind == 9) = false := by simp [hk]
      have b10 : (c.kind == 10) = false := by simp [hk]
      rw [hn]
      simp only [b1]
      try (simp [b2, b3, b4, b5, b6, b7, b8, b9, b10])
      repeat (first | (refine sR ?_; simp [b2, b3, b4, b5, b6, b7, b8, b9, b10]) | (refine sC ?_; simp [b2, b3, b4, b5, b6, b7, b8, b9, b10]) | (refine sX ?_; simp only [AU, ↓reduceIte]))
      refine sT ?_
      try simp only [AU]
      refine ⟨by simp, sF hbox htok (fun _ h => h) (Nat.le_refl _) ?_⟩
      simp [packA]
  · rintro ⟨a, b⟩ hab
    simp only at hab
    simp only [stFo]
    have hx := fun tok nt => containsFuncM_c c.kids 158 [] (fun k => k.kind == 2) hl (lb nb box [(1, [c.row])]) (nb + 69) tok nt (by simp) (fun x _ box' nb' _ => formed1_c x tok nt box' nb')
    by_cases h1 : (c.kids.length : Int) < a
    · have hn : okB c = false := by rw [hok, hab]; simp; omega
      rw [hn]
      try (simp [h1])
      repeat (first | (refine sR ?_; simp [h1]) | (refine sC ?_; simp [h1]) | (refine sX ?_; simp only [AU, ↓reduceIte]))
      refine sT ?_
      try simp only [AU]
      refine ⟨by simp, sF hbox htok (fun _ h => h) (Nat.le_refl _) ?_⟩
      simp [packA]
    · by_cases h2 : b < (c.kids.length : Int)
      · have hn : okB c = false := by rw [hok, hab]; simp; omega
        rw [hn]
        try (simp [h1, h2])
        repeat (first | (refine sR ?_; simp [h1, h2]) | (refine sC ?_; simp [h1, h2]) | (refine sX ?_; simp only [AU, ↓reduceIte]))
        refine sT ?_
        try simp only [AU]
        refine ⟨by simp, sF hbox htok (fun _ h => h) (Nat.le_refl _) ?_⟩
        simp [packA]
      · have hlt : lenB c = true := by rw [hab]; simp; omega
        rw [hlt] at hok
        by_cases k2 : c.kind = 2
        · try (simp [h1, h2, k2])
          repeat (first | (refine sR ?_; simp [h1, h2, k2]) | (refine sC ?_; simp [h1, h2, k2]) | (refine sX ?_; simp only [AU, ↓reduceIte]))
          refine Stop.of_b (hx _ _) ?_
          simp
          cases ha : anyB (fun k : Cm => k.kind == 2) c.kids
          · have ha' : (c.kids.any fun k => k.kind == 2) = false := ha
            by_cases hs : c.name = ⟨#[]⟩
            · have hs' := name_nil.2 hs
              by_cases hn : c.num = 0
              · try (simp [k2, hs', hn])
                repeat (first | (refine sR ?_; simp [k2, hs', hn]) | (refine sC ?_; simp [k2, hs', hn]) | (refine sX ?_; simp only [AU, ↓reduceIte]))
                refine sT ?_
                try simp only [AU]
                refine ⟨by simp, sF hbox htok (fun _ h => h) (Nat.le_refl _) ?_⟩
                simp [packA, hok, k2, ha', hs, hn]
              · have hn' : (c.num == 0) = false := by simp [hn]
                try (simp [k2, hs', hn'])
                repeat (first | (refine sR ?_; simp [k2, hs', hn']) | (refine sC ?_; simp [k2, hs', hn']) | (refine sX ?_; simp only [AU, ↓reduceIte]))
                refine sT ?_
                try simp only [AU]
                refine ⟨by simp, sF hbox htok (fun _ h => h) (Nat.le_refl _) ?_⟩
                simp [packA, hok, k2, ha', hs, hn]
            · have hs' : c.name.toList.isEmpty = false := by simpa using fun h => hs (name_nil.1 h)
              try (simp [k2, hs'])
              repeat (first | (refine sR ?_; simp [k2, hs']) | (refine sC ?_; simp [k2, hs']) | (refine sX ?_; simp only [AU, ↓reduceIte]))
              refine sT ?_
              try simp only [AU]
              refine ⟨by simp, sF hbox htok (fun _ h => h) (Nat.le_refl _) ?_⟩
              simp [packA, hok, k2, ha', hs]
          · have ha' : (c.kids.any fun k => k.kind == 2) = true := ha
            try (simp)
            repeat (first | (refine sR ?_; simp) | (refine sC ?_; simp) | (refine sX ?_; simp only [AU, ↓reduceIte]))
            refine sT ?_
            try simp only [AU]
            refine ⟨by simp, sF hbox htok (fun _ h => h) (Nat.le_refl _) ?_⟩
            simp [packA, hok, k2, ha']
        · have b2 : (c.kind == 2) = false := by simp [k2]
          by_cases k1 : c.kind = 1
          · by_cases hn : c.num = 0
            · try (simp [h1, h2, b2, k1, hn])
              repeat (first | (refine sR ?_; simp [h1, h2, b2, k1, hn]) | (refine sC ?_; simp [h1, h2, b2, k1, hn]) | (refine sX ?_; simp only [AU, ↓reduceIte]))
              refine sT ?_
              try simp only [AU]
              refine ⟨by simp, sF hbox htok (fun _ h => h) (Nat.le_refl _) ?_⟩
              simp [packA, hok, k2, k1, hn]
            · have hn' : (c.num == 0) = false := by simp [hn]
              try (simp [h1, h2, b2, k1, hn'])
              repeat (first | (refine sR ?_; simp [h1, h2, b2, k1, hn']) | (refine sC ?_; simp [h1, h2, b2, k1, hn']) | (refine sX ?_; simp only [AU, ↓reduceIte]))
              refine sT ?_
              try simp only [AU]
              refine ⟨by simp, sF hbox htok (fun _ h => h) (Nat.le_refl _) ?_⟩
              simp [packA, hok, k2, k1, hn]
          · have b1 : (c.kind == 1) = false := by simp [k1]
            by_cases k10 : c.kind = 10
            · by_cases hn : c.num = 0
              · try (simp [h1, h2, b2, k10, hn])
                repeat (first | (refine sR ?_; simp [h1, h2, b2, k10, hn]) | (refine sC ?_; simp [h1, h2, b2, k10, hn]) | (refine sX ?_; simp only [AU, ↓reduceIte]))
                refine sT ?_
                try simp only [AU]
                refine ⟨by simp, sF hbox htok (fun _ h => h) (Nat.le_refl _) ?_⟩
                simp [packA, hok, k2, k10, hn]
              · have hn' : (c.num == 0) = false := by simp [hn]
                try (simp [h1, h2, b2, k10, hn'])
                repeat (first | (refine sR ?_; simp [h1, h2, b2, k10, hn']) | (refine sC ?_; simp [h1, h2, b2, k10, hn']) | (refine sX ?_; simp only [AU, ↓reduceIte]))
                refine sT ?_
                try simp only [AU]
                refine ⟨by simp, sF hbox htok (fun _ h => h) (Nat.le_refl _) ?_⟩
                simp [packA, hok, k2, k10, hn]
            · have b10 : (c.kind == 10) = false := by simp [k10]
              by_cases hs : c.name = ⟨#[]⟩
              · have hs' := name_nil.2 hs
                by_cases k6 : c.kind = 6
                · try (simp [h1, h2, k6, hs'])
                  repeat (first | (refine sR ?_; simp [h1, h2, k6, hs']) | (refine sC ?_; simp [h1, h2, k6, hs']) | (refine sX ?_; simp only [AU, ↓reduceIte]))
                  refine sT ?_
                  try simp only [AU]
                  refine ⟨by simp, sF hbox htok (fun _ h => h) (Nat.le_refl _) ?_⟩
                  simp [packA, hok, k6, hs]
                · have b6 : (c.kind == 6) = false := by simp [k6]
                  by_cases hn : c.num = 0
                  · try (simp [h1, h2, b2, b1, b10, b6, hs', hn])
                    repeat (first | (refine sR ?_; simp [h1, h2, b2, b1, b10, b6, hs', hn]) | (refine sC ?_; simp [h1, h2, b2, b1, b10, b6, hs', hn]) | (refine sX ?_; simp only [AU, ↓reduceIte]))
                    refine sT ?_
                    try simp only [AU]
                    refine ⟨by simp, sF hbox htok (fun _ h => h) (Nat.le_refl _) ?_⟩
                    simp [packA, hok, k2, k1, k10, k6, hs, hn]
                  · have hn' : (c.num == 0) = false := by simp [hn]
                    try (simp [h1, h2, b2, b1, b10, b6, hs', hn'])
                    repeat (first | (refine sR ?_; simp [h1, h2, b2, b1, b10, b6, hs', hn']) | (refine sC ?_; simp [h1, h2, b2, b1, b10, b6, hs', hn']) | (refine sX ?_; simp only [AU, ↓reduceIte]))
                    refine sT ?_
                    try simp only [AU]
                    refine ⟨by simp, sF hbox htok (fun _ h => h) (Nat.le_refl _) ?_⟩
                    simp [packA, hok, k2, k1, k10, k6, hs, hn]
              · have hs' : c.name.toList.isEmpty = false := by simpa using fun h => hs (name_nil.1 h)
                try (simp [h1, h2, b2, b1, b10, hs'])
                repeat (first | (refine sR ?_; simp [h1, h2, b2, b1, b10, hs']) | (refine sC ?_; simp [h1, h2, b2, b1, b10, hs']) | (refine sX ?_; simp only [AU, ↓reduceIte]))
                refine sT ?_
                try simp only [AU]
                refine ⟨by simp, sF hbox htok (fun _ h => h) (Nat.le_refl _) ?_⟩
                simp [packA, hok, k1, k10, hs]
end Go.AM
namespace Go.AM
open Go Go.Proofs
inductive Cm.Sm : Cm → Prop
  | mk {c : Cm} (hn : c.name.size ≤ 200000000000000) (hk : c.kids.length ≤ 200000000000000) (h : ∀ x ∈ c.kids, Cm.Sm x) : Cm.Sm c
theorem Cm.Sm.name {c : Cm} (h : c.Sm) : c.name.size ≤ 200000000000000 := by cases h; assumption
theorem Cm.Sm.len {c : Cm} (h : c.Sm) : c.kids.length ≤ 200000000000000 := by cases h; assumption
theorem Cm.Sm.kid {c : Cm} (h : c.Sm) : ∀ x ∈ c.kids, Cm.Sm x := by cases h; assumption
abbrev ckAv (p : List Pr) (rs : List ByteArray) (asked : Bool) (at' : Nat) : AV := .agg [.d (prs p), .d (rules46 rs), B asked, I at']
set_option maxRecDepth 100000 in
theorem own_c (c : Cm) (p : List Pr) (rs : List ByteArray) (asked : Bool) (at' : Nat) (hc : c.Sm) (hp : p.length ≤ 200000000000000) (hr : rs.length ≤ 200000000000000) (tok : Nat → Bool) (nt : Nat) :
    DCall Tryz.prog 112 [ckAv p rs asked at', c.av] tok nt (I (ownE p rs asked at' c)) tok nt := by
  intro box nb
  have hf := formed_c c hc.len
  have hnm := isName_c c.name hc.name
  have hpl := placeP_c p c.name hp
  have hcf := fun nb box tok nt => containsFuncR_c rs 148 [.ptr (nb + 3) 0 0] (fun r => decide (c.name = r)) hr (lb nb box [(3, [c.row]), (2, [[.d (prs p), .d (rules46 rs), B asked, I at']])]) (nb + 53) tok nt (by simp [lb_at])
    (fun x _ box' nb' he => own1_c x c box' nb' _ tok nt (he _ _ (by simp [lb_at, lk])))
  obtain ⟨N, hN⟩ : ∃ N, ownE p rs asked at' c = N := ⟨_, rfl⟩
  rw [hN]
  unfold ownE at hN
  refine sB Tryz.func112 Tryz.ntmps112 ?_
  intro hbox htok
  simp only at hbox htok
  apply AL.start
  try (simp)
  repeat (refine sR ?_; simp)
  refine Stop.of_d (hf _ _) ?_
  simp
  cases e1 : okB c
  · rw [if_pos e1] at hN
    try (simp)
    repeat (first | (refine sR ?_; simp) | (refine sC ?_; simp) | (refine sX ?_; simp only [AU, ↓reduceIte]))
    refine sT ?_
    try simp only [AU]
    refine ⟨by simp, sF hbox htok (fun _ h => h) (Nat.le_refl _) ?_⟩
    simp [packA, ← hN]
  · rw [if_neg (by simp [e1])] at hN
    try (simp)
    repeat (first | (refine sR ?_; simp) | (refine sC ?_; simp) | (refine sX ?_; simp only [AU, ↓reduceIte]))
    by_cases k1 : c.kind = 1
    · rw [if_pos k1] at hN
      try (simp [k1])
      repeat (first | (refine sR ?_; simp [k1]) | (refine sC ?_; simp [k1]) | (refine sX ?_; simp only [AU, ↓reduceIte]))
      refine Stop.of_d (hnm _ _) ?_
      simp
      cases e2 : nameB c.name
      · rw [if_pos e2] at hN
        try (simp)
        repeat (first | (refine sR ?_; simp) | (refine sC ?_; simp) | (refine sX ?_; simp only [AU, ↓reduceIte]))
        refine sT ?_
        try simp only [AU]
        refine ⟨by simp, sF hbox htok (fun _ h => h) (Nat.le_refl _) ?_⟩
        simp [packA, ← hN]
      · rw [if_neg (by simp [e2])] at hN
        cases asked
        · rw [if_neg (by simp)] at hN
          try (simp)
          repeat (first | (refine sR ?_; simp) | (refine sC ?_; simp) | (refine sX ?_; simp only [AU, ↓reduceIte]))
          refine sT ?_
          try simp only [AU]
          refine ⟨by simp, sF hbox htok (fun _ h => h) (Nat.le_refl _) ?_⟩
          simp [packA, ← hN]
        · try (simp)
          repeat (first | (refine sR ?_; simp) | (refine sC ?_; simp) | (refine sX ?_; simp only [AU, ↓reduceIte]))
          refine Stop.of_b (hcf nb box tok nt) ?_
          simp
          have hm : anyB (fun r => decide (c.name = r)) rs = memS rs c.name := rfl
          cases e3 : memS rs c.name
          · rw [e3] at hm hN
            rw [if_pos (by simp)] at hN
            try (simp [hm])
            repeat (first | (refine sR ?_; simp [hm]) | (refine sC ?_; simp [hm]) | (refine sX ?_; simp only [AU, ↓reduceIte]))
            refine sT ?_
            try simp only [AU]
            refine ⟨by simp, sF hbox htok (fun _ h => h) (Nat.le_refl _) ?_⟩
            simp [packA, ← hN]
          · rw [e3] at hm hN
            rw [if_neg (by simp)] at hN
            try (simp [hm])
            repeat (first | (refine sR ?_; simp [hm]) | (refine sC ?_; simp [hm]) | (refine sX ?_; simp only [AU, ↓reduceIte]))
            refine sT ?_
            try simp only [AU]
            refine ⟨by simp, sF hbox htok (fun _ h => h) (Nat.le_refl _) ?_⟩
            simp [packA, ← hN]
    · rw [if_neg k1] at hN
      have b1 : (c.kind == 1) = false := by simp [k1]
      by_cases k10 : c.kind = 10
      · rw [if_pos k10] at hN
        try (simp [k10])
        repeat (first | (refine sR ?_; simp [k10]) | (refine sC ?_; simp [k10]) | (refine sX ?_; simp only [AU, ↓reduceIte]))
        refine Stop.of_d (hnm _ _) ?_
        simp
        cases e2 : nameB c.name
        · rw [if_pos e2] at hN
          try (simp)
          repeat (first | (refine sR ?_; simp) | (refine sC ?_; simp) | (refine sX ?_; simp only [AU, ↓reduceIte]))
          refine sT ?_
          try simp only [AU]
          refine ⟨by simp, sF hbox htok (fun _ h => h) (Nat.le_refl _) ?_⟩
          simp [packA, ← hN]
        · rw [if_neg (by simp [e2])] at hN
          try (simp)
          repeat (first | (refine sR ?_; simp) | (refine sC ?_; simp) | (refine sX ?_; simp only [AU, ↓reduceIte]))
          refine Stop.of_d (hpl _ _) ?_
          simp
          generalize placeR p c.name = k at *
          by_cases e3 : k < 0
          · rw [if_pos e3] at hN
            try (simp [e3])
            repeat (first | (refine sR ?_; simp [e3]) | (refine sC ?_; simp [e3]) | (refine sX ?_; simp only [AU, ↓reduceIte]))
            refine sT ?_
            try simp only [AU]
            refine ⟨by simp, sF hbox htok (fun _ h => h) (Nat.le_refl _) ?_⟩
            simp [packA, ← hN]
          · rw [if_neg e3] at hN
            by_cases e4 : (at' : Int) ≤ k
            · rw [if_pos e4] at hN
              try (simp [e3, e4])
              repeat (first | (refine sR ?_; simp [e3, e4]) | (refine sC ?_; simp [e3, e4]) | (refine sX ?_; simp only [AU, ↓reduceIte]))
              refine sT ?_
              try simp only [AU]
              refine ⟨by simp, sF hbox htok (fun _ h => h) (Nat.le_refl _) ?_⟩
              simp [packA, ← hN]
            · rw [if_neg e4] at hN
              try (simp [e3, e4])
              repeat (first | (refine sR ?_; simp [e3, e4]) | (refine sC ?_; simp [e3, e4]) | (refine sX ?_; simp only [AU, ↓reduceIte]))
              refine sT ?_
              try simp only [AU]
              refine ⟨by simp, sF hbox htok (fun _ h => h) (Nat.le_refl _) ?_⟩
              simp [packA, ← hN]
      · rw [if_neg k10] at hN
        have b10 : (c.kind == 10) = false := by simp [k10]
        by_cases k6 : c.kind = 6
        · rw [if_pos k6] at hN
          by_cases e3 : c.num < 1
          · rw [if_neg (by omega)] at hN
            try (simp [k6, e3])
            repeat (first | (refine sR ?_; simp [k6, e3]) | (refine sC ?_; simp [k6, e3]) | (refine sX ?_; simp only [AU, ↓reduceIte]))
            refine sT ?_
            try simp only [AU]
            refine ⟨by simp, sF hbox htok (fun _ h => h) (Nat.le_refl _) ?_⟩
            simp [packA, ← hN]
          · by_cases e4 : 9 < c.num
            · rw [if_neg (by omega)] at hN
              try (simp [k6, e3, e4])
              repeat (first | (refine sR ?_; simp [k6, e3, e4]) | (refine sC ?_; simp [k6, e3, e4]) | (refine sX ?_; simp only [AU, ↓reduceIte]))
              refine sT ?_
              try simp only [AU]
              refine ⟨by simp, sF hbox htok (fun _ h => h) (Nat.le_refl _) ?_⟩
              simp [packA, ← hN]
            · rw [if_pos (by omega)] at hN
              try (simp [k6, e3, e4])
              repeat (first | (refine sR ?_; simp [k6, e3, e4]) | (refine sC ?_; simp [k6, e3, e4]) | (refine sX ?_; simp only [AU, ↓reduceIte]))
              refine sT ?_
              try simp only [AU]
              refine ⟨by simp, sF hbox htok (fun _ h => h) (Nat.le_refl _) ?_⟩
              simp [packA, ← hN]
        · rw [if_neg k6] at hN
          have b6 : (c.kind == 6) = false := by simp [k6]
          try (simp [k1, b1, b10, b6])
          repeat (first | (refine sR ?_; simp [k1, b1, b10, b6]) | (refine sC ?_; simp [k1, b1, b10, b6]) | (refine sX ?_; simp only [AU, ↓reduceIte]))
          refine sT ?_
          try simp only [AU]
          refine ⟨by simp, sF hbox htok (fun _ h => h) (Nat.le_refl _) ?_⟩
          simp [packA, ← hN]
def stCo (c : Cm) (p : List Pr) (rs : List ByteArray) (asked : Bool) (at' : Nat) (nb : Nat) (box : Nat → Option (List (List AV))) (tok : Nat → Bool) (nt : Nat) (i : Nat) : AState :=
  ⟨tl [(16, .d (cms c.kids)), (17, I c.kids.length), (18, I i), (3, .ptr (nb + 3) 0 0), (2, .ptr (nb + 2) 0 0)], lb nb box [(3, [c.row]), (2, [[.d (prs p), .d (rules46 rs), B asked, I at']])], tok, nt⟩
set_option maxRecDepth 100000 in
theorem command_c (p : List Pr) (rs : List ByteArray) (asked : Bool) (at' : Nat) (hp : p.length ≤ 200000000000000) (hr : rs.length ≤ 200000000000000) : ∀ (n : Nat) (c : Cm), c.size < n → c.Sm → ∀ (tok : Nat → Bool) (nt : Nat),
    DCall Tryz.prog 75 [ckAv p rs asked at', c.av] tok nt (I (cmdE p rs asked at' c)) tok nt
  | 0, c, hn, _, tok, nt => absurd hn (Nat.not_lt_zero _)
  | n + 1, c, hn, hc, tok, nt => by
    intro box nb
    have ih := fun x (hx : x ∈ c.kids) => command_c p rs asked at' hp hr n x (by have := Cm.kid_size hx; omega) (hc.kid x hx)
    have ho := own_c c p rs asked at' hc hp hr
    have hl := hc.len
    have hN := cmdE_eq p rs asked at' c
    refine sB Tryz.func75 Tryz.ntmps75 ?_
    intro hbox htok
    simp only at hbox htok
    apply AL.start
    try (simp)
    repeat (refine sR ?_; simp)
    refine Stop.of_d (ho _ _) ?_
    simp
    by_cases e1 : ownE p rs asked at' c = 0
    · have b1 : (ownE p rs asked at' c != 0) = false := by simp [e1]
      rw [if_neg (by simp [e1])] at hN
      try (simp [b1])
      repeat (first | (refine sR ?_; simp [b1]) | (refine sC ?_; simp [b1]) | (refine sX ?_; simp only [AU, ↓reduceIte]))
      refine sN ?_
      refine AL.loopT (stCo c p rs asked at' nb box tok nt) (fun i => i ≤ c.kids.length ∧ ∀ x ∈ c.kids.take i, cmdE p rs asked at' x = 0) (fun i => c.kids.length - i) 0 ⟨Nat.zero_le _, by simp⟩ (Weaks.mk (Nat.le_refl _) rfl (by simp [ToL, lk]) (by simp [BoxL, lk])) ?_
      rintro i S ⟨hi, htk⟩ hS
      simp only [stCo] at hS
      subst hS
      have hw := sW (i := i) (by omega)
      try (simp)
      repeat (refine sR ?_; simp)
      refine sC ?_
      simp
      refine ⟨fun hlt => ?_, fun hge => ?_⟩
      · have ihx := ih _ (List.getElem_mem hlt)
        have hst := cmdEL_take (p := p) (rs := rs) (asked := asked) (at' := at') hlt htk
        have hmore : cmdE p rs asked at' c.kids[i] = 0 → ∀ x ∈ c.kids.take (i + 1), cmdE p rs asked at' x = 0 := fun he x hx => by
          rw [List.take_succ_eq_append_getElem hlt] at hx
          rcases List.mem_append.1 hx with hx | hx
          · exact htk x hx
          · simp at hx; rw [hx]; exact he
        try (simp [hlt, Cm.cells_eq])
        repeat (refine sR ?_; simp [hlt, Cm.cells_eq])
        generalize c.kids[i] = x at *
        try (simp)
        repeat (refine sR ?_; simp)
        refine Stop.of_d (ihx _ _) ?_
        simp
        by_cases e2 : cmdE p rs asked at' x = 0
        · have b2 : (cmdE p rs asked at' x != 0) = false := by simp [e2]
          try (simp [b2, hw])
          repeat (first | (refine sR ?_; simp [b2, hw]) | (refine sC ?_; simp [b2, hw]) | (refine sX ?_; simp only [AU, ↓reduceIte]))
          refine sE ?_
          exact ⟨i + 1, ⟨hlt, hmore e2⟩, by omega, Weaks.mk (Nat.le_refl _) rfl (by simp [ToL, lk]) (by simp [BoxL, lk])⟩
        · have b2 : (cmdE p rs asked at' x != 0) = true := by simp [e2]
          try (simp [b2])
          repeat (first | (refine sR ?_; simp [b2]) | (refine sC ?_; simp [b2]) | (refine sX ?_; simp only [AU, ↓reduceIte]))
          refine sT ?_
          try simp only [AU]
          refine ⟨by simp, sF hbox htok (fun _ h => h) (Nat.le_refl _) ?_⟩
          simp [packA, hN, hst e2]
      · refine sX ?_
        simp only [AU, ↓reduceIte]
        have : i = c.kids.length := by omega
        subst this
        rw [List.take_length] at htk
        have h0 := cmdEL_none htk
        try (simp)
        repeat (refine sR ?_; simp)
        refine sT ?_
        try simp only [AU]
        refine ⟨by simp, sF hbox htok (fun _ h => h) (Nat.le_refl _) ?_⟩
        simp [packA, hN, h0]
    · have b1 : (ownE p rs asked at' c != 0) = true := by simp [e1]
      rw [if_pos e1] at hN
      try (simp [b1])
      repeat (first | (refine sR ?_; simp [b1]) | (refine sC ?_; simp [b1]) | (refine sX ?_; simp only [AU, ↓reduceIte]))
      refine sT ?_
      try simp only [AU]
      refine ⟨by simp, sF hbox htok (fun _ h => h) (Nat.le_refl _) ?_⟩
      simp [packA, hN]
structure PrsOk (p : List Pr) : Prop where
  len : p.length ≤ 200000000000000
  nm : ∀ q ∈ p, q.name.size ≤ 200000000000000
  bd : ∀ q ∈ p, q.body.Sm
  sz : ∀ q ∈ p, q.body.size ≤ 1000000
def stFa (p : List Pr) (rs : List ByteArray) (asked : Bool) (nb : Nat) (box : Nat → Option (List (List AV))) (tok : Nat → Bool) (nt : Nat) (i : Nat) : AState :=
  ⟨tl [(22, .d (prs p)), (23, I p.length), (24, I i), (3, .ptr (nb + 3) 0 0), (1, .d (rules46 rs)), (2, B asked)], lb nb box [(3, [[.d (prs p)]])], tok, nt⟩
set_option maxRecDepth 100000 in
theorem fault_c (p : List Pr) (rs : List ByteArray) (asked : Bool) (hp : PrsOk p) (hr : rs.length ≤ 200000000000000) (tok : Nat → Bool) (nt : Nat) :
    DCall Tryz.prog 39 [prsAv p, .d (rules46 rs), B asked] tok nt (.tup [I (faultR p rs asked).1, I (faultR p rs asked).2]) tok nt := by
  intro box nb
  have hpl := hp.len
  obtain ⟨N, hN⟩ : ∃ N, faultR p rs asked = N := ⟨_, rfl⟩
  rw [hN]
  unfold faultR at hN
  refine sB Tryz.func39 Tryz.ntmps39 ?_
  intro hbox htok
  simp only at hbox htok
  apply AL.start
  try (simp)
  repeat (refine sR ?_; simp)
  by_cases e1 : p.length = 0
  · rw [if_pos e1] at hN
    try (simp [e1])
    repeat (first | (refine sR ?_; simp [e1]) | (refine sC ?_; simp [e1]) | (refine sX ?_; simp only [AU, ↓reduceIte]))
    refine sT ?_
    try simp only [AU]
    refine ⟨by simp, sF hbox htok (fun _ h => h) (Nat.le_refl _) ?_⟩
    simp [packA, ← hN]
  · rw [if_neg e1] at hN
    have b1 : ((p.length : Int) == 0) = false := by rw [beq_eq_false_iff_ne]; omega
    by_cases e2 : 20 < p.length
    · rw [if_pos e2] at hN
      have e2' : (20 : Int) < p.length := by omega
      try (simp [b1, e2'])
      repeat (first | (refine sR ?_; simp [b1, e2']) | (refine sC ?_; simp [b1, e2']) | (refine sX ?_; simp only [AU, ↓reduceIte]))
      refine sT ?_
      try simp only [AU]
      refine ⟨by simp, sF hbox htok (fun _ h => h) (Nat.le_refl _) ?_⟩
      simp [packA, ← hN]
    · rw [if_neg e2] at hN
      have e2' : ¬ (20 : Int) < p.length := by omega
      simp only [b1]
      try (simp [e2'])
      repeat (first | (refine sR ?_; simp [e2']) | (refine sC ?_; simp [e2']) | (refine sX ?_; simp only [AU, ↓reduceIte]))
      refine sN ?_
      refine AL.loopT (stFa p rs asked nb box tok nt) (fun i => i ≤ p.length ∧ faultL p rs asked (p.drop i) i = N) (fun i => p.length - i) 0 ⟨Nat.zero_le _, by rw [List.drop_zero]; exact hN⟩ (Weaks.mk (Nat.le_refl _) rfl (by simp [ToL, lk]) (by simp [BoxL, lk])) ?_
      rintro i S ⟨hi, hf⟩ hS
      simp only [stFa] at hS
      subst hS
      have hw := sW (i := i) (by omega)
      try (simp)
      repeat (refine sR ?_; simp)
      refine sC ?_
      simp
      refine ⟨fun hlt => ?_, fun hge => ?_⟩
      · have hm := List.getElem_mem hlt
        have h1 := isName_c p[i].name (hp.nm _ hm)
        have h2 := placeP_c p p[i].name hpl
        have h3 := measureP_c _ p[i].body (Nat.lt_succ_self _) (hp.sz _ hm)
        have h4 := command_c p rs asked i hpl hr _ p[i].body (Nat.lt_succ_self _) (hp.bd _ hm)
        rw [faultL_drop p rs asked hlt] at hf
        obtain ⟨pe, hpe⟩ : ∃ pe, prE p rs asked i p[i] = pe := ⟨_, rfl⟩
        rw [hpe] at hf
        have hE := hpe
        unfold prE at hE
        try (simp [hlt])
        repeat (refine sR ?_; simp [hlt])
        generalize p[i] = q at *
        try (simp)
        repeat (refine sR ?_; simp)
        refine Stop.of_d (h1 _ _) ?_
        simp
        cases e3 : nameB q.name
        · rw [if_pos e3] at hE
          rw [← hE, if_pos (by decide)] at hf
          try (simp)
          repeat (first | (refine sR ?_; simp) | (refine sC ?_; simp) | (refine sX ?_; simp only [AU, ↓reduceIte]))
          refine sT ?_
          try simp only [AU]
          refine ⟨by simp, sF hbox htok (fun _ h => h) (Nat.le_refl _) ?_⟩
          simp [packA, ← hf]
        · rw [if_neg (by simp [e3])] at hE
          try (simp)
          repeat (first | (refine sR ?_; simp) | (refine sC ?_; simp) | (refine sX ?_; simp only [AU, ↓reduceIte]))
          refine Stop.of_d (h2 _ _) ?_
          simp
          by_cases e4 : placeR p q.name < i
          · rw [if_pos e4] at hE
            rw [← hE, if_pos (by decide)] at hf
            try (simp [e4])
            repeat (first | (refine sR ?_; simp [e4]) | (refine sC ?_; simp [e4]) | (refine sX ?_; simp only [AU, ↓reduceIte]))
            refine sT ?_
            try simp only [AU]
            refine ⟨by simp, sF hbox htok (fun _ h => h) (Nat.le_refl _) ?_⟩
            simp [packA, ← hf]
          · rw [if_neg e4] at hE
            try (simp [e4])
            repeat (first | (refine sR ?_; simp [e4]) | (refine sC ?_; simp [e4]) | (refine sX ?_; simp only [AU, ↓reduceIte]))
            refine Stop.of_d (h3 _ _) ?_
            simp
            by_cases e5 : 60 < q.body.size
            · rw [if_pos (.inl e5)] at hE
              rw [← hE, if_pos (by decide)] at hf
              have e5' : (60 : Int) < q.body.size := by omega
              try (simp [e5'])
              repeat (first | (refine sR ?_; simp [e5']) | (refine sC ?_; simp [e5']) | (refine sX ?_; simp only [AU, ↓reduceIte]))
              refine sT ?_
              try simp only [AU]
              refine ⟨by simp, sF hbox htok (fun _ h => h) (Nat.le_refl _) ?_⟩
              simp [packA, ← hf]
            · have e5' : ¬ (60 : Int) < q.body.size := by omega
              by_cases e6 : 6 < q.body.depth
              · rw [if_pos (.inr e6)] at hE
                rw [← hE, if_pos (by decide)] at hf
                have e6' : (6 : Int) < q.body.depth := by omega
                try (simp [e5', e6'])
                repeat (first | (refine sR ?_; simp [e5', e6']) | (refine sC ?_; simp [e5', e6']) | (refine sX ?_; simp only [AU, ↓reduceIte]))
                refine sT ?_
                try simp only [AU]
                refine ⟨by simp, sF hbox htok (fun _ h => h) (Nat.le_refl _) ?_⟩
                simp [packA, ← hf]
              · rw [if_neg (by omega)] at hE
                rw [← hE] at hf
                have e6' : ¬ (6 : Int) < q.body.depth := by omega
                try (simp [e5', e6'])
                repeat (first | (refine sR ?_; simp [e5', e6']) | (refine sC ?_; simp [e5', e6']) | (refine sX ?_; simp only [AU, ↓reduceIte]))
                refine Stop.of_d (h4 _ _) ?_
                simp
                by_cases e7 : cmdE p rs asked i q.body = 0
                · have b7 : (cmdE p rs asked i q.body != 0) = false := by simp [e7]
                  rw [if_neg (by simp [e7])] at hf
                  try (simp [b7, hw])
                  repeat (first | (refine sR ?_; simp [b7, hw]) | (refine sC ?_; simp [b7, hw]) | (refine sX ?_; simp only [AU, ↓reduceIte]))
                  refine sE ?_
                  exact ⟨i + 1, ⟨hlt, hf⟩, by omega, Weaks.mk (Nat.le_refl _) rfl (by simp [ToL, lk]) (by simp [BoxL, lk])⟩
                · have b7 : (cmdE p rs asked i q.body != 0) = true := by simp [e7]
                  rw [if_pos e7] at hf
                  try (simp [b7])
                  repeat (first | (refine sR ?_; simp [b7]) | (refine sC ?_; simp [b7]) | (refine sX ?_; simp only [AU, ↓reduceIte]))
                  refine sT ?_
                  try simp only [AU]
                  refine ⟨by simp, sF hbox htok (fun _ h => h) (Nat.le_refl _) ?_⟩
                  simp [packA, ← hf]
      · refine sX ?_
        simp only [AU, ↓reduceIte]
        have : i = p.length := by omega
        subst this
        rw [List.drop_length, faultL] at hf
        try (simp)
        repeat (refine sR ?_; simp)
        refine sT ?_
        try simp only [AU]
        refine ⟨by simp, sF hbox htok (fun _ h => h) (Nat.le_refl _) ?_⟩
        simp [packA, ← hf]
theorem faultL_rng (p : List Pr) (rs : List ByteArray) (asked : Bool) : ∀ (l : List Pr) (i : Nat), (faultL p rs asked l i).1 = -1 ∨ (i : Int) ≤ (faultL p rs asked l i).1 ∧ (faultL p rs asked l i).1 < i + l.length
  | [], i => .inl rfl
  | q :: r, i => by
    rw [faultL]
    split
    · right; simp only [List.length_cons]; omega
    · rcases faultL_rng p rs asked r (i + 1) with h | h
      · exact .inl h
      · right; simp only [List.length_cons]; omega
theorem faultR_rng (p : List Pr) (rs : List ByteArray) (asked : Bool) : (faultR p rs asked).1 = -1 ∨ 0 ≤ (faultR p rs asked).1 ∧ (faultR p rs asked).1.toNat < p.length := by
  unfold faultR
  split
  · exact .inl rfl
  · split
    · exact .inl rfl
    · rcases faultL_rng p rs asked p 0 with h | h
      · exact .inl h
      · right; omega
end Go.AM
namespace Go.AM
open Go Go.Proofs
def stSm (c : Cm) (nb : Nat) (box : Nat → Option (List (List AV))) (tok : Nat → Bool) (nt : Nat) (i : Nat) : AState :=
  ⟨tl [(5, I i), (2, .ptr (nb + 2) 0 0), (3, .ptr (nb + 3) 0 0)], lb nb box [(3, [c.row]), (2, [c.row])], tok, nt⟩
set_option maxRecDepth 100000 in
theorem sameC_c : ∀ (n : Nat) (c : Cm), c.size < n → c.Sm → ∀ (tok : Nat → Bool) (nt : Nat), DCall Tryz.prog 25 [c.av, c.av] tok nt (B true) tok nt
  | 0, c, hn, _, tok, nt => absurd hn (Nat.not_lt_zero _)
  | n + 1, c, hn, hc, tok, nt => by
    intro box nb
    have ih := fun x (hx : x ∈ c.kids) => sameC_c n x (by have := Cm.kid_size hx; omega) (hc.kid x hx)
    have hl := hc.len
    refine sB Tryz.func25 Tryz.ntmps25 ?_
    intro hbox htok
    simp only at hbox htok
    apply AL.start
    try (simp)
    repeat (first | (refine sR ?_; simp) | (refine sC ?_; simp) | (refine sX ?_; simp only [AU, ↓reduceIte]))
    refine sN ?_
    refine AL.loopT (stSm c nb box tok nt) (fun i => i ≤ c.kids.length) (fun i => c.kids.length - i) 0 (Nat.zero_le _) (Weaks.mk (Nat.le_refl _) rfl (by simp [ToL, lk]) (by simp [BoxL, lk])) ?_
    rintro i S hi hS
    simp only [stSm] at hS
    subst hS
    have hw := sW (i := i) (by omega)
    by_cases hlt : i < c.kids.length
    · have ihx := ih _ (List.getElem_mem hlt)
      try (simp [hlt])
      repeat (refine sR ?_; simp [hlt])
      refine sC ?_
      simp
      try (simp [hlt, Cm.cells_eq])
      repeat (refine sR ?_; simp [hlt, Cm.cells_eq])
      generalize c.kids[i] = x at *
      refine Stop.of_d (ihx _ _) ?_
      simp
      try (simp [hw])
      repeat (first | (refine sR ?_; simp [hw]) | (refine sC ?_; simp [hw]) | (refine sX ?_; simp only [AU, ↓reduceIte]))
      refine sE ?_
      exact ⟨i + 1, hlt, by omega, Weaks.mk (Nat.le_refl _) rfl (by simp [ToL, lk]) (by simp [BoxL, lk])⟩
    · try (simp [hlt])
      repeat (refine sR ?_; simp [hlt])
      refine sC ?_
      simp
      refine sX ?_
      simp only [AU, ↓reduceIte]
      try (simp)
      repeat (refine sR ?_; simp)
      refine sT ?_
      try simp only [AU]
      refine ⟨by simp, sF hbox htok (fun _ h => h) (Nat.le_refl _) ?_⟩
      simp [packA]
def stSp (p : List Pr) (nb : Nat) (box : Nat → Option (List (List AV))) (tok : Nat → Bool) (nt : Nat) (i : Nat) : AState :=
  ⟨tl [(5, I i), (2, .ptr (nb + 2) 0 0), (3, .ptr (nb + 3) 0 0)], lb nb box [(3, [[.d (prs p)]]), (2, [[.d (prs p)]])], tok, nt⟩
set_option maxRecDepth 100000 in
theorem same_c (p : List Pr) (hl : p.length ≤ 200000000000000) (hs : ∀ q ∈ p, q.body.Sm) (tok : Nat → Bool) (nt : Nat) : DCall Tryz.prog 16 [prsAv p, prsAv p] tok nt (B true) tok nt := by
  intro box nb
  refine sB Tryz.func16 Tryz.ntmps16 ?_
  intro hbox htok
  simp only at hbox htok
  apply AL.start
  try (simp)
  repeat (first | (refine sR ?_; simp) | (refine sC ?_; simp) | (refine sX ?_; simp only [AU, ↓reduceIte]))
  refine sN ?_
  refine AL.loopT (stSp p nb box tok nt) (fun i => i ≤ p.length) (fun i => p.length - i) 0 (Nat.zero_le _) (Weaks.mk (Nat.le_refl _) rfl (by simp [ToL, lk]) (by simp [BoxL, lk])) ?_
  rintro i S hi hS
  simp only [stSp] at hS
  subst hS
  have hw := sW (i := i) (by omega)
  by_cases hlt : i < p.length
  · have ihx := sameC_c _ p[i].body (Nat.lt_succ_self _) (hs _ (List.getElem_mem hlt))
    try (simp [hlt])
    repeat (refine sR ?_; simp [hlt])
    refine sC ?_
    simp
    try (simp [hlt])
    repeat (refine sR ?_; simp [hlt])
    generalize p[i] = x at *
    refine Stop.of_d (ihx _ _) ?_
    simp
    try (simp [hw])
    repeat (first | (refine sR ?_; simp [hw]) | (refine sC ?_; simp [hw]) | (refine sX ?_; simp only [AU, ↓reduceIte]))
    refine sE ?_
    exact ⟨i + 1, hlt, by omega, Weaks.mk (Nat.le_refl _) rfl (by simp [ToL, lk]) (by simp [BoxL, lk])⟩
  · try (simp [hlt])
    repeat (refine sR ?_; simp [hlt])
    refine sC ?_
    simp
    refine sX ?_
    simp only [AU, ↓reduceIte]
    try (simp)
    repeat (refine sR ?_; simp)
    refine sT ?_
    try simp only [AU]
    refine ⟨by simp, sF hbox htok (fun _ h => h) (Nat.le_refl _) ?_⟩
    simp [packA]
mutual
def Cm.left : Cm → Int → Int
  | .mk _ s _ c, m => if 60 < s.size then -1 else Cm.leftL c (m - 1)
def Cm.leftL : List Cm → Int → Int
  | [], m => m
  | x :: r, m => if 0 ≤ m then Cm.leftL r (Cm.left x m) else m
end
theorem Cm.left_eq (c : Cm) (m : Int) : c.left m = if 60 < c.name.size then -1 else Cm.leftL c.kids (m - 1) := by cases c; rw [Cm.left]; rfl
theorem Cm.leftL_stop {l : List Cm} {m : Int} (h : ¬ 0 ≤ m) : Cm.leftL l m = m := by
  cases l with
  | nil => rw [Cm.leftL]
  | cons x r => rw [Cm.leftL, if_neg h]
theorem Cm.leftL_app : ∀ (l k : List Cm) (m : Int), Cm.leftL (l ++ k) m = Cm.leftL k (Cm.leftL l m)
  | [], k, m => by simp [Cm.leftL]
  | x :: r, k, m => by
    by_cases h : 0 ≤ m
    · rw [List.cons_append, Cm.leftL, if_pos h, Cm.leftL_app r k, Cm.leftL, if_pos h]
    · rw [Cm.leftL_stop h, Cm.leftL_stop h, Cm.leftL_stop h]
theorem Cm.leftL_take {l : List Cm} {m : Int} {i : Nat} (h : i < l.length) (hg : 0 ≤ Cm.leftL (l.take i) m) : Cm.leftL (l.take (i + 1)) m = l[i].left (Cm.leftL (l.take i) m) := by
  rw [List.take_succ_eq_append_getElem h, Cm.leftL_app, Cm.leftL, if_pos hg, Cm.leftL]
theorem Cm.leftL_end {l : List Cm} {m : Int} {i : Nat} (hg : ¬ 0 ≤ Cm.leftL (l.take i) m) : Cm.leftL l m = Cm.leftL (l.take i) m := by
  conv => lhs; rw [← List.take_append_drop i l]
  rw [Cm.leftL_app, Cm.leftL_stop hg]
theorem Cm.left_le : ∀ (n : Nat) (c : Cm), c.size < n → ∀ m, 0 ≤ m → (-1 ≤ c.left m ∧ c.left m < m) ∧ (0 ≤ c.left m → (c.size : Int) ≤ m - c.left m)
  | 0, c, h => absurd h (Nat.not_lt_zero _)
  | n + 1, c, h => fun m h0 => by
    have key : ∀ (l : List Cm) (m : Int), (∀ x ∈ l, x.size < n) → -1 ≤ m → (-1 ≤ Cm.leftL l m ∧ Cm.leftL l m ≤ m) ∧ (0 ≤ Cm.leftL l m → (Cm.sizeL l : Int) ≤ m - Cm.leftL l m) := by
      intro l
      induction l with
      | nil => intro m _ h1; simp [Cm.leftL, Cm.sizeL]; omega
      | cons x r ih =>
        intro m hx h1
        by_cases hm : 0 ≤ m
        · rw [Cm.leftL, if_pos hm]
          have h2 := Cm.left_le n x (hx x (by simp)) m hm
          have h3 := ih (x.left m) (fun y hy => hx y (by simp [hy])) (by omega)
          simp only [Cm.sizeL]
          omega
        · rw [Cm.leftL_stop hm]
          omega
    rw [c.left_eq]
    have := key c.kids (m - 1) (fun x hx => by have := Cm.kid_size hx; omega) (by omega)
    rw [c.size_eq]
    split
    · omega
    · omega
theorem Cm.leftL_le : ∀ (l : List Cm) (m : Int), -1 ≤ m → (-1 ≤ Cm.leftL l m ∧ Cm.leftL l m ≤ m) ∧ (0 ≤ Cm.leftL l m → (Cm.sizeL l : Int) ≤ m - Cm.leftL l m)
  | [], m, h1 => by simp [Cm.leftL, Cm.sizeL]; omega
  | x :: r, m, h1 => by
    by_cases hm : 0 ≤ m
    · rw [Cm.leftL, if_pos hm]
      have h2 := Cm.left_le _ x (Nat.lt_succ_self _) m hm
      have h3 := Cm.leftL_le r (x.left m) (by omega)
      simp only [Cm.sizeL]
      omega
    · rw [Cm.leftL_stop hm]
      omega
def stLf (c : Cm) (m : Int) (nb : Nat) (box : Nat → Option (List (List AV))) (tok : Nat → Bool) (nt : Nat) (i : Nat) : AState :=
  ⟨tl [(5, I i), (1, I (Cm.leftL (c.kids.take i) (m - 1))), (2, .ptr (nb + 2) 0 0)], lb nb box [(2, [c.row])], tok, nt⟩
set_option maxRecDepth 100000 in
theorem left_c : ∀ (n : Nat) (c : Cm), c.size < n → c.Sm → ∀ (m : Int), 0 ≤ m → m ≤ 200 → ∀ (tok : Nat → Bool) (nt : Nat), DCall Tryz.prog 38 [c.av, I m] tok nt (I (c.left m)) tok nt
  | 0, c, hn, _, m, _, _, tok, nt => absurd hn (Nat.not_lt_zero _)
  | n + 1, c, hn, hc, m, h0, h1, tok, nt => by
    intro box nb
    have ih := fun x (hx : x ∈ c.kids) => left_c n x (by have := Cm.kid_size hx; omega) (hc.kid x hx)
    have hl := hc.len
    have hR := c.left_eq m
    have hwm : IntKind.i64.wrap (m - 1) = m - 1 := wrap_in (by omega) (by omega)
    have hbd : ∀ i, Cm.leftL (c.kids.take i) (m - 1) ≤ 200 := fun i => by
      have := (Cm.leftL_le (c.kids.take i) (m - 1) (by omega)).1
      omega
    refine sB Tryz.func38 Tryz.ntmps38 ?_
    intro hbox htok
    simp only at hbox htok
    apply AL.start
    try (simp)
    repeat (refine sR ?_; simp)
    by_cases e1 : 60 < c.name.size
    · have e1' : (60 : Int) < c.name.size := by omega
      rw [if_pos e1] at hR
      try (simp [e1'])
      repeat (first | (refine sR ?_; simp [e1']) | (refine sC ?_; simp [e1']) | (refine sX ?_; simp only [AU, ↓reduceIte]))
      refine sT ?_
      try simp only [AU]
      refine ⟨by simp, sF hbox htok (fun _ h => h) (Nat.le_refl _) ?_⟩
      simp [packA, hR]
    · have e1' : ¬ (60 : Int) < c.name.size := by omega
      rw [if_neg e1] at hR
      try (simp [e1', hwm])
      repeat (first | (refine sR ?_; simp [e1', hwm]) | (refine sC ?_; simp [e1', hwm]) | (refine sX ?_; simp only [AU, ↓reduceIte]))
      refine sN ?_
      refine AL.loopT (stLf c m nb box tok nt) (fun i => i ≤ c.kids.length) (fun i => c.kids.length - i) 0 (Nat.zero_le _) (Weaks.mk (Nat.le_refl _) rfl (by simp [ToL, lk, Cm.leftL]) (by simp [BoxL, lk])) ?_
      rintro i S hi hS
      simp only [stLf] at hS
      subst hS
      have hw := sW (i := i) (by omega)
      by_cases hlt : i < c.kids.length
      · by_cases hg : 0 ≤ Cm.leftL (c.kids.take i) (m - 1)
        · have hst := Cm.leftL_take hlt hg
          have ihx := ih _ (List.getElem_mem hlt) _ hg (hbd i)
          generalize Cm.leftL (c.kids.take i) (m - 1) = y at *
          try (simp [hlt, hg])
          repeat (refine sR ?_; simp [hlt, hg])
          refine sC ?_
          simp
          try (simp [hlt, Cm.cells_eq])
          repeat (refine sR ?_; simp [hlt, Cm.cells_eq])
          generalize c.kids[i] = x at *
          refine Stop.of_d (ihx _ _) ?_
          simp
          try (simp [hw])
          repeat (first | (refine sR ?_; simp [hw]) | (refine sC ?_; simp [hw]) | (refine sX ?_; simp only [AU, ↓reduceIte]))
          refine sE ?_
          exact ⟨i + 1, hlt, by omega, Weaks.mk (Nat.le_refl _) rfl (by simp [ToL, lk, hst]) (by simp [BoxL, lk])⟩
        · rw [Cm.leftL_end hg] at hR
          try (simp [hlt, hg])
          repeat (refine sR ?_; simp [hlt, hg])
          refine sC ?_
          simp
          refine sX ?_
          simp only [AU, ↓reduceIte]
          try (simp)
          repeat (refine sR ?_; simp)
          refine sT ?_
          try simp only [AU]
          refine ⟨by simp, sF hbox htok (fun _ h => h) (Nat.le_refl _) ?_⟩
          simp [packA, hR]
      · have : i = c.kids.length := by omega
        subst this
        rw [List.take_length]
        try (simp [hlt])
        repeat (refine sR ?_; simp [hlt])
        refine sC ?_
        simp
        refine sX ?_
        simp only [AU, ↓reduceIte]
        try (simp)
        repeat (refine sR ?_; simp)
        refine sT ?_
        try simp only [AU]
        refine ⟨by simp, sF hbox htok (fun _ h => h) (Nat.le_refl _) ?_⟩
        simp [packA, hR]
def fewL : List Pr → Int → Option Int
  | [], m => some m
  | q :: r, m => if 0 ≤ m then (if 60 < q.name.size then none else fewL r (q.body.left m)) else some m
def fewF (o : Option Int) (n : Nat) : Bool := match o with
  | none => false
  | some m => decide (0 ≤ m) && decide (n ≤ 25)
def fewB (p : List Pr) : Bool := fewF (fewL p 200) p.length
theorem fewL_stop {l : List Pr} {m : Int} (h : ¬ 0 ≤ m) : fewL l m = some m := by
  cases l with
  | nil => rfl
  | cons x r => rw [fewL, if_neg h]
def stFw (p : List Pr) (nb : Nat) (box : Nat → Option (List (List AV))) (tok : Nat → Bool) (nt : Nat) (a : Nat × Int) : AState :=
  ⟨tl [(4, I a.1), (3, I a.2), (1, .ptr (nb + 1) 0 0)], lb nb box [(1, [[.d (prs p)]])], tok, nt⟩
structure FwA where
  i : Nat
  m : Int
structure FwInv (p : List Pr) (R : Option Int) (a : FwA) : Prop where
  i : a.i ≤ p.length
  m0 : -1 ≤ a.m
  m1 : a.m ≤ 200
  e : fewL (p.drop a.i) a.m = R
set_option maxRecDepth 100000 in
theorem few_c (p : List Pr) (hl : p.length ≤ 200000000000000) (hs : ∀ q ∈ p, q.body.Sm) (tok : Nat → Bool) (nt : Nat) : DCall Tryz.prog 12 [prsAv p] tok nt (B (fewB p)) tok nt := by
  intro box nb
  obtain ⟨R, hR⟩ : ∃ R, fewL p 200 = R := ⟨_, rfl⟩
  have hN : fewB p = fewF R p.length := by rw [← hR]; rfl
  have hle : decide ((p.length : Int) ≤ 25) = decide (p.length ≤ 25) := by rw [Bool.eq_iff_iff]; simp; omega
  refine sB Tryz.func12 Tryz.ntmps12 ?_
  intro hbox htok
  simp only at hbox htok
  apply AL.start
  try (simp)
  repeat (refine sR ?_; simp)
  refine sN ?_
  refine AL.loopT (fun a : FwA => stFw p nb box tok nt (a.i, a.m)) (FwInv p R) (fun a => p.length - a.i) ⟨0, 200⟩ ⟨Nat.zero_le _, by simp, by simp, by rw [List.drop_zero]; exact hR⟩ (Weaks.mk (Nat.le_refl _) rfl (by simp [stFw, ToL, lk]) (by simp [stFw, BoxL, lk])) ?_
  rintro ⟨i, m⟩ S hinv hS
  obtain ⟨hi, hm0, hm1, he⟩ := hinv
  simp only [stFw] at hS hi hm0 hm1 he
  subst hS
  have hw := sW (i := i) (by omega)
  by_cases hlt : i < p.length
  · by_cases hg : 0 ≤ m
    · rw [List.drop_eq_getElem_cons hlt, fewL, if_pos hg] at he
      have ihx := left_c _ p[i].body (Nat.lt_succ_self _) (hs _ (List.getElem_mem hlt)) m hg hm1
      have hle := (Cm.left_le _ p[i].body (Nat.lt_succ_self _) m hg).1
      try (simp [hlt, hg])
      repeat (refine sR ?_; simp [hlt, hg])
      refine sC ?_
      simp
      try (simp [hlt])
      repeat (refine sR ?_; simp [hlt])
      obtain ⟨q, hqq⟩ : ∃ q, p[i] = q := ⟨_, rfl⟩
      simp only [hqq] at he ihx hle ⊢
      by_cases e1 : 60 < q.name.size
      · have e1' : (60 : Int) < q.name.size := by omega
        rw [if_pos e1] at he
        rw [← he] at hN
        try (simp [e1'])
        repeat (first | (refine sR ?_; simp [e1']) | (refine sC ?_; simp [e1']) | (refine sX ?_; simp only [AU, ↓reduceIte]))
        refine sT ?_
        try simp only [AU]
        refine ⟨by simp, sF hbox htok (fun _ h => h) (Nat.le_refl _) ?_⟩
        simp [packA, hN, fewF]
      · have e1' : ¬ (60 : Int) < q.name.size := by omega
        rw [if_neg e1] at he
        try (simp [e1', hlt, hqq])
        repeat (first | (refine sR ?_; simp [e1', hlt, hqq]) | (refine sC ?_; simp [e1', hlt, hqq]) | (refine sX ?_; simp only [AU, ↓reduceIte]))
        refine Stop.of_d (ihx _ _) ?_
        simp
        try (simp [hw])
        repeat (first | (refine sR ?_; simp [hw]) | (refine sC ?_; simp [hw]) | (refine sX ?_; simp only [AU, ↓reduceIte]))
        refine sE ?_
        exact ⟨⟨i + 1, q.body.left m⟩, ⟨hlt, by simp only; omega, by simp only; omega, he⟩, by simp only; omega, Weaks.mk (Nat.le_refl _) rfl (by simp [stFw, ToL, lk]) (by simp [stFw, BoxL, lk])⟩
    · rw [fewL_stop hg] at he
      rw [← he] at hN
      try (simp [hlt, hg])
      repeat (refine sR ?_; simp [hlt, hg])
      refine sC ?_
      simp
      refine sX ?_
      simp only [AU, ↓reduceIte]
      try (simp [hg])
      repeat (refine sR ?_; simp [hg])
      refine sT ?_
      try simp only [AU]
      refine ⟨by simp, sF hbox htok (fun _ h => h) (Nat.le_refl _) ?_⟩
      simp [packA, hN, fewF, hg]
  · have : i = p.length := by omega
    subst this
    rw [List.drop_length, fewL] at he
    rw [← he] at hN
    by_cases hg : 0 ≤ m
    · try (simp [hlt])
      repeat (refine sR ?_; simp [hlt])
      refine sC ?_
      simp
      refine sX ?_
      simp only [AU, ↓reduceIte]
      try (simp [hg])
      repeat (refine sR ?_; simp [hg])
      refine sT ?_
      try simp only [AU]
      refine ⟨by simp, sF hbox htok (fun _ h => h) (Nat.le_refl _) ?_⟩
      simp [packA, hN, fewF, hg, hle]
    · try (simp [hlt])
      repeat (refine sR ?_; simp [hlt])
      refine sC ?_
      simp
      refine sX ?_
      simp only [AU, ↓reduceIte]
      try (simp [hg])
      repeat (refine sR ?_; simp [hg])
      refine sT ?_
      try simp only [AU]
      refine ⟨by simp, sF hbox htok (fun _ h => h) (Nat.le_refl _) ?_⟩
      simp [packA, hN, fewF, hg]
def stNm (l : List ByteArray) (nb : Nat) (box : Nat → Option (List (List AV))) (x : Acc) : AState :=
  ⟨tl [(4, I x.i), (3, .osl 25 ((l.map ruleRow).take x.i) x.own), (0, .d (strs l))], lb nb box [], x.tok, x.nt⟩
set_option maxRecDepth 100000 in
theorem named_c (l : List ByteArray) (hl : l.length ≤ 100000000) (tok : Nat → Bool) (nt : Nat) : DCall Tryz.prog 20 [.d (strs l)] tok nt (.d (rules46 l)) tok nt := by
  intro box nb
  refine sB Tryz.func20 Tryz.ntmps20 ?_
  intro hbox htok
  simp only at hbox htok
  apply AL.start
  have ht0 := TK.start htok
  try (simp)
  repeat (refine sR ?_; simp)
  refine sN ?_
  refine AL.loopT (stNm l nb box) (fun x => x.i ≤ l.length ∧ TK tok nt x.tok x.nt [x.own]) (fun x => l.length - x.i) ⟨0, .full, tok, nt⟩ ⟨Nat.zero_le _, ht0.full⟩ (Weaks.mk (Nat.le_refl _) rfl (by simp [ToL, lk]) trivial) ?_
  rintro ⟨i, own, tok1, nt1⟩ S ⟨hi, htk⟩ hS
  simp only [stNm] at hS hi htk
  subst hS
  have hw := sW (i := i) (by omega)
  by_cases hlt : i < l.length
  · have hx : (l.map ruleRow).take (i + 1) = (l.map ruleRow).take i ++ [ruleRow l[i]] := by rw [List.take_succ_eq_append_getElem (by rw [List.length_map]; exact hlt), List.getElem_map]
    try (simp [hlt])
    repeat (refine sR ?_; simp [hlt])
    refine sC ?_
    simp
    try (simp [hlt])
    repeat (refine sR ?_; simp [hlt])
    refine ⟨⟨by omega, htk.live⟩, ?_⟩
    try (simp [hw])
    repeat (refine sR ?_; simp [hw])
    refine sE ?_
    refine ⟨⟨i + 1, .tok nt1, upd (own.kill tok1) nt1 true, nt1 + 1⟩, ⟨hlt, htk.app⟩, by simp only; omega, ?_⟩
    simp only [stNm]
    exact Weaks.mk (by have := htk.le; omega) rfl (by simp [ToL, lk, hx]) trivial
  · have : i = l.length := by omega
    subst this
    rw [List.take_of_length_le (by simp)]
    try (simp [hlt])
    repeat (refine sR ?_; simp [hlt])
    refine sC ?_
    simp
    refine sX ?_
    simp only [AU, ↓reduceIte]
    try (simp)
    repeat (refine sR ?_; simp)
    refine sT ?_
    try simp only [AU]
    refine ⟨by simp, sF hbox htok htk.old htk.le ?_⟩
    simp [packA, rules46]
theorem fewL_ok : ∀ (p : List Pr) (m : Int) (k : Int), 0 ≤ k → fewL p m = some k → -1 ≤ m → ∀ q ∈ p, q.name.size ≤ 60 ∧ (q.body.size : Int) ≤ m
  | [], m, k, _, _, _ => by simp
  | q :: r, m, k, hk, h, hm => by
    rw [fewL] at h
    by_cases h0 : 0 ≤ m
    · rw [if_pos h0] at h
      by_cases h1 : 60 < q.name.size
      · rw [if_pos h1] at h; cases h
      · rw [if_neg h1] at h
        have h2 := Cm.left_le _ q.body (Nat.lt_succ_self _) m h0
        have h3 := fewL_ok r (q.body.left m) k hk h (by omega)
        have h4 : 0 ≤ q.body.left m := by
          rcases Int.lt_or_le (q.body.left m) 0 with h5 | h5
          · rw [fewL_stop (by omega)] at h
            injection h with h
            omega
          · exact h5
        intro x hx
        rcases List.mem_cons.1 hx with rfl | hx
        · have := h2.2 h4; omega
        · have := h3 x hx; omega
    · rw [if_neg h0] at h
      injection h with h
      omega
theorem fewB_ok {p : List Pr} (h : fewB p = true) : p.length ≤ 25 ∧ ∀ q ∈ p, q.name.size ≤ 60 ∧ q.body.size ≤ 200 := by
  unfold fewB fewF at h
  split at h
  · cases h
  · rename_i m hm
    simp only [Bool.and_eq_true, decide_eq_true_eq] at h
    exact ⟨h.2, fun q hq => by have := fewL_ok p 200 m h.1 hm (by omega) q hq; omega⟩
theorem few_prs {p : List Pr} (h : fewB p = true) (hs : ∀ q ∈ p, q.body.Sm) : PrsOk p := by
  obtain ⟨h1, h2⟩ := fewB_ok h
  exact ⟨by omega, fun q hq => by have := h2 q hq; omega, hs, fun q hq => by have := h2 q hq; omega⟩
end Go.AM
namespace Go.AM
open Go Go.Proofs Go.Shelf
structure Tk where
  kind : Int
  text : ByteArray
  line : Int
abbrev Tk.cells (t : Tk) : List D := [.raw (.int .i64 t.kind), .raw (.string t.text), .raw (.int .i64 t.line)]
abbrev tks (l : List Tk) : D := .sl 3 (l.map Tk.cells)
theorem Tk.get {l : List Tk} {i : Nat} (h : i < l.length) : (l.map Tk.cells)[i]? = some [.raw (.int .i64 l[i].kind), .raw (.string l[i].text), .raw (.int .i64 l[i].line)] := by simp [h]
theorem ba_ext {a b : ByteArray} (h : a.data.toList = b.data.toList) : a = b := by
  obtain ⟨⟨a⟩⟩ := a
  obtain ⟨⟨b⟩⟩ := b
  simp at h
  rw [h]
theorem ba_cut (s : ByteArray) (a b : Nat) : (s.extract a b).data.toList = (s.data.toList.drop a).take (b - a) := by
  rw [ByteArray.data_extract, Array.toList_extract, List.extract_eq_take_drop]
theorem sz_list (s : ByteArray) : s.data.toList.length = s.size := size_toList s
def dropB (s : ByteArray) (n : Nat) : ByteArray := s.extract n s.size
theorem dropB_list (s : ByteArray) (n : Nat) : (dropB s n).data.toList = s.data.toList.drop n := by
  rw [dropB, ba_cut, List.take_of_length_le (by rw [List.length_drop, sz_list]; exact Nat.le_refl _)]
theorem dropB_size (s : ByteArray) (n : Nat) : (dropB s n).size = s.size - n := by rw [← sz_list, dropB_list, List.length_drop, sz_list]
theorem byteAt_get {s : ByteArray} {a : Nat} (h : a < s.data.toList.length) : byteAt s a = ((s.data.toList[a].toNat : Nat) : Int) := by
  simp only [byteAt, List.getD_eq_getElem?_getD, List.getElem?_eq_getElem h, Option.getD_some]
theorem runN_step {p : Int → Bool} {s : ByteArray} {a : Nat} (h : a < s.size) (hp : p (byteAt s a) = true) : runN p s a = runN p s (a + 1) + 1 := by
  have h2 : a < s.data.toList.length := by rw [sz_list]; exact h
  unfold runN
  rw [List.drop_eq_getElem_cons h2, List.takeWhile_cons, if_pos (by rw [← byteAt_get h2]; exact hp), List.length_cons]
theorem runN_pos {p : Int → Bool} {s : ByteArray} {a : Nat} (h : a < s.size) (hp : p (byteAt s a) = true) : 1 ≤ runN p s a := by rw [runN_step h hp]; omega
theorem runN_stop {p : Int → Bool} {s : ByteArray} {a : Nat} (hp : p (byteAt s a) = false) : runN p s a = 0 := by
  unfold runN
  by_cases h : a < s.data.toList.length
  · rw [List.drop_eq_getElem_cons h, List.takeWhile_cons, if_neg (by rw [← byteAt_get h, hp]; simp)]
    rfl
  · rw [List.drop_eq_nil_of_le (by omega)]
    rfl
theorem runN_end {p : Int → Bool} {s : ByteArray} {a : Nat} (h : s.size ≤ a) : runN p s a = 0 := by
  unfold runN
  rw [List.drop_eq_nil_of_le (by rw [sz_list]; exact h)]
  rfl
theorem quoR_rng {s : ByteArray} (h1 : 1 ≤ s.size) (he : (quoR s).2 = 0) : 2 ≤ (quoR s).1 ∧ (quoR s).1 ≤ s.size ∧ (quoR s).1 ≤ 62 := by
  have hle := runN_le quoB (s.extract 1 s.size) 0
  rw [ext1_size] at hle
  unfold quoR at he ⊢
  generalize runN quoB (s.extract 1 s.size) 0 = n at *
  split
  · rename_i h; rw [if_pos h] at he; simp at he
  · rename_i h
    rw [if_neg h] at he
    split
    · rename_i h2; rw [if_pos h2] at he; simp at he
    · rename_i h2
      rw [if_neg h2] at he
      split
      · rename_i h3; rw [if_pos h3] at he; simp at he
      · simp only; omega
theorem nextR_rng {s : ByteArray} (h1 : 1 ≤ s.size) (he : (nextR s).2.2 = 0) : 1 ≤ (nextR s).2.1 ∧ (nextR s).2.1 ≤ s.size ∧ ((nextR s).1 = 3 → 2 ≤ (nextR s).2.1) ∧ (1 ≤ (nextR s).1 ∧ (nextR s).1 ≤ 4) := by
  unfold nextR at he ⊢
  have hp1 := fun h => runN_pos (p := parB) (s := s) (a := 0) (by omega) h
  have hp2 := fun h => runN_pos (p := digB) (s := s) (a := 0) (by omega) h
  have hl1 := runN_le parB s 0
  have hl2 := runN_le digB s 0
  by_cases e1 : letB (byteAt s 0) = true
  · have := hp1 (by simp [parB, e1])
    rw [if_pos e1] at he ⊢
    split at he
    · simp at he
    · rename_i h2; rw [if_neg h2]; simp only; omega
  · rw [if_neg e1] at he ⊢
    by_cases e2 : digB (byteAt s 0) = true
    · have := hp2 e2
      rw [if_pos e2] at he ⊢
      split at he
      · simp at he
      · rename_i h2; rw [if_neg h2]; simp only; omega
    · rw [if_neg e2] at he ⊢
      by_cases e3 : byteAt s 0 = 34
      · rw [if_pos e3] at he ⊢
        have := quoR_rng h1 he
        simp only at this ⊢
        omega
      · rw [if_neg e3] at he ⊢
        by_cases e4 : pairB s = true
        · rw [if_pos e4]
          unfold pairB at e4
          simp at e4
          simp only; omega
        · rw [if_neg e4] at he ⊢
          split at he
          · rename_i h5; rw [if_pos h5]; simp only; omega
          · simp at he
def textR (s : ByteArray) : ByteArray := if (nextR s).1 = 3 then s.extract 1 ((nextR s).2.1.toNat - 1) else s.extract 0 (nextR s).2.1.toNat
def nlB (c : Int) : Bool := c != 10
def whiB (c : Int) : Bool := decide (c = 32 ∨ c = 9 ∨ c = 13)
def toksF : Nat → ByteArray → Int → List Tk → List Tk × Int × Int
  | 0, _, _, out => (out, 0, 0)
  | f + 1, s, line, out =>
    if s.size = 0 then (out, 0, 0)
    else if byteAt s 0 = 10 then toksF f (dropB s 1) (line + 1) out
    else if whiB (byteAt s 0) = true then toksF f (dropB s 1) line out
    else if byteAt s 0 = 35 then toksF f (dropB s (runN nlB s 0)) line out
    else if (nextR s).2.2 ≠ 0 then ([], line, (nextR s).2.2)
    else if out.length = 4000 then ([], line, 3)
    else toksF f (dropB s (nextR s).2.1.toNat) line (out ++ [⟨(nextR s).1, textR s, line⟩])
def toksR (s : ByteArray) : List Tk × Int × Int := if 20000 < s.size then ([], 0, 3) else toksF s.size s 1 []
theorem toksF_end {f : Nat} {s : ByteArray} {line : Int} {out : List Tk} (h : s.size = 0) : toksF f s line out = (out, 0, 0) := by
  cases f with
  | zero => rfl
  | succ f => rw [toksF, if_pos h]
theorem toksF_nl {f : Nat} {s : ByteArray} {line : Int} {out : List Tk} (h : ¬ s.size = 0) (h1 : byteAt s 0 = 10) : toksF (f + 1) s line out = toksF f (dropB s 1) (line + 1) out := by rw [toksF, if_neg h, if_pos h1]
theorem toksF_wh {f : Nat} {s : ByteArray} {line : Int} {out : List Tk} (h : ¬ s.size = 0) (h1 : ¬ byteAt s 0 = 10) (h2 : whiB (byteAt s 0) = true) : toksF (f + 1) s line out = toksF f (dropB s 1) line out := by rw [toksF, if_neg h, if_neg h1, if_pos h2]
theorem toksF_cm {f : Nat} {s : ByteArray} {line : Int} {out : List Tk} (h : ¬ s.size = 0) (h3 : byteAt s 0 = 35) : toksF (f + 1) s line out = toksF f (dropB s (runN nlB s 0)) line out := by
  rw [toksF, if_neg h, if_neg (by omega), if_neg (by simp [whiB, h3]), if_pos h3]
theorem toksF_tk {f : Nat} {s : ByteArray} {line : Int} {out : List Tk} (h : ¬ s.size = 0) (h1 : ¬ byteAt s 0 = 10) (h2 : ¬ whiB (byteAt s 0) = true) (h3 : ¬ byteAt s 0 = 35) : toksF (f + 1) s line out =
    if (nextR s).2.2 ≠ 0 then ([], line, (nextR s).2.2) else if out.length = 4000 then ([], line, 3) else toksF f (dropB s (nextR s).2.1.toNat) line (out ++ [⟨(nextR s).1, textR s, line⟩]) := by
  rw [toksF, if_neg h, if_neg h1, if_neg h2, if_neg h3]
end Go.AM
namespace Go.AM
open Go Go.Proofs
structure RS where
  at' : Nat
  bad : Int
abbrev RS.row (L : List Tk) (r : RS) : List AV := [.d (tks L), I r.at', I r.bad]
structure RS.Ok (L : List Tk) (r : RS) : Prop where
  a : r.at' ≤ L.length
  b : -1 ≤ r.bad
  c : r.bad ≤ L.length
def zC : Cm := .mk 0 ⟨#[]⟩ 0 []
def sPro : ByteArray := ⟨#[112, 114, 111, 99, 101, 100, 117, 114, 101]⟩
def sApp : ByteArray := ⟨#[97, 112, 112, 108, 121]⟩
def sCal : ByteArray := ⟨#[99, 97, 108, 108]⟩
def sSki : ByteArray := ⟨#[115, 107, 105, 112]⟩
def sFai : ByteArray := ⟨#[102, 97, 105, 108]⟩
def sLoo : ByteArray := ⟨#[108, 111, 111, 112]⟩
def sTry : ByteArray := ⟨#[116, 114, 121]⟩
def sIf : ByteArray := ⟨#[105, 102]⟩
def sThe : ByteArray := ⟨#[116, 104, 101, 110]⟩
def sEls : ByteArray := ⟨#[101, 108, 115, 101]⟩
def sCho : ByteArray := ⟨#[99, 104, 111, 111, 115, 101]⟩
def sOr : ByteArray := ⟨#[111, 114]⟩
def sRep : ByteArray := ⟨#[114, 101, 112, 101, 97, 116]⟩
def sOp : ByteArray := ⟨#[123]⟩
def sCl : ByteArray := ⟨#[125]⟩
def sSem : ByteArray := ⟨#[59]⟩
def numB (s : ByteArray) : Bool := decide (1 ≤ s.size ∧ s.size ≤ 9) && decide (runN digB s 0 = s.size)
def digK (s : ByteArray) (i : Nat) : Int := (s.data.toList.take i).foldl (fun n b => 10 * n + ((b.toNat : Int) - 48)) 0
def numR (s : ByteArray) : Int := if numB s = true then digK s s.size else 0
def isAt (L : List Tk) (i : Nat) (s : ByteArray) : Bool := match L[i]? with
  | some t => decide (t.text = s) && (decide (t.kind = 1) || decide (t.kind = 4))
  | none => false
def kindAt (L : List Tk) (i : Nat) (k : Int) : Bool := match L[i]? with
  | some t => decide (t.kind = k)
  | none => false
def textAt (L : List Tk) (i : Nat) : ByteArray := match L[i]? with
  | some t => t.text
  | none => ⟨#[]⟩
def peekB (L : List Tk) (r : RS) (s : ByteArray) : Bool := decide (r.bad < 0) && isAt L r.at' s
def failR (r : RS) : RS := if r.bad < 0 then ⟨r.at', r.at'⟩ else r
def takeR (L : List Tk) (r : RS) (s : ByteArray) : RS := if peekB L r s = true then ⟨r.at' + 1, r.bad⟩ else failR r
def kindB (L : List Tk) (r : RS) (k : Int) : Bool := decide (r.bad < 0) && kindAt L r.at' k
def kindR (L : List Tk) (r : RS) (k : Int) : ByteArray × RS := if kindB L r k = true then (textAt L r.at', ⟨r.at' + 1, r.bad⟩) else (⟨#[]⟩, failR r)
def simpR (L : List Tk) (r : RS) (k : Int) (named : Bool) : Cm × RS :=
  if named = true then (.mk k (kindR L r 1).1 0 [], takeR L (kindR L r 1).2 sSem) else (.mk k ⟨#[]⟩ 0 [], takeR L r sSem)
def blksR (L : List Tk) (B : RS → Cm × RS) : List ByteArray → RS → List Cm → List Cm × RS
  | [], r, l => (l, r)
  | w :: ws, r, l => blksR L B ws (B (takeR L r w)).2 (l ++ [(B (takeR L r w)).1])
def blocksR (L : List Tk) (B : RS → Cm × RS) (r : RS) (ws : List ByteArray) : List Cm × RS := blksR L B ws (B r).2 [(B r).1]
def restR (L : List Tk) (C : RS → Cm × RS) : Nat → RS → List Cm → List Cm × RS
  | 0, r, l => (l, r)
  | n + 1, r, l => if r.bad < 0 ∧ peekB L r sCl = false then restR L C n (C r).2 (l ++ [(C r).1]) else (l, r)
def orsR (L : List Tk) (B : RS → Cm × RS) : Nat → RS → List Cm → List Cm × RS
  | 0, r, l => (l, r)
  | n + 1, r, l => if peekB L r sOr = true then orsR L B n (B ⟨r.at' + 1, r.bad⟩).2 (l ++ [(B ⟨r.at' + 1, r.bad⟩).1]) else (l, r)
def wrapC (l : List Cm) : Cm := match l with
  | [c] => c
  | l => .mk 2 ⟨#[]⟩ 0 l
def blockR (L : List Tk) (C : RS → Cm × RS) (r : RS) : Cm × RS :=
  (wrapC (restR L C (L.length + 1) (C (takeR L r sOp)).2 [(C (takeR L r sOp)).1]).1, takeR L (restR L C (L.length + 1) (C (takeR L r sOp)).2 [(C (takeR L r sOp)).1]).2 sCl)
def asK (k n : Int) (x : List Cm × RS) : Cm × RS := (.mk k ⟨#[]⟩ n x.1, x.2)
def cmdS (L : List Tk) (B : RS → Cm × RS) (w : ByteArray) (r : RS) : Cm × RS :=
  if w = sApp then simpR L r 1 true else if w = sCal then simpR L r 10 true else if w = sSki then simpR L r 8 false else if w = sFai then simpR L r 9 false
  else if w = sLoo then asK 5 0 (blocksR L B r []) else if w = sTry then asK 7 0 (blocksR L B r []) else if w = sIf then asK 4 0 (blocksR L B r [sThe, sEls])
  else if w = sCho then asK 3 0 (orsR L B (L.length + 1) (blocksR L B r [sOr]).2 (blocksR L B r [sOr]).1)
  else if w = sRep then asK 6 (numR (kindR L r 2).1) (blocksR L B (kindR L r 2).2 [])
  else (zC, if r.bad < 0 then ⟨r.at', r.at' - 1⟩ else r)
def cmdR (L : List Tk) (B : RS → Cm × RS) (r : RS) : Cm × RS := if r.bad < 0 then cmdS L B (kindR L r 1).1 (kindR L r 1).2 else (zC, r)
mutual
def pCmd (L : List Tk) : Nat → RS → Cm × RS
  | 0, r => (zC, r)
  | n + 1, r => cmdR L (fun q => pBlk L n q) r
def pBlk (L : List Tk) : Nat → RS → Cm × RS
  | 0, r => (zC, r)
  | n + 1, r => blockR L (fun q => pCmd L n q) r
end
structure Adv (L : List Tk) (r r' : RS) : Prop where
  ok : r'.Ok L
  bd : 0 ≤ r.bad → r' = r
  le : r'.bad < 0 → r.at' ≤ r'.at'
structure AdvS (L : List Tk) (r r' : RS) : Prop where
  ok : r'.Ok L
  bd : 0 ≤ r.bad → r' = r
  lt : r'.bad < 0 → r.at' < r'.at'
theorem AdvS.adv {L : List Tk} {r r' : RS} (h : AdvS L r r') : Adv L r r' := ⟨h.ok, h.bd, fun hb => Nat.le_of_lt (h.lt hb)⟩
theorem Adv.refl {L : List Tk} {r : RS} (h : r.Ok L) : Adv L r r := ⟨h, fun _ => rfl, fun _ => Nat.le_refl _⟩
theorem Adv.trans {L : List Tk} {r r' r'' : RS} (h : Adv L r r') (k : Adv L r' r'') : Adv L r r'' := by
  refine ⟨k.ok, fun hb => ?_, fun hb => ?_⟩
  · have e := h.bd hb
    subst e
    exact k.bd hb
  · have h2 := k.le hb
    by_cases hb' : r'.bad < 0
    · exact Nat.le_trans (h.le hb') h2
    · have := k.bd (by omega)
      subst this
      omega
theorem AdvS.trans {L : List Tk} {r r' r'' : RS} (h : AdvS L r r') (k : Adv L r' r'') : AdvS L r r'' := by
  refine ⟨k.ok, (h.adv.trans k).bd, fun hb => ?_⟩
  have h2 := k.le hb
  by_cases hb' : r'.bad < 0
  · exact Nat.lt_of_lt_of_le (h.lt hb') h2
  · have := k.bd (by omega)
    subst this
    omega
theorem AdvS.fail {L : List Tk} {r : RS} (h : r.Ok L) : AdvS L r (failR r) := by
  have h1 := h.a
  have h2 := h.b
  have h3 := h.c
  unfold failR
  split
  · exact ⟨⟨h1, by simp only; omega, by simp only; omega⟩, fun hb => by omega, fun hb => by simp only at hb; omega⟩
  · exact ⟨h, fun _ => rfl, fun hb => by omega⟩
theorem at_lt {L : List Tk} {i : Nat} {s : ByteArray} (h : isAt L i s = true) : i < L.length := by
  unfold isAt at h
  split at h
  · rename_i t ht
    exact (List.getElem?_eq_some_iff.1 ht).1
  · cases h
theorem kat_lt {L : List Tk} {i : Nat} {k : Int} (h : kindAt L i k = true) : i < L.length := by
  unfold kindAt at h
  split at h
  · rename_i t ht
    exact (List.getElem?_eq_some_iff.1 ht).1
  · cases h
theorem AdvS.take {L : List Tk} {r : RS} (h : r.Ok L) (s : ByteArray) : AdvS L r (takeR L r s) := by
  unfold takeR
  split
  · rename_i hp
    unfold peekB at hp
    simp only [Bool.and_eq_true, decide_eq_true_eq] at hp
    have h1 := at_lt hp.2
    have h2 := h.b
    exact ⟨⟨by simp only; omega, h2, h.c⟩, fun hb => by omega, fun hb => by simp only; omega⟩
  · exact AdvS.fail h
theorem AdvS.kind {L : List Tk} {r : RS} (h : r.Ok L) (k : Int) : AdvS L r (kindR L r k).2 := by
  unfold kindR
  split
  · rename_i hp
    unfold kindB at hp
    simp only [Bool.and_eq_true, decide_eq_true_eq] at hp
    have h1 := kat_lt hp.2
    have h2 := h.b
    exact ⟨⟨by simp only; omega, h2, h.c⟩, fun hb => by omega, fun hb => by simp only; omega⟩
  · exact AdvS.fail h
theorem AdvS.simp {L : List Tk} {r : RS} (h : r.Ok L) (k : Int) (b : Bool) : AdvS L r (simpR L r k b).2 := by
  unfold simpR
  split
  · exact (AdvS.kind h 1).trans (AdvS.take (AdvS.kind h 1).ok sSem).adv
  · exact AdvS.take h sSem
def Goes (L : List Tk) (F : RS → Cm × RS) : Prop := ∀ r, RS.Ok L r → Adv L r (F r).2
theorem blks_adv {L : List Tk} {B : RS → Cm × RS} (hB : Goes L B) : ∀ (ws : List ByteArray) (r : RS) (l : List Cm), r.Ok L → Adv L r (blksR L B ws r l).2
  | [], r, l, h => Adv.refl h
  | w :: ws, r, l, h => by
    have h1 := (AdvS.take h w).adv
    have h2 := h1.trans (hB _ h1.ok)
    exact h2.trans (blks_adv hB ws _ _ h2.ok)
theorem blocks_adv {L : List Tk} {B : RS → Cm × RS} (hB : Goes L B) {r : RS} (h : r.Ok L) (ws : List ByteArray) : Adv L r (blocksR L B r ws).2 :=
  (hB r h).trans (blks_adv hB ws _ _ (hB r h).ok)
theorem rest_adv {L : List Tk} {C : RS → Cm × RS} (hC : Goes L C) : ∀ (n : Nat) (r : RS) (l : List Cm), r.Ok L → Adv L r (restR L C n r l).2
  | 0, r, l, h => Adv.refl h
  | n + 1, r, l, h => by
    unfold restR
    split
    · exact (hC r h).trans (rest_adv hC n _ _ (hC r h).ok)
    · exact Adv.refl h
theorem ors_adv {L : List Tk} {B : RS → Cm × RS} (hB : Goes L B) : ∀ (n : Nat) (r : RS) (l : List Cm), r.Ok L → Adv L r (orsR L B n r l).2
  | 0, r, l, h => Adv.refl h
  | n + 1, r, l, h => by
    unfold orsR
    split
    · rename_i hp
      have h1 : Adv L r ⟨r.at' + 1, r.bad⟩ := by
        have := (AdvS.take h sOr).adv
        unfold takeR at this
        rw [if_pos hp] at this
        exact this
      exact (h1.trans (hB _ h1.ok)).trans (ors_adv hB n _ _ (hB _ h1.ok).ok)
    · exact Adv.refl h
theorem block_adv {L : List Tk} {C : RS → Cm × RS} (hC : Goes L C) {r : RS} (h : r.Ok L) : AdvS L r (blockR L C r).2 := by
  have h1 := AdvS.take h sOp
  have h2 := hC _ h1.ok
  have h3 := rest_adv hC (L.length + 1) _ [(C (takeR L r sOp)).1] h2.ok
  exact ((h1.trans h2).trans h3).trans (AdvS.take h3.ok sCl).adv
theorem cmdS_adv {L : List Tk} {B : RS → Cm × RS} (hB : Goes L B) (w : ByteArray) {r : RS} (h : r.Ok L) (h1 : r.bad < 0 → 1 ≤ r.at') : Adv L r (cmdS L B w r).2 := by
  unfold cmdS asK
  repeat' split
  · exact (AdvS.simp h _ _).adv
  · exact (AdvS.simp h _ _).adv
  · exact (AdvS.simp h _ _).adv
  · exact (AdvS.simp h _ _).adv
  · exact blocks_adv hB h _
  · exact blocks_adv hB h _
  · exact blocks_adv hB h _
  · exact (blocks_adv hB h _).trans (ors_adv hB _ _ _ (blocks_adv hB h _).ok)
  · exact (AdvS.kind h 2).adv.trans (blocks_adv hB (AdvS.kind h 2).ok _)
  · rename_i hb
    have h2 := h.a
    have := h1 hb
    exact ⟨⟨h2, by show (-1 : Int) ≤ (r.at' : Int) - 1; omega, by show (r.at' : Int) - 1 ≤ L.length; omega⟩, fun hb' => by omega, fun _ => Nat.le_refl _⟩
  · exact Adv.refl h
theorem cmd_adv {L : List Tk} {B : RS → Cm × RS} (hB : Goes L B) {r : RS} (h : r.Ok L) : AdvS L r (cmdR L B r).2 := by
  unfold cmdR
  split
  · rename_i hb
    have h1 := AdvS.kind h 1
    exact h1.trans (cmdS_adv hB _ h1.ok fun h2 => by have := h1.lt h2; omega)
  · rename_i hn
    exact ⟨h, fun _ => rfl, fun hb => absurd hb hn⟩
theorem p_adv (L : List Tk) : ∀ n, Goes L (fun q => pCmd L n q) ∧ Goes L (fun q => pBlk L n q)
  | 0 => ⟨fun r h => by simp only [pCmd]; exact Adv.refl h, fun r h => by simp only [pBlk]; exact Adv.refl h⟩
  | n + 1 => by
    obtain ⟨h1, h2⟩ := p_adv L n
    exact ⟨fun r h => by simp only [pCmd]; exact (cmd_adv h2 h).adv, fun r h => by simp only [pBlk]; exact (block_adv h1 h).adv⟩
def rem (L : List Tk) (r : RS) : Nat := if r.bad < 0 then L.length + 1 - r.at' else 0
theorem rem_adv {L : List Tk} {r r' : RS} (h : Adv L r r') : rem L r' ≤ rem L r := by
  unfold rem
  by_cases hb : r'.bad < 0
  · have h1 := h.le hb
    have : r.bad < 0 := by
      rcases Int.lt_or_le r.bad 0 with h2 | h2
      · exact h2
      · rw [h.bd h2] at hb; omega
    rw [if_pos hb, if_pos this]
    omega
  · rw [if_neg hb]; omega
theorem rem_advS {L : List Tk} {r r' : RS} (h : AdvS L r r') (hr : r.bad < 0) (ho : r.Ok L) : rem L r' < rem L r := by
  have h0 := ho.a
  unfold rem
  rw [if_pos hr]
  by_cases hb : r'.bad < 0
  · have h1 := h.lt hb
    have h2 := h.ok.a
    rw [if_pos hb]
    omega
  · rw [if_neg hb]; omega
end Go.AM
namespace Go.AM
open Go Go.Proofs
def QRd (v0 : AV) (row : List AV) (ks : Nat) (box : Nat → Option (List (List AV))) (nb : Nat) (tok : Nat → Bool) (nt : Nat) (v : AV) (m : AMem) : Prop :=
  v = v0 ∧ m = ⟨upd box ks (some [row]), nb, tok, nt⟩
theorem upd_keep {box : Nat → Option (List (List AV))} {ks : Nat} {x : List (List AV)} (h : box ks = some x) : upd box ks (some x) = box := by
  funext k
  simp only [upd]
  split
  · rename_i e; rw [e]; exact h.symm
  · rfl
theorem fail_c (L : List Tk) (r : RS) (ks : Nat) (box : Nat → Option (List (List AV))) (hk : box ks = some [r.row L]) (nb : Nat) (tok : Nat → Bool) (nt : Nat) :
    ACalls Tryz.prog 82 [.ptr ks 0 0] ⟨box, nb, tok, nt⟩ (QRd (.tup []) ((failR r).row L) ks box nb tok nt) := by
  refine sB Tryz.func82 Tryz.ntmps82 ?_
  intro hbox htok
  simp only at hbox htok
  apply AL.start
  have kn := key_lt hbox hk
  by_cases hb : r.bad < 0
  · have hf : failR r = ⟨r.at', r.at'⟩ := if_pos hb
    try (simp [lb_out kn, hk, upd_lb_out kn, upd_same, hb])
    repeat (first | (refine sR ?_; simp [lb_out kn, hk, upd_lb_out kn, upd_same, hb]) | (refine sC ?_; simp [lb_out kn, hk, upd_lb_out kn, upd_same, hb]) | (refine sX ?_; simp only [AU, ↓reduceIte]))
    refine sE ?_
    refine ⟨by simp, (Fin.gen (vs := []) (av := .tup []) (tok' := tok) (nt' := nt) (by simp [resAs, resA]) (by rw [← upd_lb_out kn, hbox]) (Nat.le_refl _) (Nat.le_refl _) (fun t ht => ⟨ht, .inl rfl⟩) (outG (by simp)) (by simp [packA])).mono fun v m hq => ?_⟩
    exact ⟨hq.1, by rw [hf]; exact hq.2⟩
  · have hf : failR r = r := if_neg hb
    try (simp [lb_out kn, hk, upd_lb_out kn, upd_same, hb])
    repeat (first | (refine sR ?_; simp [lb_out kn, hk, upd_lb_out kn, upd_same, hb]) | (refine sC ?_; simp [lb_out kn, hk, upd_lb_out kn, upd_same, hb]) | (refine sX ?_; simp only [AU, ↓reduceIte]))
    refine sE ?_
    refine ⟨by simp, (Fin.gen (vs := []) (av := .tup []) (tok' := tok) (nt' := nt) (by simp [resAs, resA]) hbox (Nat.le_refl _) (Nat.le_refl _) (fun t ht => ⟨ht, .inl rfl⟩) (fun k rows _ h => .inl h) (by simp [packA])).mono fun v m hq => ?_⟩
    exact ⟨hq.1, by rw [hf, upd_keep hk]; exact hq.2⟩
theorem isAt_some {L : List Tk} {i : Nat} (h : i < L.length) (s : ByteArray) : isAt L i s = (decide (L[i].text = s) && (decide (L[i].kind = 1) || decide (L[i].kind = 4))) := by simp [isAt, h]
theorem isAt_none {L : List Tk} {i : Nat} (h : ¬ i < L.length) (s : ByteArray) : isAt L i s = false := by simp [isAt, h]
theorem kindAt_some {L : List Tk} {i : Nat} (h : i < L.length) (k : Int) : kindAt L i k = decide (L[i].kind = k) := by simp [kindAt, h]
theorem kindAt_none {L : List Tk} {i : Nat} (h : ¬ i < L.length) (k : Int) : kindAt L i k = false := by simp [kindAt, h]
theorem textAt_some {L : List Tk} {i : Nat} (h : i < L.length) : textAt L i = L[i].text := by simp [textAt, h]
set_option maxRecDepth 100000 in
theorem peek_c (L : List Tk) (r : RS) (s : ByteArray) (ks : Nat) (box : Nat → Option (List (List AV))) (hk : box ks = some [r.row L]) (nb : Nat) (tok : Nat → Bool) (nt : Nat) :
    ACalls Tryz.prog 45 [.ptr ks 0 0, Sb s] ⟨box, nb, tok, nt⟩ fun v m => v = B (peekB L r s) ∧ m = ⟨box, nb, tok, nt⟩ := by
  refine sB Tryz.func45 Tryz.ntmps45 ?_
  intro hbox htok
  simp only at hbox htok
  apply AL.start
  have kn := key_lt hbox hk
  by_cases hb : r.bad < 0
  · by_cases hlt : r.at' < L.length
    · have hlt' : (r.at' : Int) < L.length := by omega
      have hp : peekB L r s = (decide (L[r.at'].text = s) && (decide (L[r.at'].kind = 1) || decide (L[r.at'].kind = 4))) := by simp [peekB, hb, isAt_some hlt]
      have hsq := seq_dec L[r.at'].text s
      by_cases e1 : L[r.at'].text = s
      · have e1' : decide (L[r.at'].text = s) = true := by simp [e1]
        rw [e1'] at hsq hp
        by_cases e2 : L[r.at'].kind = 1
        · try (simp [lb_out kn, hk, hb, hlt, hlt', hsq, e2])
          repeat (first | (refine sR ?_; simp [lb_out kn, hk, hb, hlt, hlt', hsq, e2]) | (refine sC ?_; simp [lb_out kn, hk, hb, hlt, hlt', hsq, e2]) | (refine sX ?_; simp only [AU, ↓reduceIte]))
          refine sT ?_
          try simp only [AU]
          refine ⟨by simp, sF hbox htok (fun _ h => h) (Nat.le_refl _) ?_⟩
          simp [packA, hp, e2]
        · have b2 : (L[r.at'].kind == 1) = false := by simp [e2]
          try (simp [lb_out kn, hk, hb, hlt, hlt', hsq, b2])
          repeat (first | (refine sR ?_; simp [lb_out kn, hk, hb, hlt, hlt', hsq, b2]) | (refine sC ?_; simp [lb_out kn, hk, hb, hlt, hlt', hsq, b2]) | (refine sX ?_; simp only [AU, ↓reduceIte]))
          refine sT ?_
          try simp only [AU]
          refine ⟨by simp, sF hbox htok (fun _ h => h) (Nat.le_refl _) ?_⟩
          simp [packA, hp, e2, beqD]
      · have e1' : decide (L[r.at'].text = s) = false := by simp [e1]
        rw [e1'] at hsq hp
        try (simp [lb_out kn, hk, hb, hlt, hlt', hsq])
        repeat (first | (refine sR ?_; simp [lb_out kn, hk, hb, hlt, hlt', hsq]) | (refine sC ?_; simp [lb_out kn, hk, hb, hlt, hlt', hsq]) | (refine sX ?_; simp only [AU, ↓reduceIte]))
        refine sT ?_
        try simp only [AU]
        refine ⟨by simp, sF hbox htok (fun _ h => h) (Nat.le_refl _) ?_⟩
        simp [packA, hp]
    · have hlt' : ¬ (r.at' : Int) < L.length := by omega
      have hp : peekB L r s = false := by simp [peekB, isAt_none hlt]
      try (simp [lb_out kn, hk, hb, hlt'])
      repeat (first | (refine sR ?_; simp [lb_out kn, hk, hb, hlt']) | (refine sC ?_; simp [lb_out kn, hk, hb, hlt']) | (refine sX ?_; simp only [AU, ↓reduceIte]))
      refine sT ?_
      try simp only [AU]
      refine ⟨by simp, sF hbox htok (fun _ h => h) (Nat.le_refl _) ?_⟩
      simp [packA, hp]
  · have hp : peekB L r s = false := by simp [peekB, hb]
    try (simp [lb_out kn, hk, hb])
    repeat (first | (refine sR ?_; simp [lb_out kn, hk, hb]) | (refine sC ?_; simp [lb_out kn, hk, hb]) | (refine sX ?_; simp only [AU, ↓reduceIte]))
    refine sT ?_
    try simp only [AU]
    refine ⟨by simp, sF hbox htok (fun _ h => h) (Nat.le_refl _) ?_⟩
    simp [packA, hp]
set_option maxRecDepth 100000 in
theorem take_c (L : List Tk) (r : RS) (h : r.Ok L) (hL : L.length ≤ 200000000000000) (s : ByteArray) (ks : Nat) (box : Nat → Option (List (List AV))) (hk : box ks = some [r.row L]) (nb : Nat) (tok : Nat → Bool) (nt : Nat) :
    ACalls Tryz.prog 46 [.ptr ks 0 0, Sb s] ⟨box, nb, tok, nt⟩ (QRd (.tup []) ((takeR L r s).row L) ks box nb tok nt) := by
  have hpk := peek_c L r s ks
  have hfl := fail_c L r ks
  have ha := h.a
  refine sB Tryz.func46 Tryz.ntmps46 ?_
  intro hbox htok
  simp only at hbox htok
  apply AL.start
  have kn := key_lt hbox hk
  try (simp)
  repeat (refine sR ?_; simp)
  refine Stop.of_a (hpk _ (by simp only; rw [lb_out kn]; exact hk) _ _ _) ?_
  rintro v m ⟨rfl, rfl⟩
  have hw : IntKind.i64.wrap ((r.at' : Int) + 1) = ((r.at' + 1 : Nat) : Int) := by rw [wrap_in (by omega) (by omega)]; rfl
  cases hp : peekB L r s
  · have ht : takeR L r s = failR r := by simp [takeR, hp]
    try (simp)
    repeat (first | (refine sR ?_; simp) | (refine sC ?_; simp) | (refine sX ?_; simp only [AU, ↓reduceIte]))
    refine Stop.of_a (hfl _ (by simp only; rw [lb_out kn]; exact hk) _ _ _) ?_
    rintro v m ⟨rfl, rfl⟩
    try (simp [upd_lb_out kn])
    repeat (first | (refine sR ?_; simp [upd_lb_out kn]) | (refine sC ?_; simp [upd_lb_out kn]) | (refine sX ?_; simp only [AU, ↓reduceIte]))
    refine sE ?_
    refine ⟨by simp, (Fin.gen (vs := []) (av := .tup []) (tok' := tok) (nt' := nt) (by simp [resAs, resA]) (by rw [← upd_lb_out kn, hbox]) (Nat.le_refl _) (Nat.le_refl _) (fun t ht => ⟨ht, .inl rfl⟩) (outG (by simp)) (by simp [packA])).mono fun v m hq => ?_⟩
    exact ⟨hq.1, by rw [ht]; exact hq.2⟩
  · have ht : takeR L r s = ⟨r.at' + 1, r.bad⟩ := by simp [takeR, hp]
    try (simp [lb_out kn, hk, upd_lb_out kn, upd_same, hw])
    repeat (first | (refine sR ?_; simp [lb_out kn, hk, upd_lb_out kn, upd_same, hw]) | (refine sC ?_; simp [lb_out kn, hk, upd_lb_out kn, upd_same, hw]) | (refine sX ?_; simp only [AU, ↓reduceIte]))
    refine sT ?_
    try simp only [AU]
    refine ⟨by simp, (Fin.gen (vs := []) (av := .tup []) (tok' := tok) (nt' := nt) (by simp [resAs, resA]) (by rw [← upd_lb_out kn, hbox]) (Nat.le_refl _) (Nat.le_refl _) (fun t ht => ⟨ht, .inl rfl⟩) (outG (by simp)) (by simp [packA])).mono fun v m hq => ?_⟩
    exact ⟨hq.1, by rw [ht]; exact hq.2⟩
set_option maxRecDepth 100000 in
theorem kind_c (L : List Tk) (r : RS) (h : r.Ok L) (hL : L.length ≤ 200000000000000) (k : Int) (ks : Nat) (box : Nat → Option (List (List AV))) (hk : box ks = some [r.row L]) (nb : Nat) (tok : Nat → Bool) (nt : Nat) :
    ACalls Tryz.prog 47 [.ptr ks 0 0, I k] ⟨box, nb, tok, nt⟩ (QRd (Sb (kindR L r k).1) ((kindR L r k).2.row L) ks box nb tok nt) := by
  have hfl := fail_c L r ks
  have ha := h.a
  refine sB Tryz.func47 Tryz.ntmps47 ?_
  intro hbox htok
  simp only at hbox htok
  apply AL.start
  have kn := key_lt hbox hk
  have hw : IntKind.i64.wrap ((r.at' : Int) + 1) = ((r.at' + 1 : Nat) : Int) := by rw [wrap_in (by omega) (by omega)]; rfl
  have hw2 : IntKind.i64.wrap (r.at' : Int) = (r.at' : Int) := wrap_in (by omega) (by omega)
  by_cases hb : r.bad < 0
  · by_cases hlt : r.at' < L.length
    · have hlt' : (r.at' : Int) < L.length := by omega
      have hp : kindB L r k = decide (L[r.at'].kind = k) := by simp [kindB, hb, kindAt_some hlt]
      by_cases e1 : L[r.at'].kind = k
      · have b1 : (L[r.at'].kind == k) = true := by simp [e1]
        have ht : kindR L r k = (L[r.at'].text, ⟨r.at' + 1, r.bad⟩) := by simp [kindR, hp, e1, textAt_some hlt]
        try (simp [lb_out kn, hk, hb, hlt, hlt', b1, upd_lb_out kn, upd_same, hw, hw2])
        repeat (first | (refine sR ?_; simp [lb_out kn, hk, hb, hlt, hlt', b1, upd_lb_out kn, upd_same, hw, hw2]) | (refine sC ?_; simp [lb_out kn, hk, hb, hlt, hlt', b1, upd_lb_out kn, upd_same, hw, hw2]) | (refine sX ?_; simp only [AU, ↓reduceIte]))
        refine sT ?_
        try simp only [AU]
        refine ⟨by simp, (Fin.gen (av := Sb L[r.at'].text) (tok' := tok) (nt' := nt) (by simp [resAs, resA, lk]; rfl) (by rw [← upd_lb_out kn, hbox]) (Nat.le_refl _) (Nat.le_refl _) (fun t ht => ⟨ht, .inl rfl⟩) (outG (by simp)) (by simp [packA])).mono fun v m hq => ?_⟩
        exact ⟨by rw [ht]; exact hq.1, by rw [ht]; exact hq.2⟩
      · have b1 : (L[r.at'].kind == k) = false := by simp [e1]
        have ht : kindR L r k = (⟨#[]⟩, failR r) := by simp [kindR, hp, e1]
        try (simp [lb_out kn, hk, hb, hlt, hlt', b1])
        repeat (first | (refine sR ?_; simp [lb_out kn, hk, hb, hlt, hlt', b1]) | (refine sC ?_; simp [lb_out kn, hk, hb, hlt, hlt', b1]) | (refine sX ?_; simp only [AU, ↓reduceIte]))
        refine Stop.of_a (hfl _ (by simp only; rw [lb_out kn]; exact hk) _ _ _) ?_
        rintro v m ⟨rfl, rfl⟩
        try (simp [upd_lb_out kn])
        repeat (first | (refine sR ?_; simp [upd_lb_out kn]) | (refine sC ?_; simp [upd_lb_out kn]) | (refine sX ?_; simp only [AU, ↓reduceIte]))
        refine sT ?_
        try simp only [AU]
        refine ⟨by simp, (Fin.gen (av := Sb ⟨#[]⟩) (tok' := tok) (nt' := nt) (by simp [resAs, resA, lk]; rfl) (by rw [← upd_lb_out kn, hbox]) (Nat.le_refl _) (Nat.le_refl _) (fun t ht => ⟨ht, .inl rfl⟩) (outG (by simp)) (by simp [packA])).mono fun v m hq => ?_⟩
        exact ⟨by rw [ht]; exact hq.1, by rw [ht]; exact hq.2⟩
    · have hlt' : ¬ (r.at' : Int) < L.length := by omega
      have ht : kindR L r k = (⟨#[]⟩, failR r) := by simp [kindR, kindB, kindAt_none hlt]
      try (simp [lb_out kn, hk, hb, hlt'])
      repeat (first | (refine sR ?_; simp [lb_out kn, hk, hb, hlt']) | (refine sC ?_; simp [lb_out kn, hk, hb, hlt']) | (refine sX ?_; simp only [AU, ↓reduceIte]))
      refine Stop.of_a (hfl _ (by simp only; rw [lb_out kn]; exact hk) _ _ _) ?_
      rintro v m ⟨rfl, rfl⟩
      try (simp [upd_lb_out kn])
      repeat (first | (refine sR ?_; simp [upd_lb_out kn]) | (refine sC ?_; simp [upd_lb_out kn]) | (refine sX ?_; simp only [AU, ↓reduceIte]))
      refine sT ?_
      try simp only [AU]
      refine ⟨by simp, (Fin.gen (av := Sb ⟨#[]⟩) (tok' := tok) (nt' := nt) (by simp [resAs, resA, lk]; rfl) (by rw [← upd_lb_out kn, hbox]) (Nat.le_refl _) (Nat.le_refl _) (fun t ht => ⟨ht, .inl rfl⟩) (outG (by simp)) (by simp [packA])).mono fun v m hq => ?_⟩
      exact ⟨by rw [ht]; exact hq.1, by rw [ht]; exact hq.2⟩
  · have ht : kindR L r k = (⟨#[]⟩, failR r) := by simp [kindR, kindB, hb]
    try (simp [lb_out kn, hk, hb])
    repeat (first | (refine sR ?_; simp [lb_out kn, hk, hb]) | (refine sC ?_; simp [lb_out kn, hk, hb]) | (refine sX ?_; simp only [AU, ↓reduceIte]))
    refine Stop.of_a (hfl _ (by simp only; rw [lb_out kn]; exact hk) _ _ _) ?_
    rintro v m ⟨rfl, rfl⟩
    try (simp [upd_lb_out kn])
    repeat (first | (refine sR ?_; simp [upd_lb_out kn]) | (refine sC ?_; simp [upd_lb_out kn]) | (refine sX ?_; simp only [AU, ↓reduceIte]))
    refine sT ?_
    try simp only [AU]
    refine ⟨by simp, (Fin.gen (av := Sb ⟨#[]⟩) (tok' := tok) (nt' := nt) (by simp [resAs, resA, lk]; rfl) (by rw [← upd_lb_out kn, hbox]) (Nat.le_refl _) (Nat.le_refl _) (fun t ht => ⟨ht, .inl rfl⟩) (outG (by simp)) (by simp [packA])).mono fun v m hq => ?_⟩
    exact ⟨by rw [ht]; exact hq.1, by rw [ht]; exact hq.2⟩
set_option maxRecDepth 100000 in
theorem simple_c (L : List Tk) (r : RS) (h : r.Ok L) (hL : L.length ≤ 200000000000000) (k : Int) (named : Bool) (ks : Nat) (box : Nat → Option (List (List AV))) (hk : box ks = some [r.row L]) (nb : Nat) (tok : Nat → Bool) (nt : Nat) :
    ACalls Tryz.prog 125 [.ptr ks 0 0, I k, B named] ⟨box, nb, tok, nt⟩ (QRd (simpR L r k named).1.av ((simpR L r k named).2.row L) ks box nb tok nt) := by
  have h1 := (AdvS.kind h 1).ok
  cases named
  · have ht : simpR L r k false = (.mk k ⟨#[]⟩ 0 [], takeR L r sSem) := by simp [simpR]
    rw [ht]
    have ht1 := take_c L r h hL sSem ks
    refine sB Tryz.func125 Tryz.ntmps125 ?_
    intro hbox htok
    simp only at hbox htok
    apply AL.start
    have kn := key_lt hbox hk
    try (simp)
    repeat (first | (refine sR ?_; simp) | (refine sC ?_; simp) | (refine sX ?_; simp only [AU, ↓reduceIte]))
    refine Stop.of_a (ht1 _ (by simp only; rw [lb_out kn]; exact hk) _ _ _) ?_
    rintro v m ⟨rfl, rfl⟩
    try (simp [upd_lb_out kn])
    repeat (first | (refine sR ?_; simp [upd_lb_out kn]) | (refine sC ?_; simp [upd_lb_out kn]) | (refine sX ?_; simp only [AU, ↓reduceIte]))
    refine sT ?_
    try simp only [AU]
    refine ⟨by simp, (Fin.gen (av := Cm.av (.mk k ⟨#[]⟩ 0 [])) (tok' := tok) (nt' := nt) (by simp [resAs, resA, lk]; rfl) (by rw [← upd_lb_out kn, hbox]) (Nat.le_refl _) (Nat.le_refl _) (fun t ht => ⟨ht, .inl rfl⟩) (outG (by simp)) (by simp [packA, Cm.kind, Cm.name, Cm.num, Cm.kids, cms])).mono fun v m hq => ?_⟩
    exact hq
  · have ht : simpR L r k true = (.mk k (kindR L r 1).1 0 [], takeR L (kindR L r 1).2 sSem) := by simp [simpR]
    rw [ht]
    have ht0 := kind_c L r h hL 1 ks
    have ht1 := take_c L (kindR L r 1).2 h1 hL sSem ks
    generalize kindR L r 1 = K at *
    refine sB Tryz.func125 Tryz.ntmps125 ?_
    intro hbox htok
    simp only at hbox htok
    apply AL.start
    have kn := key_lt hbox hk
    try (simp)
    repeat (first | (refine sR ?_; simp) | (refine sC ?_; simp) | (refine sX ?_; simp only [AU, ↓reduceIte]))
    refine Stop.of_a (ht0 _ (by simp only; rw [lb_out kn]; exact hk) _ _ _) ?_
    rintro v m ⟨rfl, rfl⟩
    try (simp [upd_lb_out kn])
    repeat (first | (refine sR ?_; simp [upd_lb_out kn]) | (refine sC ?_; simp [upd_lb_out kn]) | (refine sX ?_; simp only [AU, ↓reduceIte]))
    refine Stop.of_a (ht1 _ (by simp only; rw [lb_out kn, upd_same]) _ _ _) ?_
    rintro v m ⟨rfl, rfl⟩
    try (simp [upd_lb_out kn, upd_upd])
    repeat (first | (refine sR ?_; simp [upd_lb_out kn, upd_upd]) | (refine sC ?_; simp [upd_lb_out kn, upd_upd]) | (refine sX ?_; simp only [AU, ↓reduceIte]))
    refine sT ?_
    try simp only [AU]
    refine ⟨by simp, (Fin.gen (av := Cm.av (.mk k K.1 0 [])) (tok' := tok) (nt' := nt) (by simp [resAs, resA, lk]; rfl) (by rw [← upd_lb_out kn, hbox]) (Nat.le_refl _) (Nat.le_refl _) (fun t ht => ⟨ht, .inl rfl⟩) (outG (by simp)) (by simp [packA, Cm.kind, Cm.name, Cm.num, Cm.kids, cms])).mono fun v m hq => ?_⟩
    exact hq
end Go.AM
namespace Go.AM
open Go Go.Proofs
def PrdC (P : Program) (L : List Tk) (f : FuncId) (F : RS → Cm × RS) (n : Nat) : Prop := ∀ r : RS, r.Ok L → rem L r ≤ n → ∀ (ks : Nat) (box : Nat → Option (List (List AV))), box ks = some [r.row L] → ∀ (nb : Nat) (tok : Nat → Bool) (nt : Nat),
  ACalls P f [.ptr ks 0 0] ⟨box, nb, tok, nt⟩ (QRd (F r).1.av ((F r).2.row L) ks box nb tok nt)
def GoesN (L : List Tk) (F : RS → Cm × RS) (n : Nat) : Prop := ∀ r : RS, r.Ok L → rem L r ≤ n → r.bad < 0 → AdvS L r (F r).2
structure AccR where
  r : RS
  l : List Cm
  own : Own
  tok : Nat → Bool
  nt : Nat
  f : Nat
structure RInv (L : List Tk) (C : RS → Cm × RS) (n : Nat) (R : List Cm × RS) (mtok : Nat → Bool) (nt0 : Nat) (x : AccR) : Prop where
  ok : x.r.Ok L
  n : rem L x.r ≤ n
  f : rem L x.r ≤ x.f
  e : restR L C x.f x.r x.l = R
  l : x.l.length + x.f ≤ L.length + 2
  g : 1 ≤ x.l.length
  k : TK mtok nt0 x.tok x.nt [x.own]
theorem RInv.of {L : List Tk} {C : RS → Cm × RS} {n : Nat} {R : List Cm × RS} {mtok : Nat → Bool} {nt0 : Nat} {r : RS} {l : List Cm} {own : Own} {tok : Nat → Bool} {nt f : Nat} (h1 : r.Ok L) (h2 : rem L r ≤ n) (h3 : rem L r ≤ f) (h4 : restR L C f r l = R) (h5 : l.length + f ≤ L.length + 2) (h6 : 1 ≤ l.length) (h7 : TK mtok nt0 tok nt [own]) :
    RInv L C n R mtok nt0 ⟨r, l, own, tok, nt, f⟩ := ⟨h1, h2, h3, h4, h5, h6, h7⟩
abbrev zRow46 : List AV := [I 0, Sb ⟨#[]⟩, I 0, nilS]
def stBl (L : List Tk) (ks nb : Nat) (box : Nat → Option (List (List AV))) (x : AccR) : AState :=
  ⟨tl [(3, .osl 4 (x.l.map Cm.cells) x.own), (2, .ptr (nb + 2) 0 0), (0, .ptr ks 0 0)], lb nb (upd box ks (some [x.r.row L])) [(2, [zRow46])], x.tok, x.nt⟩
theorem rem_zero {L : List Tk} {r : RS} (h : r.Ok L) (h0 : rem L r = 0) : ¬ r.bad < 0 := by
  intro hb
  have := h.a
  unfold rem at h0
  rw [if_pos hb] at h0
  omega
set_option maxRecDepth 100000 in
theorem block_of (L : List Tk) (hL : L.length ≤ 1000000000) (C : RS → Cm × RS) (n : Nat) (hC : PrdC Tryz.prog L 83 C n) (hG : Goes L C) (hN : GoesN L C n) : PrdC Tryz.prog L 48 (blockR L C) (n + 1) := by
  intro r h hr ks box hk nb tok nt
  have t1 := take_c L r h (by omega) sOp ks
  have a1 := AdvS.take h sOp
  have hrem : rem L (takeR L r sOp) ≤ n := by
    by_cases hb : r.bad < 0
    · have := rem_advS a1 hb h; omega
    · rw [a1.bd (by omega)]; unfold rem; rw [if_neg hb]; omega
  have a2 := hG _ a1.ok
  have c1 := hC _ a1.ok hrem ks
  have hR : blockR L C r = (wrapC (restR L C (L.length + 1) (C (takeR L r sOp)).2 [(C (takeR L r sOp)).1]).1, takeR L (restR L C (L.length + 1) (C (takeR L r sOp)).2 [(C (takeR L r sOp)).1]).2 sCl) := rfl
  have hrem2 := rem_adv a2
  rw [hR]
  generalize takeR L r sOp = r1 at *
  obtain ⟨c0, r2, hc0⟩ : ∃ c0 r2, C r1 = (c0, r2) := ⟨_, _, rfl⟩
  rw [hc0] at c1 a2 hrem2 ⊢
  simp only at c1 a2 hrem2 ⊢
  obtain ⟨R, hRR⟩ : ∃ R, restR L C (L.length + 1) r2 [c0] = R := ⟨_, rfl⟩
  rw [hRR]
  have hrl : rem L r2 ≤ L.length + 1 := by unfold rem; split <;> omega
  refine sB Tryz.func48 Tryz.ntmps48 ?_
  intro hbox htok
  simp only at hbox htok
  apply AL.start
  have kn := key_lt hbox hk
  have ht0 := TK.start htok
  try (simp)
  repeat (first | (refine sR ?_; simp) | (refine sC ?_; simp) | (refine sX ?_; simp only [AU, ↓reduceIte]))
  refine Stop.of_a (t1 _ (by simp only; rw [lb_out kn]; exact hk) _ _ _) ?_
  rintro v m ⟨rfl, rfl⟩
  try (simp [upd_lb_out kn])
  repeat (first | (refine sR ?_; simp [upd_lb_out kn]) | (refine sC ?_; simp [upd_lb_out kn]) | (refine sX ?_; simp only [AU, ↓reduceIte]))
  refine Stop.of_a (c1 _ (by simp only; rw [lb_out kn, upd_same]) _ _ _) ?_
  rintro v m ⟨rfl, rfl⟩
  try (simp [upd_lb_out kn, upd_upd])
  repeat (first | (refine sR ?_; simp [upd_lb_out kn, upd_upd]) | (refine sC ?_; simp [upd_lb_out kn, upd_upd]) | (refine sX ?_; simp only [AU, ↓reduceIte]))
  refine sN ?_
  refine AL.loopT (stBl L ks nb box) (RInv L C n R tok nt) (fun x => x.f) ⟨r2, [c0], .full, tok, nt, L.length + 1⟩ (RInv.of a2.ok (by omega) hrl hRR (by simp; omega) (by simp) ht0.full)
    (Weaks.mk' (Nat.le_refl _) (by simp [ToL, lk, Cm.cells_eq]; exact to_ptr (by rw [lb_out kn, upd_same]; simp)) (by simp [BoxL, lk]) (outG (by simp))) ?_
  rintro ⟨r, l, own, tok1, nt1, f⟩ S hinv hS
  obtain ⟨ho, hn1, hf, he, hl, hg, htk⟩ := hinv
  simp only [stBl] at hS ho hn1 hf he hl hg htk ⊢
  subst hS
  have pk := peek_c L r sCl ks
  by_cases hb : r.bad < 0
  · cases hp : peekB L r sCl
    · have c2 := hC r ho hn1 ks
      have a3 := hN r ho hn1 hb
      have hlt := rem_advS a3 hb ho
      obtain ⟨f, rfl⟩ : ∃ f', f = f' + 1 := ⟨f - 1, by omega⟩
      rw [restR, if_pos ⟨hb, hp⟩] at he
      obtain ⟨c3, r3, hc3⟩ : ∃ c3 r3, C r = (c3, r3) := ⟨_, _, rfl⟩
      rw [hc3] at c2 a3 hlt he
      simp only at c2 a3 hlt he
      try (simp [lb_out kn, upd_same, hb])
      repeat (first | (refine sR ?_; simp [lb_out kn, upd_same, hb]) | (refine sC ?_; simp [lb_out kn, upd_same, hb]) | (refine sX ?_; simp only [AU, ↓reduceIte]))
      refine Stop.of_a (pk _ (by simp only; rw [lb_out kn, upd_same]) _ _ _) ?_
      rintro v m ⟨rfl, rfl⟩
      try (simp [hp])
      repeat (first | (refine sR ?_; simp [hp]) | (refine sC ?_; simp [hp]) | (refine sX ?_; simp only [AU, ↓reduceIte]))
      refine Stop.of_a (c2 _ (by simp only; rw [lb_out kn, upd_same]) _ _ _) ?_
      rintro v m ⟨rfl, rfl⟩
      try (simp [upd_lb_out kn, upd_upd])
      repeat (first | (refine sR ?_; simp [upd_lb_out kn, upd_upd]) | (refine sC ?_; simp [upd_lb_out kn, upd_upd]) | (refine sX ?_; simp only [AU, ↓reduceIte]))
      refine ⟨⟨by omega, htk.live⟩, ?_⟩
      try (simp)
      repeat (first | (refine sR ?_; simp) | (refine sC ?_; simp) | (refine sX ?_; simp only [AU, ↓reduceIte]))
      refine sE ?_
      refine ⟨⟨r3, l ++ [c3], .tok nt1, upd (own.kill tok1) nt1 true, nt1 + 1, f⟩, RInv.of a3.ok (by omega) (by omega) he (by simp; omega) (by simp) htk.app, by simp only; omega, ?_⟩
      simp only [stBl]
      exact Weaks.mk' (by have := htk.le; omega) (by simp [ToL, lk, Cm.cells_eq]; exact to_ptr (by rw [lb_out kn, upd_same]; simp)) (by simp [BoxL, lk]) (outG (by simp))
    · have he2 : restR L C f r l = (l, r) := by
        cases f with
        | zero => rfl
        | succ f => rw [restR, if_neg (by simp [hp])]
      rw [he2] at he
      subst he
      have t2 := take_c L r ho (by omega) sCl ks
      try (simp [lb_out kn, upd_same, hb])
      repeat (first | (refine sR ?_; simp [lb_out kn, upd_same, hb]) | (refine sC ?_; simp [lb_out kn, upd_same, hb]) | (refine sX ?_; simp only [AU, ↓reduceIte]))
      refine Stop.of_a (pk _ (by simp only; rw [lb_out kn, upd_same]) _ _ _) ?_
      rintro v m ⟨rfl, rfl⟩
      try (simp [hp])
      repeat (first | (refine sR ?_; simp [hp]) | (refine sC ?_; simp [hp]) | (refine sX ?_; simp only [AU, ↓reduceIte]))
      refine Stop.of_a (t2 _ (by simp only; rw [lb_out kn, upd_same]) _ _ _) ?_
      rintro v m ⟨rfl, rfl⟩
      match l, hg with
      | [c], _ =>
        try (simp [upd_lb_out kn, upd_upd, Cm.cells_eq])
        repeat (first | (refine sR ?_; simp [upd_lb_out kn, upd_upd, Cm.cells_eq]) | (refine sC ?_; simp [upd_lb_out kn, upd_upd, Cm.cells_eq]) | (refine sX ?_; simp only [AU, ↓reduceIte]))
        refine sT ?_
        try simp only [AU]
        refine ⟨by simp, (Fin.gen (av := Cm.av c) (tok' := tok) (nt' := nt) (by simp [resAs, resA, lk]; rfl) (by rw [← upd_lb_out kn, hbox]) (Nat.le_refl _) htk.le (fun t ht => ⟨htk.old t ht, .inr (htok t ht)⟩) (outG (by simp)) (by simp [packA])).mono fun v m hq => ?_⟩
        exact hq
      | a :: b :: rest, _ =>
        have hb1 : (((rest.length : Int) + 1 + 1) == 1) = false := by rw [beq_eq_false_iff_ne]; omega
        try (simp [upd_lb_out kn, upd_upd, hb1])
        repeat (first | (refine sR ?_; simp [upd_lb_out kn, upd_upd, hb1]) | (refine sC ?_; simp [upd_lb_out kn, upd_upd, hb1]) | (refine sX ?_; simp only [AU, ↓reduceIte]))
        refine sT ?_
        try simp only [AU]
        refine ⟨by simp, (Fin.gen (av := Cm.av (.mk 2 ⟨#[]⟩ 0 (a :: b :: rest))) (tok' := tok) (nt' := nt) (by simp [resAs, resA, lk]; rfl) (by rw [← upd_lb_out kn, hbox]) (Nat.le_refl _) htk.le (fun t ht => ⟨htk.old t ht, .inr (htok t ht)⟩) (outG (by simp)) (by simp [packA, Cm.kind, Cm.name, Cm.num, Cm.kids, cms])).mono fun v m hq => ?_⟩
        exact hq
  · have he2 : restR L C f r l = (l, r) := by
      cases f with
      | zero => rfl
      | succ f => rw [restR, if_neg (by simp [hb])]
    rw [he2] at he
    subst he
    have t2 := take_c L r ho (by omega) sCl ks
    try (simp [lb_out kn, upd_same, hb])
    repeat (first | (refine sR ?_; simp [lb_out kn, upd_same, hb]) | (refine sC ?_; simp [lb_out kn, upd_same, hb]) | (refine sX ?_; simp only [AU, ↓reduceIte]))
    refine Stop.of_a (t2 _ (by simp only; rw [lb_out kn, upd_same]) _ _ _) ?_
    rintro v m ⟨rfl, rfl⟩
    match l, hg with
    | [c], _ =>
      try (simp [upd_lb_out kn, upd_upd, Cm.cells_eq])
      repeat (first | (refine sR ?_; simp [upd_lb_out kn, upd_upd, Cm.cells_eq]) | (refine sC ?_; simp [upd_lb_out kn, upd_upd, Cm.cells_eq]) | (refine sX ?_; simp only [AU, ↓reduceIte]))
      refine sT ?_
      try simp only [AU]
      refine ⟨by simp, (Fin.gen (av := Cm.av c) (tok' := tok) (nt' := nt) (by simp [resAs, resA, lk]; rfl) (by rw [← upd_lb_out kn, hbox]) (Nat.le_refl _) htk.le (fun t ht => ⟨htk.old t ht, .inr (htok t ht)⟩) (outG (by simp)) (by simp [packA])).mono fun v m hq => ?_⟩
      exact hq
    | a :: b :: rest, _ =>
      have hb1 : (((rest.length : Int) + 1 + 1) == 1) = false := by rw [beq_eq_false_iff_ne]; omega
      try (simp [upd_lb_out kn, upd_upd, hb1])
      repeat (first | (refine sR ?_; simp [upd_lb_out kn, upd_upd, hb1]) | (refine sC ?_; simp [upd_lb_out kn, upd_upd, hb1]) | (refine sX ?_; simp only [AU, ↓reduceIte]))
      refine sT ?_
      try simp only [AU]
      refine ⟨by simp, (Fin.gen (av := Cm.av (.mk 2 ⟨#[]⟩ 0 (a :: b :: rest))) (tok' := tok) (nt' := nt) (by simp [resAs, resA, lk]; rfl) (by rw [← upd_lb_out kn, hbox]) (Nat.le_refl _) htk.le (fun t ht => ⟨htk.old t ht, .inr (htok t ht)⟩) (outG (by simp)) (by simp [packA, Cm.kind, Cm.name, Cm.num, Cm.kids, cms])).mono fun v m hq => ?_⟩
      exact hq
end Go.AM
namespace Go.AM
open Go Go.Proofs
structure AccS where
  i : Nat
  r : RS
  l : List Cm
  own : Own
  tok : Nat → Bool
  nt : Nat
structure SInv (L : List Tk) (B : RS → Cm × RS) (n : Nat) (ws : List ByteArray) (R : List Cm × RS) (mtok : Nat → Bool) (nt0 : Nat) (x : AccS) : Prop where
  i : x.i ≤ ws.length
  ok : x.r.Ok L
  n : rem L x.r ≤ n
  e : blksR L B (ws.drop x.i) x.r x.l = R
  l : x.l.length = x.i + 1
  k : TK mtok nt0 x.tok x.nt [x.own]
theorem SInv.of {L : List Tk} {B : RS → Cm × RS} {n : Nat} {ws : List ByteArray} {R : List Cm × RS} {mtok : Nat → Bool} {nt0 : Nat} {i : Nat} {r : RS} {l : List Cm} {own : Own} {tok : Nat → Bool} {nt : Nat} (h1 : i ≤ ws.length) (h2 : r.Ok L) (h3 : rem L r ≤ n) (h4 : blksR L B (ws.drop i) r l = R) (h5 : l.length = i + 1) (h6 : TK mtok nt0 tok nt [own]) :
    SInv L B n ws R mtok nt0 ⟨i, r, l, own, tok, nt⟩ := ⟨h1, h2, h3, h4, h5, h6⟩
def stBs (L : List Tk) (k : Int) (ws : List ByteArray) (ks nb : Nat) (box : Nat → Option (List (List AV))) (x : AccS) : AState :=
  ⟨tl [(15, .d (strs ws)), (16, I ws.length), (17, I x.i), (7, .ptr (nb + 7) 0 0), (6, .ptr (nb + 6) 0 0), (0, .ptr ks 0 0)], lb nb (upd box ks (some [x.r.row L])) [(7, [[I k, Sb ⟨#[]⟩, I 0, .osl 4 (x.l.map Cm.cells) x.own]]), (6, [zRow46])], x.tok, x.nt⟩
def QBk (L : List Tk) (k : Int) (x : List Cm × RS) (ks : Nat) (box : Nat → Option (List (List AV))) (nb : Nat) (tok : Nat → Bool) (nt : Nat) (v : AV) (m : AMem) : Prop :=
  ∃ own tok' nt', TK tok nt tok' nt' [own] ∧ v = .agg [I k, Sb ⟨#[]⟩, I 0, .osl 4 (x.1.map Cm.cells) own] ∧ m = ⟨upd box ks (some [x.2.row L]), nb, tok', nt'⟩
set_option maxRecDepth 100000 in
theorem blocks_of (L : List Tk) (hL : L.length ≤ 1000000000) (B : RS → Cm × RS) (n : Nat) (hB : PrdC Tryz.prog L 48 B n) (hG : Goes L B) (k : Int) (ws : List ByteArray) (hw : ws.length ≤ 100) :
    ∀ r : RS, r.Ok L → rem L r ≤ n → ∀ (ks : Nat) (box : Nat → Option (List (List AV))), box ks = some [r.row L] → ∀ (nb : Nat) (tok : Nat → Bool) (nt : Nat),
  ACalls Tryz.prog 126 [.ptr ks 0 0, I k, .d (strs ws)] ⟨box, nb, tok, nt⟩ (QBk L k (blocksR L B r ws) ks box nb tok nt) := by
  intro r h hr ks box hk nb tok nt
  have a1 := hG r h
  have c1 := hB r h hr ks
  have hrem := rem_adv a1
  obtain ⟨R, hRR⟩ : ∃ R, blocksR L B r ws = R := ⟨_, rfl⟩
  rw [hRR]
  unfold blocksR at hRR
  obtain ⟨c0, r1, hc0⟩ : ∃ c0 r1, B r = (c0, r1) := ⟨_, _, rfl⟩
  rw [hc0] at a1 c1 hrem hRR
  simp only at a1 c1 hrem hRR
  refine sB Tryz.func126 Tryz.ntmps126 ?_
  intro hbox htok
  simp only at hbox htok
  apply AL.start
  have kn := key_lt hbox hk
  have ht0 := TK.start htok
  try (simp)
  repeat (first | (refine sR ?_; simp) | (refine sC ?_; simp) | (refine sX ?_; simp only [AU, ↓reduceIte]))
  refine Stop.of_a (c1 _ (by simp only; rw [lb_out kn]; exact hk) _ _ _) ?_
  rintro v m ⟨rfl, rfl⟩
  try (simp [upd_lb_out kn])
  repeat (first | (refine sR ?_; simp [upd_lb_out kn]) | (refine sC ?_; simp [upd_lb_out kn]) | (refine sX ?_; simp only [AU, ↓reduceIte]))
  refine sN ?_
  refine AL.loopT (stBs L k ws ks nb box) (SInv L B n ws R tok nt) (fun x => ws.length - x.i) ⟨0, r1, [c0], .full, tok, nt⟩ (SInv.of (Nat.zero_le _) a1.ok (by omega) (by rw [List.drop_zero]; exact hRR) rfl ht0.full)
    (Weaks.mk' (Nat.le_refl _) (by simp [ToL, lk]; exact to_ptr (by rw [lb_out kn, upd_same]; simp)) (by simp [BoxL, lk, Cm.cells_eq]) (outG (by simp))) ?_
  rintro ⟨i, r, l, own, tok1, nt1⟩ S hinv hS
  obtain ⟨hi, ho, hn1, he, hl, htk⟩ := hinv
  simp only [stBs] at hS hi ho hn1 he hl htk ⊢
  subst hS
  have hwi : IntKind.i64.wrap ((i : Int) + 1) = ((i + 1 : Nat) : Int) := by rw [wrap_in (by omega) (by omega)]; rfl
  by_cases hlt : i < ws.length
  · rw [List.drop_eq_getElem_cons hlt, blksR] at he
    have t1 := take_c L r ho (by omega) ws[i] ks
    have a2 := AdvS.take ho ws[i]
    have hr2 := rem_adv a2.adv
    generalize takeR L r ws[i] = r2 at *
    have c2 := hB r2 a2.ok (by omega) ks
    have a3 := hG r2 a2.ok
    have hr3 := rem_adv a3
    obtain ⟨c3, r3, hc3⟩ : ∃ c3 r3, B r2 = (c3, r3) := ⟨_, _, rfl⟩
    rw [hc3] at c2 a3 hr3 he
    simp only at c2 a3 hr3 he
    try (simp [hlt])
    repeat (first | (refine sR ?_; simp [hlt]) | (refine sC ?_; simp [hlt]) | (refine sX ?_; simp only [AU, ↓reduceIte]))
    refine Stop.of_a (t1 _ (by simp only; rw [lb_out kn, upd_same]) _ _ _) ?_
    rintro v m ⟨rfl, rfl⟩
    simp [upd_lb_out kn, upd_upd]
    have hne7 : nb + 7 ≠ ks := by omega
    refine sN ?_
    refine AL.region3 follows_Tryz (Nat.le_refl _) (by kernel_rfl) (Side.of (by simp)) [(Operand.tmp 24, Operand.tmp 26)] (by kernel_rfl) ?_
    simp [lb_out kn, upd_lb_out kn, upd_same]
    refine StopW.of_w rfl rfl (by simp only; rw [lb_out kn, upd_same]; simp) (fun box' nb' hb' => (c2 box' (by rw [hb']; simp only; rw [lb_out kn, upd_same]) nb' tok1 nt1).mono fun v m1 hq => ⟨hq.1, hq.2⟩) ?_
    simp [lb_out kn, upd_lb_out kn, upd_same, upd_upd, NK, hne7]
    refine ⟨⟨by omega, htk.live⟩, ?_⟩
    try (simp [hwi])
    repeat (first | (refine sR ?_; simp [hwi]) | (refine sC ?_; simp [hwi]) | (refine sX ?_; simp only [AU, ↓reduceIte]))
    refine sE ?_
    refine ⟨⟨i + 1, r3, l ++ [c3], .tok nt1, upd (own.kill tok1) nt1 true, nt1 + 1⟩, SInv.of hlt a3.ok (by omega) he (by simp [hl]) htk.app, by simp only; omega, ?_⟩
    simp only [stBs]
    exact Weaks.mk' (by have := htk.le; omega) (by simp [ToL, lk]; exact to_ptr (by rw [lb_out kn, upd_same]; simp)) (by simp [BoxL, lk, Cm.cells_eq]) (outG (by simp))
  · have : i = ws.length := by omega
    subst this
    rw [List.drop_length, blksR] at he
    subst he
    try (simp [hlt])
    repeat (first | (refine sR ?_; simp [hlt]) | (refine sC ?_; simp [hlt]) | (refine sX ?_; simp only [AU, ↓reduceIte]))
    refine sT ?_
    try simp only [AU]
    refine ⟨by simp, (Fin.gen (av := .agg [I k, Sb ⟨#[]⟩, I 0, .osl 4 (l.map Cm.cells) own]) (tok' := tok1) (nt' := nt1) (by simp [resAs, resA, lk]; rfl) (by rw [← upd_lb_out kn, hbox]) htk.le (Nat.le_refl _) (fun t ht => ⟨ht, .inl rfl⟩) (outG (by simp)) (by simp [packA])).mono fun v m hq => ⟨own, tok1, nt1, htk, hq.1, hq.2⟩⟩
end Go.AM
namespace Go.AM
open Go Go.Proofs
theorem numB_next {s : ByteArray} (h1 : 1 ≤ s.size) : ((decide ((nextR s).2.2 = 0) && decide ((nextR s).1 = 2)) && decide ((nextR s).2.1 = (s.size : Int))) = numB s := by
  unfold numB nextR
  by_cases e1 : letB (byteAt s 0) = true
  · have hd := let_dig e1
    have h0 := runN_stop hd
    rw [if_pos e1, h0]
    have : ¬ 0 = s.size := by omega
    split <;> simp [this]
  · rw [if_neg e1]
    by_cases e2 : digB (byteAt s 0) = true
    · rw [if_pos e2]
      by_cases e3 : 9 < runN digB s 0
      · rw [if_pos e3, Bool.eq_iff_iff]
        simp
        omega
      · rw [if_neg e3, Bool.eq_iff_iff]
        simp
        omega
    · have h0 := runN_stop (p := digB) (s := s) (a := 0) (by simpa using e2)
      have : ¬ 0 = s.size := by omega
      rw [if_neg e2, h0]
      simp only [this, decide_false, Bool.and_false]
      split
      · simp
      · split
        · simp
        · split <;> simp
theorem whole2_c (s : ByteArray) (hs : s.size ≤ 200000000000000) (tok : Nat → Bool) (nt : Nat) : DCall Tryz.prog 111 [.agg [I 2, Sb s, I 0]] tok nt (.tup [Sb s, B (numB s)]) tok nt := by
  intro box nb
  by_cases h0 : s.size = 0
  · have b0 : (s.toList == (⟨#[]⟩ : ByteArray).toList) = true := by rw [empty_dec]; simp [h0]
    have hse : s = ⟨#[]⟩ := by rw [seq_dec] at b0; simpa using b0
    have hn : numB s = false := by simp [numB, h0]
    rw [hn]
    refine sB Tryz.func111 Tryz.ntmps111 ?_
    intro hbox htok
    simp only at hbox htok
    apply AL.start
    try (simp)
    repeat (refine sR ?_; simp)
    refine sC ?_
    simp
    have b1 : s.toList = [] := by simpa using b0
    try (simp)
    repeat (refine sR ?_; simp)
    refine sC ?_
    simp [b1]
    try (simp)
    repeat (refine sR ?_; simp)
    refine sT ?_
    try simp only [AU]
    refine ⟨by simp, sF hbox htok (fun _ h => h) (Nat.le_refl _) ?_⟩
    simp [packA, hse]
  · have b0 : (s.toList == (⟨#[]⟩ : ByteArray).toList) = false := by rw [empty_dec]; simp [h0]
    have hx := next_c s (by omega) hs
    have hnb := numB_next (s := s) (by omega)
    generalize nextR s = N at *
    refine sB Tryz.func111 Tryz.ntmps111 ?_
    intro hbox htok
    simp only at hbox htok
    apply AL.start
    try (simp)
    repeat (refine sR ?_; simp)
    refine sC ?_
    simp
    have b1 : ¬ s.toList = [] := by simpa using b0
    try (simp)
    repeat (refine sR ?_; simp)
    refine sC ?_
    simp [b1]
    try (simp)
    repeat (refine sR ?_; simp)
    refine Stop.of_d (hx _ _) ?_
    simp
    by_cases f1 : N.2.2 = 0
    · have g1 : (N.2.2 == 0) = true := by simp [f1]
      by_cases f2 : N.1 = 2
      · have g2 : (N.1 == 2) = true := by simp [f2]
        try (simp [g1, g2])
        repeat (refine sR ?_; simp [g1, g2])
        by_cases f3 : N.2.1 = (s.size : Int)
        · have g3 : (N.2.1 == (s.size : Int)) = true := by simp [f3]
          rw [← hnb]
          refine sT ?_
          try simp only [AU]
          refine ⟨by simp, sF hbox htok (fun _ h => h) (Nat.le_refl _) ?_⟩
          simp [packA, f1, f2, f3, g3]
        · have g3 : (N.2.1 == (s.size : Int)) = false := by simp [f3]
          rw [← hnb]
          refine sT ?_
          try simp only [AU]
          refine ⟨by simp, sF hbox htok (fun _ h => h) (Nat.le_refl _) ?_⟩
          simp [packA, f1, f2, f3, g3]
      · have g2 : (N.1 == 2) = false := by simp [f2]
        rw [← hnb]
        try (simp [g1, g2])
        repeat (refine sR ?_; simp [g1, g2])
        refine sT ?_
        try simp only [AU]
        refine ⟨by simp, sF hbox htok (fun _ h => h) (Nat.le_refl _) ?_⟩
        simp [packA, f1, f2]
    · have g1 : (N.2.2 == 0) = false := by simp [f1]
      rw [← hnb]
      try (simp [g1])
      repeat (refine sR ?_; simp [g1])
      refine sT ?_
      try simp only [AU]
      refine ⟨by simp, sF hbox htok (fun _ h => h) (Nat.le_refl _) ?_⟩
      simp [packA, f1]
theorem digK_succ {s : ByteArray} {i : Nat} (h : i < s.size) : digK s (i + 1) = 10 * digK s i + (byteAt s i - 48) := by
  have h2 : i < s.data.toList.length := by rw [sz_list]; exact h
  rw [byteAt_get h2]
  simp only [digK, List.take_succ_eq_append_getElem h2, List.foldl_append, List.foldl_cons, List.foldl_nil]
theorem digK_rng {s : ByteArray} (hd : ∀ j, j < s.size → digB (byteAt s j) = true) : ∀ i, i ≤ s.size → 0 ≤ digK s i ∧ digK s i < ((10 ^ i : Nat) : Int)
  | 0, _ => by simp [digK]
  | i + 1, h => by
    have ih := digK_rng hd i (by omega)
    have hb := hd i (by omega)
    unfold digB at hb
    simp only [decide_eq_true_eq] at hb
    rw [digK_succ (by omega), Nat.pow_succ]
    omega
theorem run_all {p : Int → Bool} {s : ByteArray} : ∀ (k a : Nat), s.size - a = k → a ≤ s.size → runN p s a = s.size - a → ∀ j, a ≤ j → j < s.size → p (byteAt s j) = true
  | 0, a, hk, ha, h, j, h1, h2 => by omega
  | k + 1, a, hk, ha, h, j, h1, h2 => by
    have hlt : a < s.size := by omega
    cases hp : p (byteAt s a)
    · rw [runN_stop hp] at h; omega
    · rw [runN_step hlt hp] at h
      by_cases e : j = a
      · rw [e]; exact hp
      · exact run_all k (a + 1) (by omega) (by omega) (by omega) j (by omega) h2
theorem numB_dig {s : ByteArray} (h : numB s = true) : s.size ≤ 9 ∧ ∀ j, j < s.size → digB (byteAt s j) = true := by
  unfold numB at h
  simp only [Bool.and_eq_true, decide_eq_true_eq] at h
  exact ⟨h.1.2, fun j hj => run_all _ 0 rfl (Nat.zero_le _) (by rw [h.2]; rfl) j (Nat.zero_le _) hj⟩
theorem digK_bd {s : ByteArray} (h : numB s = true) {i : Nat} (hi : i ≤ s.size) : 0 ≤ digK s i ∧ digK s i < 1000000000 := by
  obtain ⟨h1, h2⟩ := numB_dig h
  have h3 := digK_rng h2 i hi
  have h4 : 10 ^ i ≤ 10 ^ 9 := Nat.pow_le_pow_right (by omega) (by omega)
  omega
structure DigA (s : ByteArray) (i : Nat) : Prop where
  w1 : IntKind.i64.wrap (10 * digK s i) = 10 * digK s i
  w1' : IntKind.i64.wrap (digK s i * 10) = 10 * digK s i
  w2 : IntKind.u8.wrap (byteAt s i - 48) = byteAt s i - 48
  w3 : IntKind.i64.wrap (byteAt s i - 48) = byteAt s i - 48
  w4 : IntKind.i64.wrap (10 * digK s i + (byteAt s i - 48)) = digK s (i + 1)
  wi : IntKind.i64.wrap (i : Int) = i
  wj : IntKind.i64.wrap ((i : Int) + 1) = ((i + 1 : Nat) : Int)
theorem digA {s : ByteArray} (h : numB s = true) {i : Nat} (hi : i < s.size) : DigA s i := by
  have h1 := digK_bd h (i := i) (by omega)
  have h2 := digK_bd h (i := i + 1) (by omega)
  obtain ⟨h3, h4⟩ := numB_dig h
  have h5 := h4 i hi
  have h6 := digK_succ hi
  unfold digB at h5
  simp only [decide_eq_true_eq] at h5
  refine ⟨wrap_in (by omega) (by omega), ?_, wrapU8 (by omega) (by omega), wrap_in (by omega) (by omega), ?_, wrap_in (by omega) (by omega), ?_⟩
  · rw [wrap_in (by omega) (by omega)]; omega
  · rw [h6, wrap_in (by omega) (by omega)]
  · rw [wrap_in (by omega) (by omega)]; rfl
def stNu (s : ByteArray) (nb : Nat) (box : Nat → Option (List (List AV))) (tok : Nat → Bool) (nt : Nat) (i : Nat) : AState := ⟨tl [(0, Sb s), (6, I (digK s i)), (17, I s.size), (18, I i)], lb nb box [], tok, nt⟩
set_option maxRecDepth 100000 in
theorem number_c (s : ByteArray) (hs : s.size ≤ 200000000000000) (tok : Nat → Bool) (nt : Nat) : DCall Tryz.prog 127 [Sb s] tok nt (.tup [I (numR s), I (if numB s = true then 0 else 2)]) tok nt := by
  intro box nb
  have hw := whole2_c s hs
  refine sB Tryz.func127 Tryz.ntmps127 ?_
  intro hbox htok
  simp only at hbox htok
  apply AL.start
  try (simp)
  repeat (refine sR ?_; simp)
  refine Stop.of_d (hw _ _) ?_
  simp
  cases hn : numB s
  · try (simp)
    repeat (first | (refine sR ?_; simp) | (refine sC ?_; simp) | (refine sX ?_; simp only [AU, ↓reduceIte]))
    refine sT ?_
    try simp only [AU]
    refine ⟨by simp, sF hbox htok (fun _ h => h) (Nat.le_refl _) ?_⟩
    simp [packA, numR, hn]
  · try (simp)
    repeat (first | (refine sR ?_; simp) | (refine sC ?_; simp) | (refine sX ?_; simp only [AU, ↓reduceIte]))
    refine sN ?_
    refine AL.loopT (stNu s nb box tok nt) (fun i => i ≤ s.size) (fun i => s.size - i) 0 (Nat.zero_le _) (Weaks.mk (Nat.le_refl _) rfl (by simp [ToL, lk, digK]) trivial) ?_
    rintro i S hi hS
    simp only [stNu] at hS
    subst hS
    by_cases hlt : i < s.size
    · obtain ⟨w1, w1', w2, w3, w4, wi, wj⟩ := digA hn hlt
      have hb := byteAt_lt hlt
      have hlt' : (i : Int) < s.size := by omega
      try (simp [hlt, hlt', hb, w1, w2, w3, w4, wi, wj])
      repeat (first | (refine sR ?_; simp [hlt, hlt', hb, w1, w2, w3, w4, wi, wj]) | (refine sC ?_; simp [hlt, hlt', hb, w1, w2, w3, w4, wi, wj]) | (refine sX ?_; simp only [AU, ↓reduceIte]))
      refine sE ?_
      exact ⟨i + 1, hlt, by omega, Weaks.mk (Nat.le_refl _) rfl (by simp [ToL, lk]) trivial⟩
    · have : i = s.size := by omega
      subst this
      have hlt' : ¬ (s.size : Int) < s.size := by omega
      try (simp)
      repeat (refine sR ?_; simp)
      refine sC ?_
      simp
      refine sX ?_
      simp only [AU, ↓reduceIte]
      try (simp)
      repeat (refine sR ?_; simp)
      refine sT ?_
      try simp only [AU]
      refine ⟨by simp, sF hbox htok (fun _ h => h) (Nat.le_refl _) ?_⟩
      simp [packA, numR, hn]
end Go.AM
namespace Go.AM
open Go Go.Proofs
structure OInv (L : List Tk) (B : RS → Cm × RS) (n : Nat) (R : List Cm × RS) (mtok : Nat → Bool) (nt0 : Nat) (x : AccR) : Prop where
  ok : x.r.Ok L
  n : rem L x.r ≤ n
  f : rem L x.r ≤ x.f
  e : orsR L B x.f x.r x.l = R
  l : x.l.length + x.f ≤ L.length + 3
  k : TK mtok nt0 x.tok x.nt [x.own]
theorem OInv.of {L : List Tk} {B : RS → Cm × RS} {n : Nat} {R : List Cm × RS} {mtok : Nat → Bool} {nt0 : Nat} {r : RS} {l : List Cm} {own : Own} {tok : Nat → Bool} {nt f : Nat} (h1 : r.Ok L) (h2 : rem L r ≤ n) (h3 : rem L r ≤ f) (h4 : orsR L B f r l = R) (h5 : l.length + f ≤ L.length + 3) (h7 : TK mtok nt0 tok nt [own]) :
    OInv L B n R mtok nt0 ⟨r, l, own, tok, nt, f⟩ := ⟨h1, h2, h3, h4, h5, h7⟩
def stCh (L : List Tk) (ks nb : Nat) (box : Nat → Option (List (List AV))) (x : AccR) : AState :=
  ⟨tl [(4, .ptr (nb + 4) 0 0), (2, .ptr (nb + 2) 0 0), (0, .ptr ks 0 0)], lb nb (upd box ks (some [x.r.row L])) [(4, [[I 3, Sb ⟨#[]⟩, I 0, .osl 4 (x.l.map Cm.cells) x.own]]), (2, [zRow46])], x.tok, x.nt⟩
theorem kind_size {L : List Tk} (hT : ∀ t ∈ L, t.text.size ≤ 200000000000000) (r : RS) (k : Int) : (kindR L r k).1.size ≤ 200000000000000 := by
  unfold kindR
  split
  · simp only [textAt]
    split
    · rename_i t ht
      exact hT t (List.mem_of_getElem? ht)
    · exact Nat.zero_le _
  · exact Nat.zero_le _
theorem wApp {w : ByteArray} : w.toList = [97, 112, 112, 108, 121] ↔ w = sApp := by have h := seq_iff (a := w) (b := sApp); simpa [sApp] using h
theorem wCal {w : ByteArray} : w.toList = [99, 97, 108, 108] ↔ w = sCal := by have h := seq_iff (a := w) (b := sCal); simpa [sCal] using h
theorem wSki {w : ByteArray} : w.toList = [115, 107, 105, 112] ↔ w = sSki := by have h := seq_iff (a := w) (b := sSki); simpa [sSki] using h
theorem wFai {w : ByteArray} : w.toList = [102, 97, 105, 108] ↔ w = sFai := by have h := seq_iff (a := w) (b := sFai); simpa [sFai] using h
theorem wLoo {w : ByteArray} : w.toList = [108, 111, 111, 112] ↔ w = sLoo := by have h := seq_iff (a := w) (b := sLoo); simpa [sLoo] using h
theorem wTry {w : ByteArray} : w.toList = [116, 114, 121] ↔ w = sTry := by have h := seq_iff (a := w) (b := sTry); simpa [sTry] using h
theorem wIf {w : ByteArray} : w.toList = [105, 102] ↔ w = sIf := by have h := seq_iff (a := w) (b := sIf); simpa [sIf] using h
theorem wCho {w : ByteArray} : w.toList = [99, 104, 111, 111, 115, 101] ↔ w = sCho := by have h := seq_iff (a := w) (b := sCho); simpa [sCho] using h
theorem wRep {w : ByteArray} : w.toList = [114, 101, 112, 101, 97, 116] ↔ w = sRep := by have h := seq_iff (a := w) (b := sRep); simpa [sRep] using h
set_option maxRecDepth 100000 in
theorem command_of (L : List Tk) (hL : L.length ≤ 1000000000) (hT : ∀ t ∈ L, t.text.size ≤ 200000000000000) (B : RS → Cm × RS) (n : Nat) (hB : PrdC Tryz.prog L 48 B n) (hG : Goes L B) (hN : GoesN L B n) : PrdC Tryz.prog L 83 (cmdR L B) (n + 1) := by
  intro r h hr ks box hk nb tok nt
  have k1 := kind_c L r h (by omega) 1 ks
  have hR : cmdR L B r = if r.bad < 0 then cmdS L B (kindR L r 1).1 (kindR L r 1).2 else (zC, r) := rfl
  have ak := AdvS.kind h 1
  obtain ⟨w, r1, hw⟩ : ∃ w r1, kindR L r 1 = (w, r1) := ⟨_, _, rfl⟩
  rw [hw] at k1 hR ak
  simp only at k1 hR ak
  by_cases hb : r.bad < 0
  · have hnb : ¬ 0 ≤ r.bad := by omega
    have hr1 := rem_advS ak hb h
    rw [if_pos hb] at hR
    refine sB Tryz.func83 Tryz.ntmps83 ?_
    intro hbox htok
    simp only at hbox htok
    apply AL.start
    have kn := key_lt hbox hk
    try (simp [lb_out kn, hk, hnb])
    repeat (first | (refine sR ?_; simp [lb_out kn, hk, hnb]) | (refine sC ?_; simp [lb_out kn, hk, hnb]) | (refine sX ?_; simp only [AU, ↓reduceIte]))
    refine Stop.of_a (k1 _ (by simp only; rw [lb_out kn]; exact hk) _ _ _) ?_
    rintro v m ⟨rfl, rfl⟩
    try (simp [upd_lb_out kn])
    repeat (first | (refine sR ?_; simp [upd_lb_out kn]) | (refine sC ?_; simp [upd_lb_out kn]) | (refine sX ?_; simp only [AU, ↓reduceIte]))
    have ho1 := ak.ok
    unfold cmdS at hR
    by_cases eApp : w = sApp
    · have fApp := wApp.2 eApp
      rw [if_pos eApp] at hR
      have c1 := simple_c L r1 ho1 (by omega) 1 true ks
      try (simp [fApp])
      repeat (first | (refine sR ?_; simp [fApp]) | (refine sC ?_; simp [fApp]) | (refine sX ?_; simp only [AU, ↓reduceIte]))
      refine Stop.of_a (c1 _ (by simp only; rw [lb_out kn, upd_same]) _ _ _) ?_
      rintro v m ⟨rfl, rfl⟩
      rw [hR]
      try (simp [upd_lb_out kn, upd_upd])
      repeat (first | (refine sR ?_; simp [upd_lb_out kn, upd_upd]) | (refine sC ?_; simp [upd_lb_out kn, upd_upd]) | (refine sX ?_; simp only [AU, ↓reduceIte]))
      refine sT ?_
      try simp only [AU]
      refine ⟨by simp, (Fin.gen (av := Cm.av (simpR L r1 1 true).1) (tok' := tok) (nt' := nt) (by simp [resAs, resA, lk]; rfl) (by rw [← upd_lb_out kn, hbox]) (Nat.le_refl _) (Nat.le_refl _) (fun t ht => ⟨ht, .inl rfl⟩) (outG (by simp)) (by simp [packA])).mono fun v m hq => ?_⟩
      exact hq
    · rw [if_neg eApp] at hR
      have gApp : ¬ w.toList = [97, 112, 112, 108, 121] := fun h => eApp (wApp.1 h)
      by_cases eCal : w = sCal
      · have fCal := wCal.2 eCal
        rw [if_pos eCal] at hR
        have c1 := simple_c L r1 ho1 (by omega) 10 true ks
        try (simp [fCal, gApp])
        repeat (first | (refine sR ?_; simp [fCal, gApp]) | (refine sC ?_; simp [fCal, gApp]) | (refine sX ?_; simp only [AU, ↓reduceIte]))
        refine Stop.of_a (c1 _ (by simp only; rw [lb_out kn, upd_same]) _ _ _) ?_
        rintro v m ⟨rfl, rfl⟩
        rw [hR]
        try (simp [upd_lb_out kn, upd_upd])
        repeat (first | (refine sR ?_; simp [upd_lb_out kn, upd_upd]) | (refine sC ?_; simp [upd_lb_out kn, upd_upd]) | (refine sX ?_; simp only [AU, ↓reduceIte]))
        refine sT ?_
        try simp only [AU]
        refine ⟨by simp, (Fin.gen (av := Cm.av (simpR L r1 10 true).1) (tok' := tok) (nt' := nt) (by simp [resAs, resA, lk]; rfl) (by rw [← upd_lb_out kn, hbox]) (Nat.le_refl _) (Nat.le_refl _) (fun t ht => ⟨ht, .inl rfl⟩) (outG (by simp)) (by simp [packA])).mono fun v m hq => ?_⟩
        exact hq
      · rw [if_neg eCal] at hR
        have gCal : ¬ w.toList = [99, 97, 108, 108] := fun h => eCal (wCal.1 h)
        by_cases eSki : w = sSki
        · have fSki := wSki.2 eSki
          rw [if_pos eSki] at hR
          have c1 := simple_c L r1 ho1 (by omega) 8 false ks
          try (simp [fSki, gApp, gCal])
          repeat (first | (refine sR ?_; simp [fSki, gApp, gCal]) | (refine sC ?_; simp [fSki, gApp, gCal]) | (refine sX ?_; simp only [AU, ↓reduceIte]))
          refine Stop.of_a (c1 _ (by simp only; rw [lb_out kn, upd_same]) _ _ _) ?_
          rintro v m ⟨rfl, rfl⟩
          rw [hR]
          try (simp [upd_lb_out kn, upd_upd])
          repeat (first | (refine sR ?_; simp [upd_lb_out kn, upd_upd]) | (refine sC ?_; simp [upd_lb_out kn, upd_upd]) | (refine sX ?_; simp only [AU, ↓reduceIte]))
          refine sT ?_
          try simp only [AU]
          refine ⟨by simp, (Fin.gen (av := Cm.av (simpR L r1 8 false).1) (tok' := tok) (nt' := nt) (by simp [resAs, resA, lk]; rfl) (by rw [← upd_lb_out kn, hbox]) (Nat.le_refl _) (Nat.le_refl _) (fun t ht => ⟨ht, .inl rfl⟩) (outG (by simp)) (by simp [packA])).mono fun v m hq => ?_⟩
          exact hq
        · rw [if_neg eSki] at hR
          have gSki : ¬ w.toList = [115, 107, 105, 112] := fun h => eSki (wSki.1 h)
          by_cases eFai : w = sFai
          · have fFai := wFai.2 eFai
            rw [if_pos eFai] at hR
            have c1 := simple_c L r1 ho1 (by omega) 9 false ks
            try (simp [fFai, gApp, gCal, gSki])
            repeat (first | (refine sR ?_; simp [fFai, gApp, gCal, gSki]) | (refine sC ?_; simp [fFai, gApp, gCal, gSki]) | (refine sX ?_; simp only [AU, ↓reduceIte]))
            refine Stop.of_a (c1 _ (by simp only; rw [lb_out kn, upd_same]) _ _ _) ?_
            rintro v m ⟨rfl, rfl⟩
            rw [hR]
            try (simp [upd_lb_out kn, upd_upd])
            repeat (first | (refine sR ?_; simp [upd_lb_out kn, upd_upd]) | (refine sC ?_; simp [upd_lb_out kn, upd_upd]) | (refine sX ?_; simp only [AU, ↓reduceIte]))
            refine sT ?_
            try simp only [AU]
            refine ⟨by simp, (Fin.gen (av := Cm.av (simpR L r1 9 false).1) (tok' := tok) (nt' := nt) (by simp [resAs, resA, lk]; rfl) (by rw [← upd_lb_out kn, hbox]) (Nat.le_refl _) (Nat.le_refl _) (fun t ht => ⟨ht, .inl rfl⟩) (outG (by simp)) (by simp [packA])).mono fun v m hq => ?_⟩
            exact hq
          · rw [if_neg eFai] at hR
            have gFai : ¬ w.toList = [102, 97, 105, 108] := fun h => eFai (wFai.1 h)
            by_cases eLoo : w = sLoo
            · have fLoo := wLoo.2 eLoo
              rw [if_pos eLoo] at hR
              have c1 := blocks_of L hL B n hB hG 5 [] (by simp) r1 ho1 (by omega) ks
              try (simp [fLoo, gApp, gCal, gSki, gFai])
              repeat (first | (refine sR ?_; simp [fLoo, gApp, gCal, gSki, gFai]) | (refine sC ?_; simp [fLoo, gApp, gCal, gSki, gFai]) | (refine sX ?_; simp only [AU, ↓reduceIte]))
              refine Stop.sub (args' := [.ptr ks 0 0, I 5, .d (strs [])]) ⟨Sub.refl _, Sub.refl _, Sub.nil _ _ _, trivial⟩ ?_
              refine Stop.of_a (c1 _ (by simp only; rw [lb_out kn, upd_same]) _ _ _) ?_
              rintro v m ⟨own, tok1, nt1, htk, rfl, rfl⟩
              rw [hR]
              try (simp [upd_lb_out kn, upd_upd])
              repeat (first | (refine sR ?_; simp [upd_lb_out kn, upd_upd]) | (refine sC ?_; simp [upd_lb_out kn, upd_upd]) | (refine sX ?_; simp only [AU, ↓reduceIte]))
              refine sT ?_
              try simp only [AU]
              refine ⟨by simp, (Fin.gen (av := Cm.av (asK 5 0 (blocksR L B r1 [])).1) (tok' := tok) (nt' := nt) (by simp [resAs, resA, lk]; rfl) (by rw [← upd_lb_out kn, hbox]) (Nat.le_refl _) htk.le (fun t ht => ⟨htk.old t ht, .inr (htok t ht)⟩) (outG (by simp)) (by simp [packA, asK, Cm.kind, Cm.name, Cm.num, Cm.kids, cms])).mono fun v m hq => ?_⟩
              exact hq
            · rw [if_neg eLoo] at hR
              have gLoo : ¬ w.toList = [108, 111, 111, 112] := fun h => eLoo (wLoo.1 h)
              by_cases eTry : w = sTry
              · have fTry := wTry.2 eTry
                rw [if_pos eTry] at hR
                have c1 := blocks_of L hL B n hB hG 7 [] (by simp) r1 ho1 (by omega) ks
                try (simp [fTry, gApp, gCal, gSki, gFai, gLoo])
                repeat (first | (refine sR ?_; simp [fTry, gApp, gCal, gSki, gFai, gLoo]) | (refine sC ?_; simp [fTry, gApp, gCal, gSki, gFai, gLoo]) | (refine sX ?_; simp only [AU, ↓reduceIte]))
                refine Stop.sub (args' := [.ptr ks 0 0, I 7, .d (strs [])]) ⟨Sub.refl _, Sub.refl _, Sub.nil _ _ _, trivial⟩ ?_
                refine Stop.of_a (c1 _ (by simp only; rw [lb_out kn, upd_same]) _ _ _) ?_
                rintro v m ⟨own, tok1, nt1, htk, rfl, rfl⟩
                rw [hR]
                try (simp [upd_lb_out kn, upd_upd])
                repeat (first | (refine sR ?_; simp [upd_lb_out kn, upd_upd]) | (refine sC ?_; simp [upd_lb_out kn, upd_upd]) | (refine sX ?_; simp only [AU, ↓reduceIte]))
                refine sT ?_
                try simp only [AU]
                refine ⟨by simp, (Fin.gen (av := Cm.av (asK 7 0 (blocksR L B r1 [])).1) (tok' := tok) (nt' := nt) (by simp [resAs, resA, lk]; rfl) (by rw [← upd_lb_out kn, hbox]) (Nat.le_refl _) htk.le (fun t ht => ⟨htk.old t ht, .inr (htok t ht)⟩) (outG (by simp)) (by simp [packA, asK, Cm.kind, Cm.name, Cm.num, Cm.kids, cms])).mono fun v m hq => ?_⟩
                exact hq
              · rw [if_neg eTry] at hR
                have gTry : ¬ w.toList = [116, 114, 121] := fun h => eTry (wTry.1 h)
                by_cases eIf : w = sIf
                · have fIf := wIf.2 eIf
                  rw [if_pos eIf] at hR
                  have c1 := blocks_of L hL B n hB hG 4 [sThe, sEls] (by simp) r1 ho1 (by omega) ks
                  try (simp [fIf, gApp, gCal, gSki, gFai, gLoo, gTry])
                  repeat (first | (refine sR ?_; simp [fIf, gApp, gCal, gSki, gFai, gLoo, gTry]) | (refine sC ?_; simp [fIf, gApp, gCal, gSki, gFai, gLoo, gTry]) | (refine sX ?_; simp only [AU, ↓reduceIte]))
                  refine ⟨rfl, ?_⟩
                  refine Stop.data ?_
                  refine Stop.of_a (c1 _ (by simp only; rw [lb_out kn, upd_same]) _ _ _) ?_
                  rintro v m ⟨own, tok1, nt1, htk, rfl, rfl⟩
                  rw [hR]
                  try (simp [upd_lb_out kn, upd_upd])
                  repeat (first | (refine sR ?_; simp [upd_lb_out kn, upd_upd]) | (refine sC ?_; simp [upd_lb_out kn, upd_upd]) | (refine sX ?_; simp only [AU, ↓reduceIte]))
                  refine sT ?_
                  try simp only [AU]
                  refine ⟨by simp, (Fin.gen (av := Cm.av (asK 4 0 (blocksR L B r1 [sThe, sEls])).1) (tok' := tok) (nt' := nt) (by simp [resAs, resA, lk]; rfl) (by rw [← upd_lb_out kn, hbox]) (Nat.le_refl _) htk.le (fun t ht => ⟨htk.old t ht, .inr (htok t ht)⟩) (outG (by simp)) (by simp [packA, asK, Cm.kind, Cm.name, Cm.num, Cm.kids, cms])).mono fun v m hq => ?_⟩
                  exact hq
                · rw [if_neg eIf] at hR
                  have gIf : ¬ w.toList = [105, 102] := fun h => eIf (wIf.1 h)
                  by_cases eCho : w = sCho
                  · have fCho := wCho.2 eCho
                    rw [if_pos eCho] at hR
                    have c1 := blocks_of L hL B n hB hG 3 [sOr] (by simp) r1 ho1 (by omega) ks
                    have a2 := blocks_adv hG ho1 [sOr]
                    have hr2 := rem_adv a2
                    have hl2 : (blocksR L B r1 [sOr]).1.length = 2 := rfl
                    obtain ⟨l2, r2, hl⟩ : ∃ l2 r2, blocksR L B r1 [sOr] = (l2, r2) := ⟨_, _, rfl⟩
                    rw [hl] at c1 a2 hr2 hl2 hR
                    simp only [asK] at c1 a2 hr2 hl2 hR
                    obtain ⟨R, hRR⟩ : ∃ R, orsR L B (L.length + 1) r2 l2 = R := ⟨_, rfl⟩
                    rw [hRR] at hR
                    have hrl : rem L r2 ≤ L.length + 1 := by unfold rem; split <;> omega
                    have ht0 := TK.start htok
                    try (simp [fCho, gApp, gCal, gSki, gFai, gLoo, gTry, gIf])
                    repeat (first | (refine sR ?_; simp [fCho, gApp, gCal, gSki, gFai, gLoo, gTry, gIf]) | (refine sC ?_; simp [fCho, gApp, gCal, gSki, gFai, gLoo, gTry, gIf]) | (refine sX ?_; simp only [AU, ↓reduceIte]))
                    refine Stop.data ?_
                    refine Stop.of_a (c1 _ (by simp only; rw [lb_out kn, upd_same]) _ _ _) ?_
                    rintro v m ⟨own, tok1, nt1, htk, rfl, rfl⟩
                    rw [hR]
                    try (simp [upd_lb_out kn, upd_upd])
                    repeat (first | (refine sR ?_; simp [upd_lb_out kn, upd_upd]) | (refine sC ?_; simp [upd_lb_out kn, upd_upd]) | (refine sX ?_; simp only [AU, ↓reduceIte]))
                    refine sN ?_
                    refine AL.loopT (stCh L ks nb box) (OInv L B n R tok nt) (fun x => x.f) ⟨r2, l2, own, tok1, nt1, L.length + 1⟩ (OInv.of a2.ok (by omega) hrl hRR (by omega) htk)
                      (Weaks.mk' htk.le (by simp [ToL, lk]; exact to_ptr (by rw [lb_out kn, upd_same]; simp)) (by simp [BoxL, lk]) (outG (by simp))) ?_
                    rintro ⟨r, l, own, tok1, nt1, f⟩ S hinv hS
                    obtain ⟨ho, hn1, hf, he, hlen, htk⟩ := hinv
                    simp only [stCh] at hS ho hn1 hf he hlen htk ⊢
                    subst hS
                    have pk := peek_c L r sOr ks
                    cases hp : peekB L r sOr
                    · have he2 : orsR L B f r l = (l, r) := by
                        cases f with
                        | zero => rfl
                        | succ f => rw [orsR, if_neg (by simp [hp])]
                      rw [he2] at he
                      subst he
                      try (simp)
                      repeat (first | (refine sR ?_; simp) | (refine sC ?_; simp) | (refine sX ?_; simp only [AU, ↓reduceIte]))
                      refine Stop.of_a (pk _ (by simp only; rw [lb_out kn, upd_same]) _ _ _) ?_
                      rintro v m ⟨rfl, rfl⟩
                      try (simp [hp])
                      repeat (first | (refine sR ?_; simp [hp]) | (refine sC ?_; simp [hp]) | (refine sX ?_; simp only [AU, ↓reduceIte]))
                      refine sT ?_
                      try simp only [AU]
                      refine ⟨by simp, (Fin.gen (av := Cm.av (.mk 3 ⟨#[]⟩ 0 l)) (tok' := tok) (nt' := nt) (by simp [resAs, resA, lk]; rfl) (by rw [← upd_lb_out kn, hbox]) (Nat.le_refl _) htk.le (fun t ht => ⟨htk.old t ht, .inr (htok t ht)⟩) (outG (by simp)) (by simp [packA, Cm.kind, Cm.name, Cm.num, Cm.kids, cms])).mono fun v m hq => ?_⟩
                      exact hq
                    · have hpp := hp
                      unfold peekB at hpp
                      simp only [Bool.and_eq_true, decide_eq_true_eq] at hpp
                      have hpa := at_lt hpp.2
                      have a3 : AdvS L r ⟨r.at' + 1, r.bad⟩ := by
                        have := AdvS.take ho sOr
                        unfold takeR at this
                        rw [if_pos hp] at this
                        exact this
                      have hlt := rem_advS a3 hpp.1 ho
                      obtain ⟨f, rfl⟩ : ∃ f', f = f' + 1 := ⟨f - 1, by omega⟩
                      rw [orsR, if_pos hp] at he
                      have hwr : IntKind.i64.wrap ((r.at' : Int) + 1) = ((r.at' + 1 : Nat) : Int) := by rw [wrap_in (by omega) (by omega)]; rfl
                      obtain ⟨r3, hr3⟩ : ∃ r3 : RS, (⟨r.at' + 1, r.bad⟩ : RS) = r3 := ⟨_, rfl⟩
                      have c2 := hB r3 (by rw [← hr3]; exact a3.ok) (by rw [← hr3]; omega) ks
                      have a4 := hG r3 (by rw [← hr3]; exact a3.ok)
                      have hr4 := rem_adv a4
                      rw [hr3] at he hlt
                      obtain ⟨c3, r4, hc3⟩ : ∃ c3 r4, B r3 = (c3, r4) := ⟨_, _, rfl⟩
                      rw [hc3] at c2 a4 hr4 he
                      simp only at c2 a4 hr4 he
                      have hrr : [AV.d (tks L), I ((r.at' + 1 : Nat) : Int), I r.bad] = r3.row L := by rw [← hr3]
                      try (simp)
                      repeat (first | (refine sR ?_; simp) | (refine sC ?_; simp) | (refine sX ?_; simp only [AU, ↓reduceIte]))
                      refine Stop.of_a (pk _ (by simp only; rw [lb_out kn, upd_same]) _ _ _) ?_
                      rintro v m ⟨rfl, rfl⟩
                      simp [hp]
                      refine sC ?_
                      simp
                      refine sR ?_
                      simp [lb_out kn, upd_lb_out kn, upd_same, upd_upd, hwr]
                      have hne4 : nb + 4 ≠ ks := by omega
                      refine sN ?_
                      refine AL.region3 follows_Tryz (Nat.le_refl _) (by kernel_rfl) (Side.of (by simp)) [(Operand.tmp 60, Operand.tmp 62)] (by kernel_rfl) ?_
                      simp [lb_out kn, upd_lb_out kn, upd_same]
                      refine StopW.of_w rfl rfl (by simp only; rw [lb_out kn, upd_same]; simp) (fun box' nb' hb' => (c2 box' (by rw [hb']; simp only; rw [lb_out kn, upd_same]; exact congrArg (fun x => some [x]) hrr) nb' tok1 nt1).mono fun v m1 hq => ⟨hq.1, hq.2⟩) ?_
                      simp [lb_out kn, upd_lb_out kn, upd_same, upd_upd, NK, hne4]
                      refine ⟨⟨by omega, htk.live⟩, ?_⟩
                      try (simp)
                      repeat (first | (refine sR ?_; simp) | (refine sC ?_; simp) | (refine sX ?_; simp only [AU, ↓reduceIte]))
                      refine sE ?_
                      refine ⟨⟨r4, l ++ [c3], .tok nt1, upd (own.kill tok1) nt1 true, nt1 + 1, f⟩, OInv.of a4.ok (by omega) (by omega) he (by simp; omega) htk.app, by simp only; omega, ?_⟩
                      simp only [stCh]
                      exact Weaks.mk' (by have := htk.le; omega) (by simp [ToL, lk]; exact to_ptr (by rw [lb_out kn, upd_same]; simp)) (by simp [BoxL, lk, Cm.cells_eq]) (outG (by simp))
                  · rw [if_neg eCho] at hR
                    have gCho : ¬ w.toList = [99, 104, 111, 111, 115, 101] := fun h => eCho (wCho.1 h)
                    by_cases eRep : w = sRep
                    · have fRep := wRep.2 eRep
                      rw [if_pos eRep] at hR
                      have c1 := kind_c L r1 ho1 (by omega) 2 ks
                      have a2 := AdvS.kind ho1 2
                      have hr2 := rem_adv a2.adv
                      have hsz : (kindR L r1 2).1.size ≤ 200000000000000 := kind_size hT r1 2
                      obtain ⟨w2, r2, hl⟩ : ∃ w2 r2, kindR L r1 2 = (w2, r2) := ⟨_, _, rfl⟩
                      rw [hl] at c1 a2 hr2 hsz hR
                      simp only [asK] at c1 a2 hr2 hsz hR
                      have c2 := number_c w2 hsz
                      have c3 := blocks_of L hL B n hB hG 6 [] (by simp) r2 a2.ok (by omega) ks
                      try (simp [fRep, gApp, gCal, gSki, gFai, gLoo, gTry, gIf, gCho])
                      repeat (first | (refine sR ?_; simp [fRep, gApp, gCal, gSki, gFai, gLoo, gTry, gIf, gCho]) | (refine sC ?_; simp [fRep, gApp, gCal, gSki, gFai, gLoo, gTry, gIf, gCho]) | (refine sX ?_; simp only [AU, ↓reduceIte]))
                      refine Stop.of_a (c1 _ (by simp only; rw [lb_out kn, upd_same]) _ _ _) ?_
                      rintro v m ⟨rfl, rfl⟩
                      try (simp [upd_lb_out kn, upd_upd])
                      repeat (first | (refine sR ?_; simp [upd_lb_out kn, upd_upd]) | (refine sC ?_; simp [upd_lb_out kn, upd_upd]) | (refine sX ?_; simp only [AU, ↓reduceIte]))
                      refine Stop.of_d (c2 _ _) ?_
                      simp
                      try (simp)
                      repeat (first | (refine sR ?_; simp) | (refine sC ?_; simp) | (refine sX ?_; simp only [AU, ↓reduceIte]))
                      refine Stop.sub (args' := [.ptr ks 0 0, I 6, .d (strs [])]) ⟨Sub.refl _, Sub.refl _, Sub.nil _ _ _, trivial⟩ ?_
                      refine Stop.of_a (c3 _ (by simp only; rw [lb_out kn, upd_same]) _ _ _) ?_
                      rintro v m ⟨own, tok1, nt1, htk, rfl, rfl⟩
                      rw [hR]
                      try (simp [upd_lb_out kn, upd_upd, asK, Cm.kind, Cm.name, Cm.num, Cm.kids])
                      repeat (first | (refine sR ?_; simp [upd_lb_out kn, upd_upd, asK, Cm.kind, Cm.name, Cm.num, Cm.kids]) | (refine sC ?_; simp [upd_lb_out kn, upd_upd, asK, Cm.kind, Cm.name, Cm.num, Cm.kids]) | (refine sX ?_; simp only [AU, ↓reduceIte]))
                      refine sT ?_
                      try simp only [AU]
                      refine ⟨by simp, (Fin.gen (av := Cm.av (.mk 6 ⟨#[]⟩ (numR w2) (blocksR L B r2 []).1)) (tok' := tok) (nt' := nt) (by simp [resAs, resA, lk]; rfl) (by rw [← upd_lb_out kn, hbox]) (Nat.le_refl _) htk.le (fun t ht => ⟨htk.old t ht, .inr (htok t ht)⟩) (outG (by simp)) (by simp [packA, Cm.kind, Cm.name, Cm.num, Cm.kids, cms])).mono fun v m hq => ?_⟩
                      exact hq
                    · rw [if_neg eRep] at hR
                      have gRep : ¬ w.toList = [114, 101, 112, 101, 97, 116] := fun h => eRep (wRep.1 h)
                      by_cases hb1 : r1.bad < 0
                      · rw [if_pos hb1] at hR
                        have hlt := ak.lt hb1
                        have ha1 := ho1.a
                        have hwr : IntKind.i64.wrap ((r1.at' : Int) - 1) = (r1.at' : Int) - 1 := wrap_in (by omega) (by omega)
                        try (simp [gApp, gCal, gSki, gFai, gLoo, gTry, gIf, gCho, gRep, lb_out kn, upd_lb_out kn, upd_same, upd_upd, hb1, hwr])
                        repeat (first | (refine sR ?_; simp [gApp, gCal, gSki, gFai, gLoo, gTry, gIf, gCho, gRep, lb_out kn, upd_lb_out kn, upd_same, upd_upd, hb1, hwr]) | (refine sC ?_; simp [gApp, gCal, gSki, gFai, gLoo, gTry, gIf, gCho, gRep, lb_out kn, upd_lb_out kn, upd_same, upd_upd, hb1, hwr]) | (refine sX ?_; simp only [AU, ↓reduceIte]))
                        rw [hR]
                        refine sT ?_
                        try simp only [AU]
                        refine ⟨by simp, (Fin.gen (av := Cm.av zC) (tok' := tok) (nt' := nt) (by simp [resAs, resA, lk]; rfl) (by rw [← upd_lb_out kn, hbox]) (Nat.le_refl _) (Nat.le_refl _) (fun t ht => ⟨ht, .inl rfl⟩) (outG (by simp)) (by simp [packA, zC, Cm.kind, Cm.name, Cm.num, Cm.kids, cms])).mono fun v m hq => ?_⟩
                        exact hq
                      · rw [if_neg hb1] at hR
                        try (simp [gApp, gCal, gSki, gFai, gLoo, gTry, gIf, gCho, gRep, lb_out kn, upd_lb_out kn, upd_same, upd_upd, hb1])
                        repeat (first | (refine sR ?_; simp [gApp, gCal, gSki, gFai, gLoo, gTry, gIf, gCho, gRep, lb_out kn, upd_lb_out kn, upd_same, upd_upd, hb1]) | (refine sC ?_; simp [gApp, gCal, gSki, gFai, gLoo, gTry, gIf, gCho, gRep, lb_out kn, upd_lb_out kn, upd_same, upd_upd, hb1]) | (refine sX ?_; simp only [AU, ↓reduceIte]))
                        rw [hR]
                        refine sT ?_
                        try simp only [AU]
                        refine ⟨by simp, (Fin.gen (av := Cm.av zC) (tok' := tok) (nt' := nt) (by simp [resAs, resA, lk]; rfl) (by rw [← upd_lb_out kn, hbox]) (Nat.le_refl _) (Nat.le_refl _) (fun t ht => ⟨ht, .inl rfl⟩) (outG (by simp)) (by simp [packA, zC, Cm.kind, Cm.name, Cm.num, Cm.kids, cms])).mono fun v m hq => ?_⟩
                        exact hq
  · rw [if_neg hb] at hR
    rw [hR]
    have hnb : 0 ≤ r.bad := by omega
    refine sB Tryz.func83 Tryz.ntmps83 ?_
    intro hbox htok
    simp only at hbox htok
    apply AL.start
    have kn := key_lt hbox hk
    try (simp [lb_out kn, hk, hnb])
    repeat (first | (refine sR ?_; simp [lb_out kn, hk, hnb]) | (refine sC ?_; simp [lb_out kn, hk, hnb]) | (refine sX ?_; simp only [AU, ↓reduceIte]))
    refine sT ?_
    try simp only [AU]
    refine ⟨by simp, (Fin.gen (av := Cm.av zC) (tok' := tok) (nt' := nt) (by simp [resAs, resA, lk]; rfl) hbox (Nat.le_refl _) (Nat.le_refl _) (fun t ht => ⟨ht, .inl rfl⟩) (fun k rows _ h => .inl h) (by simp [packA, zC, Cm.kind, Cm.name, Cm.num, Cm.kids, cms])).mono fun v m hq => ?_⟩
    exact ⟨hq.1, by rw [upd_keep hk]; exact hq.2⟩
end Go.AM
