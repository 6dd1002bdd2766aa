/-
 Parts of the proof, as merged from many texts: a machine over data, what the functions compute, plain laws.
-/
import Derived.Test.YtfgcpmeadeehhaaGreatPTP10
set_option linter.unusedSimpArgs false
set_option linter.unusedVariables false
namespace Go.AM
open Go Go.Proofs
def stCx (c : Cd) (G H : List Int) (nb : Nat) (box : Nat → Option (List (List AV))) (i : Nat) (K : List Cd) (x : Acc) : AState :=
 ⟨tl [(8, I i), (7, .ptr (nb + 7) 0 0), (6, .ptr (nb + 6) 0 0), (3, .ptr (nb + 3) 0 0), (1, .d (ints G)), (2, .d (ints H))], lb nb box [(7, [cutRow c K x.own]), (3, [c.row]), (6, [zRow])], x.tok, x.nt⟩
set_option maxRecDepth 100000 in
theorem cutR_c : ∀ (n : Nat) (c : Cd), SizeOf.sizeOf c < n → ∀ a, LftOk a c → ∀ (gone es : List Int), gone.length ≤ 1000000 → es.length ≤ 1000000 → (∀ x ∈ gone, 0 ≤ x ∧ x < a.nodes.length) → (∀ x ∈ es, 0 ≤ x ∧ x < a.edges.length) → ∀ (tok : Nat → Bool) (nt : Nat), DCall Tryz.prog 74 [c.av, .d (ints gone), .d (ints es)] tok nt (c.ctr gone es).av tok nt
 | 0, c, hn, _, _, _, _, _, _, _, _, _, _ => absurd hn (Nat.not_lt_zero _)
 | n + 1, c, hn, a, h, gone, es, hg1, he1, hg, he, tok, nt => by
  have ih := fun x (hx : x ∈ c.kids) => cutR_c n x (by have := Cd.kid_lt hx; omega)
  intro box nb
  have hP := c.ctr_eq gone es
  obtain ⟨N, hN⟩ : ∃ N, c.ctr gone es = N := ⟨_, rfl⟩
  rw [hN] at hP ⊢
  have hkl := h.fit.kids
  rw [kidN_eq] at hkl
  have hgl : (c.gg gone).length ≤ 1000000 := by unfold Cd.gg; split <;> simp [hg1]
  have hel : (c.ge es).length ≤ 1000000 := by unfold Cd.ge; split <;> simp [he1]
  have hgb : ∀ x ∈ c.gg gone, 0 ≤ x ∧ x < (c.inn a).nodes.length := by
   unfold Cd.gg Cd.inn
   split
   ·rename_i k5
    obtain ⟨hm, _⟩ := ovr_ex h.ovr k5
    intro x hx
    simp only [byK, List.take_length, List.mem_map] at hx
    obtain ⟨y, hy, rfl⟩ := hx
    have := hg y hy
    exact hm.vm.n _ (getD_mem (by rw [hm.vm.ln]; omega))
   ·exact hg
  have heb : ∀ x ∈ c.ge es, 0 ≤ x ∧ x < (c.inn a).edges.length := by
   unfold Cd.ge Cd.inn
   split
   ·rename_i k5
    obtain ⟨hm, _⟩ := ovr_ex h.ovr k5
    intro x hx
    simp only [byK, List.take_length, List.mem_map] at hx
    obtain ⟨y, hy, rfl⟩ := hx
    have := he y hy
    exact hm.vm.e _ (getD_mem (by rw [hm.vm.le]; omega))
   ·exact he
  have ihk := fun x (hx : x ∈ c.kids) => ih x hx _ (h.kid x hx) _ _ hgl hel hgb heb
  refine sB Tryz.func74 Tryz.ntmps74 ?_
  intro hbox htok
  simp only at hbox htok
  apply AL.start
  try (simp)
  repeat (refine sR ?_; simp)
  refine AL.midP ⟨tl [(6, .ptr (nb + 6) 0 0), (3, .ptr (nb + 3) 0 0), (1, .d (ints (c.gg gone))), (2, .d (ints (c.ge es)))], lb nb box [(3, [c.row]), (6, [zRow])], tok, nt⟩ (N = withK c (c.kids.map fun x => x.ctr (c.gg gone) (c.ge es))) ?_ ?_
  ·by_cases k5 : c.kind = 5
   ·obtain ⟨hm, x, hkx⟩ := ovr_ex h.ovr k5
    have hV := hm.vm
    have q1 := through68_c gone c.m.nodes hg1 (fun x hx => by rw [hV.ln]; exact hg x hx)
    have q2 := through68_c es c.m.edges he1 (fun x hx => by rw [hV.le]; exact he x hx)
    have eg : c.gg gone = byK gone c.m.nodes gone.length := if_pos k5
    have ee : c.ge es = byK es c.m.edges es.length := if_pos k5
    rw [← eg] at q1
    rw [← ee] at q2
    have q3 := dangles34_c c.g h.fit.g (c.ge es) (c.gg gone) hel hgl
    generalize c.gg gone = G at *
    generalize c.ge es = H at *
    refine sC ?_
    simp [k5]
    try (simp)
    repeat (refine sR ?_; simp)
    refine Stop.of_d (q1 _ _) ?_
    simp
    refine Stop.of_d (q2 _ _) ?_
    simp
    try (simp)
    repeat (refine sR ?_; simp)
    refine Stop.of_d (q3 _ _) ?_
    simp
    cases e5 : dngB c.g H G
    ·rw [if_neg (by rw [e5]; simp)] at hP
     refine sC ?_
     simp
     refine sE ?_
     exact ⟨hP, Weaks.mk (Nat.le_refl _) rfl (by simp [ToL, lk, lb_at]) (by simp [BoxL, lk])⟩
    ·rw [if_pos ⟨k5, e5⟩] at hP
     refine sC ?_
     simp
     try (simp)
     repeat (refine sR ?_; simp)
     refine Stop.of_d (false34_c _ _) ?_
     simp
     refine sT ?_
     try simp only [AU]
     refine ⟨by simp, sF hbox htok (fun _ h => h) (Nat.le_refl _) ?_⟩
     simp [packA, hP]
   ·have b5 : (c.kind == 5) = false := by simp [k5]
    rw [if_neg (by simp [k5])] at hP
    refine sC ?_
    simp [b5]
    refine sE ?_
    exact ⟨hP, Weaks.mk (Nat.le_refl _) rfl (by simp [ToL, lk, lb_at, Cd.gg, Cd.ge, k5]) (by simp [BoxL, lk])⟩
  ·intro hP
   generalize c.gg gone = G at *
   generalize c.ge es = H at *
   try (simp)
   repeat (refine sR ?_; simp)
   refine sN ?_
   refine AL.loopT (fun x => stCx c G H nb box x.i ((c.kids.take x.i).map fun y => y.ctr G H) x) (fun x => x.i ≤ c.kids.length ∧ TK tok nt x.tok x.nt [x.own]) (fun x => c.kids.length - x.i) ⟨0, .full, tok, nt⟩ ⟨Nat.zero_le _, (TK.start htok).full⟩ (Weaks.mk (Nat.le_refl _) rfl (by simp [ToL, lk, lb_at]) (by simp [BoxL, lk])) ?_
   rintro ⟨i, own, tok', nt'⟩ S ⟨hi, htk⟩ hS
   simp only [stCx] at hS hi htk
   subst hS
   have hw := sW (i := i) (by omega)
   have hKl : ((c.kids.take i).map fun y => y.ctr G H).length = i := by simp; omega
   obtain ⟨K, hK⟩ : ∃ K, ((c.kids.take i).map fun y => y.ctr G H) = K := ⟨_, rfl⟩
   rw [hK] at hKl ⊢
   try (simp)
   repeat (refine sR ?_; simp)
   refine sC ?_
   simp
   refine ⟨fun hlt => ?_, fun hge => ?_⟩
   ·have ihx := ihk _ (List.getElem_mem hlt)
    have hst : ((c.kids.take (i + 1)).map fun y => y.ctr G H) = K ++ [c.kids[i].ctr G H] := by rw [List.take_succ_eq_append_getElem hlt, List.map_append, hK]; rfl
    have hst2 : (c.kids.map fun y => y.ctr G H).take (i + 1) = K ++ [c.kids[i].ctr G H] := by rw [← List.map_take]; exact hst
    generalize c.kids[i].ctr G H = R at *
    try (simp [hlt, Cd.cells_eq])
    repeat (refine sR ?_; simp [hlt, Cd.cells_eq])
    refine Stop.of_d (ihx _ _) ?_
    simp
    refine ⟨⟨by omega, htk.live⟩, ?_⟩
    try (simp [hw])
    repeat (refine sR ?_; simp [hw])
    refine sE ?_
    refine ⟨⟨i + 1, _, _, _⟩, ⟨hlt, htk.app⟩, by simp only; omega, ?_⟩
    show Weaks _ _ _ (stCx c G H nb box (i + 1) ((c.kids.map fun y => y.ctr G H).take (i + 1)) _)
    rw [hst2]
    exact Weaks.mk htk.app.le rfl (by simp [ToL, lk, lb_at]) (by simp [BoxL, lk, Cd.cells_eq])
   ·refine sX ?_
    simp only [AU, ↓reduceIte]
    have hil : i = c.kids.length := by omega
    have hKa : c.kids.map (fun x => x.ctr G H) = K := by rw [← hK, List.take_of_length_le hge]
    rw [hKa] at hP
    try (simp)
    repeat (refine sR ?_; simp)
    refine sT ?_
    try simp only [AU]
    refine ⟨by simp, sF hbox htok htk.old htk.le ?_⟩
    simp [packA, hP, withK, Cd.kind, Cd.kids, Cd.m, Cd.g, Cd.sl, Cd.vars, Cd.te]
theorem cd_unused {c : Cd} (h : unusedC c = true) (hb : c.Bare) : c = cdOf c.kind c.kids := by
 have h1 := hb.sl
 have h2 := hb.te
 obtain ⟨k, l, ⟨mn, me⟩, ⟨gn, ge⟩, sl, v, te⟩ := c
 simp only [unusedC, plainC, Bool.and_eq_true, z0_iff, Cd.m, Cd.g, Cd.sl, Cd.vars, Cd.te] at h h1 h2
 obtain ⟨a1, a2, a3, a4, a5, a6, a7⟩ := h
 have e := fun (n : Nat) (h : (n : Int) = 0) => Int.natCast_eq_zero.1 h
 cases List.length_eq_zero_iff.1 (e _ a1)
 cases List.length_eq_zero_iff.1 (e _ a2)
 cases List.length_eq_zero_iff.1 (e _ a3)
 cases List.length_eq_zero_iff.1 (e _ a4)
 subst h1 h2 a6
 rfl
theorem cd_plain {c : Cd} (h : shapeC c = 0) (hb : c.Bare) (k5 : c.kind ≠ 5) : c = cdOf c.kind c.kids := by
 unfold shapeC at h
 split at h
 ·rename_i ho
  refine cd_unused ?_ hb
  unfold okC at ho
  split at ho
  ·exact (Bool.and_eq_true _ _ ▸ ho).2
  ·split at ho
   ·exact (Bool.and_eq_true _ _ ▸ ho).2
   ·split at ho
    ·exact (Bool.and_eq_true _ _ ▸ ho).2
    ·simp [k5] at ho
 ·omega
theorem shape_nil {c : Cd} (h : shapeC c = 0) (h1 : c.kind = 1) : c.kids = [] := by
 unfold shapeC at h
 split at h
 ·rename_i hk
  simp only [okC, h1, if_pos, Bool.and_eq_true, z0_iff] at hk
  exact List.length_eq_zero_iff.1 (by omega)
 ·omega
theorem yes_of {a : Gr} {c : Cd} (h : LftOk a c) (h1 : isYesB c = true) : c = yesC := by
 have k1 : c.kind = 1 := by simpa [isYesB] using h1
 have hs := (Cd.ovr_zero h.ovr).1
 rw [cd_plain hs h.bare (by omega), shape_nil hs k1, k1]
theorem no_of {a : Gr} {c : Cd} (h : LftOk a c) (h1 : isNoB c = true) : c = noC := by
 have k2 : c.kind = 2 := by
  apply Classical.byContradiction
  intro hk
  simp [isNoB, hk] at h1
 have hs := (Cd.ovr_zero h.ovr).1
 have hl := shape_two hs k2
 obtain ⟨x, hx⟩ := List.length_eq_one_iff.1 hl
 have hxo := h.kid x (by simp [hx])
 rw [Cd.inn, if_neg (by omega)] at hxo
 have := yes_of hxo (by simpa [isNoB, k2, hd1, hx, isYesB] using h1)
 rw [cd_plain hs h.bare (by omega), k2, hx, this]
theorem false_no {a : Gr} {c : Cd} (h : LftOk a c) : isFalseB c = isNoB c := by
 unfold isFalseB isNoB
 split
 ·rename_i k2
  rw [if_pos (shape_two (Cd.ovr_zero h.ovr).1 k2)]
 ·rfl
def neuW (k : Int) (x : Cd) : Bool := if k = 3 then isYesB x else if k = 4 then isNoB x else false
def absW (k : Int) (x : Cd) : Bool := if k = 4 then isYesB x else if k = 1 then false else isNoB x
def topW (k : Int) : Cd := if k = 3 ∨ k = 5 then noC else yesC
def redW (c : Cd) (K : List Cd) : Cd := if anyB (absW c.kind) K = true then topW c.kind else if c.kind = 3 ∨ c.kind = 4 then lstR c.kind (if c.kind = 3 then yesC else noC) (K.filter fun x => !neuW c.kind x) else withK c K
theorem red_spec {c : Cd} {K : List Cd} (h : shapeC c = 0) (hl : K.length = c.kids.length) : redS (withK c K) = redW c K := by
 have hk : c.kind = 1 ∨ c.kind = 2 ∨ c.kind = 3 ∨ c.kind = 4 ∨ c.kind = 5 := by
  unfold shapeC at h
  split at h
  ·rename_i ho
   unfold okC at ho
   split at ho
   ·omega
   ·split at ho
    ·omega
    ·split at ho
     ·omega
     ·split at ho
      ·omega
      ·cases ho
  ·omega
 unfold redS redW
 rw [show (withK c K).kind = c.kind from rfl, show (withK c K).kids = K from rfl]
 rcases hk with hk | hk | hk | hk | hk
 ·have : K = [] := List.length_eq_zero_iff.1 (by rw [hl, shape_nil h hk]; rfl)
  subst this
  simp [hk, anyB]
 ·obtain ⟨x, hx⟩ := List.length_eq_one_iff.1 (hl.trans (shape_two h hk))
  subst hx
  simp [hk, anyB, absW, topW]
 ·simp only [hk]
  simp only [listS, show (withK c K).kind = c.kind from rfl, show (withK c K).kids = K from rfl, hk]
  rfl
 ·simp only [hk]
  simp only [listS, show (withK c K).kind = c.kind from rfl, show (withK c K).kids = K from rfl, hk]
  rfl
 ·obtain ⟨x, hx⟩ := List.length_eq_one_iff.1 (hl.trans (shape_kind h hk))
  subst hx
  simp [hk, anyB, absW, topW]
theorem kind_some {c : Cd} (h : shapeC c = 0) (h0 : 0 < c.kids.length) : c.kind = 3 ∨ c.kind = 4 ∨ c.kind = 2 ∨ c.kind = 5 := by
 by_cases k1 : c.kind = 1
 ·rw [shape_nil h k1] at h0
  cases h0
 ·unfold shapeC okC at h
  rw [if_neg k1] at h
  by_cases k2 : c.kind = 2
  ·omega
  ·rw [if_neg k2] at h
   by_cases k3 : c.kind = 3 ∨ c.kind = 4
   ·omega
   ·rw [if_neg k3] at h
    by_cases k5 : c.kind = 5
    ·omega
    ·rw [if_neg k5] at h
     simp at h
theorem wk1 {c : Cd} {K : List Cd} : (withK c K).kind = c.kind := rfl
theorem wk2 {c : Cd} {K : List Cd} : (withK c K).kids = K := rfl
theorem wk3 {c : Cd} {K : List Cd} : (withK c K).m = c.m := rfl
theorem wk4 {c : Cd} {K : List Cd} : (withK c K).g = c.g := rfl
theorem wk5 {c : Cd} {K : List Cd} : (withK c K).sl = c.sl := rfl
theorem wk6 {c : Cd} {K : List Cd} : (withK c K).vars = c.vars := rfl
theorem wk7 {c : Cd} {K : List Cd} : (withK c K).te = c.te := rfl
def stWo (c : Cd) (nb : Nat) (box : Nat → Option (List (List AV))) (i : Nat) (K : List Cd) (x : Acc) : AState :=
 ⟨tl [(4, I i), (3, .ptr (nb + 3) 0 0), (2, .ptr (nb + 2) 0 0), (1, .ptr (nb + 1) 0 0)], lb nb box [(3, [cutRow c K x.own]), (1, [c.row]), (2, [zRow])], x.tok, x.nt⟩
theorem without_c : ∀ (n : Nat) (c : Cd), SizeOf.sizeOf c < n → ∀ a, LftOk a c → ∀ (tok : Nat → Bool) (nt : Nat), DCall Tryz.prog 73 [c.av] tok nt c.wod.av tok nt
 | 0, c, hn, _, _, _, _ => absurd hn (Nat.not_lt_zero _)
 | n + 1, c, hn, a, h, tok, nt => by
  have ih := fun x (hx : x ∈ c.kids) => without_c n x (by have := Cd.kid_lt hx; omega) _ (h.kid x hx)
  have hkl := h.fit.kids
  rw [kidN_eq] at hkl
  have hsh := (Cd.ovr_zero h.ovr).1
  intro box nb
  have hN := c.wod_eq
  obtain ⟨W, hW⟩ : ∃ W, c.kids.map Cd.wod = W := ⟨_, rfl⟩
  have hWl : W.length = c.kids.length := by rw [← hW]; simp
  have hWok : ∀ x ∈ W, LftOk (c.inn a) x := by
   intro x hx
   rw [← hW] at hx
   obtain ⟨y, hy, rfl⟩ := List.mem_map.1 hx
   exact wod_ok _ y (Nat.lt_succ_self _) _ (h.kid y hy)
  have hWi : ∀ (i : Nat) (hi : i < c.kids.length), c.kids[i].wod = W[i] := fun i hi => by simp [← hW]
  rw [hW, red_spec hsh hWl] at hN
  generalize c.wod = N at *
  refine sB Tryz.func73 Tryz.ntmps73 ?_
  intro hbox htok
  simp only at hbox htok
  apply AL.start
  try (simp)
  repeat (refine sR ?_; simp)
  refine sN ?_
  refine AL.loopT (fun x => stWo c nb box x.i (filK (neuW c.kind) W x.i) x) (fun x => x.i ≤ c.kids.length ∧ allP (fun y => !absW c.kind y) (W.take x.i) = true ∧ TK tok nt x.tok x.nt [x.own]) (fun x => c.kids.length - x.i) ⟨0, .full, tok, nt⟩ ⟨Nat.zero_le _, by simp [allP], (TK.start htok).full⟩ (Weaks.mk (Nat.le_refl _) rfl (by simp [ToL, lk, lb_at]) (by simp [BoxL, lk, filK])) ?_
  rintro ⟨i, own, tok', nt'⟩ S ⟨hi, hall, htk⟩ hS
  simp only [stWo] at hS hi htk hall
  subst hS
  have hw := sW (i := i) (by omega)
  have hKl := filK_len (neuW c.kind) W i
  try (simp)
  repeat (refine sR ?_; simp)
  refine sC ?_
  simp
  refine ⟨fun hlt => ?_, fun hge => ?_⟩
  ·have ihx := ih _ (List.getElem_mem hlt)
   rw [hWi i hlt] at ihx
   have hltW : i < W.length := by omega
   have hmem := List.getElem_mem hltW
   have hxo := hWok _ hmem
   have q1 := isFalse_c W[i] hxo.fit.kids
   rw [false_no hxo] at q1
   have hst := filK_succ (neu := neuW c.kind) hltW
   have hmore := fun h => all_more (p := fun y => !absW c.kind y) hltW hall h
   have hab : absW c.kind W[i] = true → N = topW c.kind := fun h => by
    have h2 : anyB (absW c.kind) W = true := List.any_eq_true.2 ⟨_, hmem, h⟩
    rw [hN, redW, if_pos h2]
   have hny : isNoB W[i] = true → W[i] = noC := no_of hxo
   have hye : isYesB W[i] = true → W[i] = yesC := yes_of hxo
   generalize hK2 : filK (neuW c.kind) W (i + 1) = K2 at *
   generalize filK (neuW c.kind) W i = K at *
   generalize hX : W[i] = X at *
   try (simp [hlt, Cd.cells_eq])
   repeat (refine sR ?_; simp [hlt, Cd.cells_eq])
   refine Stop.of_d (ihx _ _) ?_
   simp
   refine sR ?_
   simp
   refine AL.midP ⟨tl [(22, I c.kind), (5, .ptr (nb + 5) 0 0), (4, I i), (3, .ptr (nb + 3) 0 0), (2, .ptr (nb + 2) 0 0), (1, .ptr (nb + 1) 0 0)], lb nb box [(5, [X.row]), (3, [cutRow c K own]), (1, [c.row]), (2, [zRow])], tok', nt'⟩ (absW c.kind X = false ∧ neuW c.kind X = false) ?_ ?_
   ·have hkd : c.kind = 3 ∨ c.kind = 4 ∨ c.kind = 2 ∨ c.kind = 5 := kind_some hsh (by omega)
    rcases hkd with k3 | k4 | k2 | k5
    ·try (simp [k3])
     repeat (refine sR ?_; simp [k3])
     refine sC ?_
     simp [k3]
     try (simp)
     repeat (refine sR ?_; simp)
     refine Stop.of_d (q1 _ _) ?_
     simp
     cases e1 : isNoB X
     ·refine sC ?_
      simp
      try (simp)
      repeat (refine sR ?_; simp)
      by_cases x1 : X.kind = 1
      ·refine sC ?_
       simp [x1]
       refine sX ?_
       simp only [AU, ↓reduceIte]
       rw [if_neg (by decide)]
       try (simp [hw])
       repeat (refine sR ?_; simp [hw])
       refine sE ?_
       rw [show neuW c.kind X = true from by simp [k3, absW, neuW, isYesB, x1, e1], if_pos rfl] at hst
       have hm2 := hmore (by simp [k3, absW, neuW, isYesB, x1, e1])
       rw [k3] at hm2 hK2
       refine ⟨⟨i + 1, own, tok', nt'⟩, ⟨hlt, hm2, htk⟩, by simp only; omega, ?_⟩
       simp only [hK2, hst]
       exact Weaks.mk htk.le rfl (by simp [ToL, lk, lb_at]) (by simp [BoxL, lk])
      ·have bx : (X.kind == 1) = false := by simp [x1]
       refine sC ?_
       simp [bx]
       refine sE ?_
       exact ⟨⟨by simp [k3, absW, neuW, isYesB, x1, e1], by simp [k3, absW, neuW, isYesB, x1, e1]⟩, Weaks.mk htk.le rfl (by simp [ToL, lk, lb_at, k3]) (by simp [BoxL, lk, k3])⟩
     ·refine sC ?_
      simp
      have hNn : N = noC := by rw [hab (by simp [k3, absW, e1]), k3]; rfl
      try (simp)
      repeat (refine sR ?_; simp)
      refine Stop.of_d (false34_c _ _) ?_
      simp
      refine sT ?_
      try simp only [AU]
      refine ⟨by simp, sF hbox htok htk.old htk.le ?_⟩
      simp [packA, hNn]
    ·try (simp [k4])
     repeat (refine sR ?_; simp [k4])
     refine sC ?_
     simp [k4]
     try (simp [k4])
     repeat (refine sR ?_; simp [k4])
     refine sC ?_
     simp [k4]
     try (simp)
     repeat (refine sR ?_; simp)
     by_cases x1 : X.kind = 1
     ·refine sC ?_
      simp [x1]
      have hNn : N = yesC := by rw [hab (by simp [k4, absW, isYesB, x1]), k4]; rfl
      try (simp)
      repeat (refine sR ?_; simp)
      rw [← hye (by simp [isYesB, x1])] at hNn
      refine sT ?_
      try simp only [AU]
      refine ⟨by simp, sF hbox htok htk.old htk.le ?_⟩
      simp [packA, hNn, x1]
     ·have bx : (X.kind == 1) = false := by simp [x1]
      refine sC ?_
      simp [bx]
      try (simp)
      repeat (refine sR ?_; simp)
      refine Stop.of_d (q1 _ _) ?_
      simp
      cases e1 : isNoB X
      ·refine sC ?_
       simp
       refine sE ?_
       exact ⟨⟨by simp [k4, absW, neuW, isYesB, x1, e1], by simp [k4, absW, neuW, isYesB, x1, e1]⟩, Weaks.mk htk.le rfl (by simp [ToL, lk, lb_at, k4]) (by simp [BoxL, lk, k4])⟩
      ·refine sC ?_
       simp
       refine sX ?_
       simp only [AU, ↓reduceIte]
       rw [if_neg (by decide)]
       try (simp [hw])
       repeat (refine sR ?_; simp [hw])
       refine sE ?_
       rw [show neuW c.kind X = true from by simp [k4, absW, neuW, isYesB, x1, e1], if_pos rfl] at hst
       have hm2 := hmore (by simp [k4, absW, neuW, isYesB, x1, e1])
       rw [k4] at hm2 hK2
       refine ⟨⟨i + 1, own, tok', nt'⟩, ⟨hlt, hm2, htk⟩, by simp only; omega, ?_⟩
       simp only [hK2, hst]
       exact Weaks.mk htk.le rfl (by simp [ToL, lk, lb_at]) (by simp [BoxL, lk])
    ·try (simp [k2])
     repeat (refine sR ?_; simp [k2])
     refine sC ?_
     simp [k2]
     try (simp [k2])
     repeat (refine sR ?_; simp [k2])
     refine sC ?_
     simp [k2]
     try (simp [k2])
     repeat (refine sR ?_; simp [k2])
     refine sC ?_
     simp [k2]
     try (simp)
     repeat (refine sR ?_; simp)
     refine Stop.of_d (q1 _ _) ?_
     simp
     cases e1 : isNoB X
     ·refine sC ?_
      simp
      refine sE ?_
      exact ⟨⟨by simp [k2, absW, neuW, isYesB, e1], by simp [k2, absW, neuW, isYesB, e1]⟩, Weaks.mk htk.le rfl (by simp [ToL, lk, lb_at, k2]) (by simp [BoxL, lk, k2])⟩
     ·refine sC ?_
      simp
      have hNn : N = yesC := by rw [hab (by simp [k2, absW, e1]), k2]; rfl
      try (simp)
      repeat (refine sR ?_; simp)
      refine Stop.of_d (true33_c _ _) ?_
      simp
      refine sT ?_
      try simp only [AU]
      refine ⟨by simp, sF hbox htok htk.old htk.le ?_⟩
      simp [packA, hNn]
    ·try (simp [k5])
     repeat (refine sR ?_; simp [k5])
     refine sC ?_
     simp [k5]
     try (simp [k5])
     repeat (refine sR ?_; simp [k5])
     refine sC ?_
     simp [k5]
     try (simp [k5])
     repeat (refine sR ?_; simp [k5])
     refine sC ?_
     simp [k5]
     try (simp [k5])
     repeat (refine sR ?_; simp [k5])
     refine sC ?_
     simp [k5]
     try (simp)
     repeat (refine sR ?_; simp)
     refine Stop.of_d (q1 _ _) ?_
     simp
     cases e1 : isNoB X
     ·refine sC ?_
      simp
      refine sE ?_
      exact ⟨⟨by simp [k5, absW, neuW, isYesB, e1], by simp [k5, absW, neuW, isYesB, e1]⟩, Weaks.mk htk.le rfl (by simp [ToL, lk, lb_at, k5]) (by simp [BoxL, lk, k5])⟩
     ·refine sC ?_
      simp
      have hNn : N = noC := by rw [hab (by simp [k5, absW, e1]), k5]; rfl
      try (simp)
      repeat (refine sR ?_; simp)
      rw [← hny e1] at hNn
      refine sT ?_
      try simp only [AU]
      refine ⟨by simp, sF hbox htok htk.old htk.le ?_⟩
      simp [packA, hNn]
   ·rintro ⟨ha, hn⟩
    rw [hn, if_neg (by simp)] at hst
    try (simp)
    repeat (refine sR ?_; simp)
    refine ⟨⟨by omega, htk.live⟩, ?_⟩
    try (simp [hw])
    repeat (refine sR ?_; simp [hw])
    refine sE ?_
    refine ⟨⟨i + 1, _, _, _⟩, ⟨hlt, hmore (by simp [ha]), htk.app⟩, by simp only; omega, ?_⟩
    simp only [hK2, hst]
    exact Weaks.mk htk.app.le rfl (by simp [ToL, lk, lb_at, Cd.cells_eq]) (by simp [BoxL, lk, Cd.cells_eq])
  ·refine sX ?_
   simp only [AU, ↓reduceIte]
   have hil : W.length ≤ i := by omega
   have hany : ¬ anyB (absW c.kind) W = true := by
    rw [List.take_of_length_le hil, allP_iff] at hall
    rw [anyB, List.any_eq_true]
    rintro ⟨x, hx, h⟩
    have := hall x hx
    rw [h] at this
    cases this
   rw [redW, if_neg hany] at hN
   have hf : (W.filter fun x => !neuW c.kind x) = filK (neuW c.kind) W i := by rw [filK, List.take_of_length_le hil]
   by_cases k34 : c.kind = 3 ∨ c.kind = 4
   ·rw [if_pos k34, hf] at hN
    have hcd := cd_plain hsh h.bare (by omega)
    have hwk : ∀ K, withK c K = cdOf c.kind K := fun K => by rw [hcd]; rfl
    clear hcd
    generalize filK (neuW c.kind) W i = K at *
    unfold lstR at hN
    by_cases k0 : K.length = 0
    ·have k0' : K = [] := List.length_eq_zero_iff.1 k0
     rw [if_pos k0] at hN
     subst k0'
     rcases k34 with k3 | k4
     ·rw [if_pos k3] at hN
      try (simp [k3])
      repeat (refine sR ?_; simp [k3])
      refine sC ?_
      simp [k3]
      try (simp)
      repeat (refine sR ?_; simp)
      refine sC ?_
      simp
      try (simp [k3])
      repeat (refine sR ?_; simp [k3])
      refine sC ?_
      simp [k3]
      try (simp)
      repeat (refine sR ?_; simp)
      refine Stop.of_d (true33_c _ _) ?_
      simp
      refine sT ?_
      try simp only [AU]
      refine ⟨by simp, sF hbox htok htk.old htk.le ?_⟩
      simp [packA, hN]
     ·rw [if_neg (by omega)] at hN
      try (simp [k4])
      repeat (refine sR ?_; simp [k4])
      refine sC ?_
      simp [k4]
      try (simp)
      repeat (refine sR ?_; simp)
      refine sC ?_
      simp
      try (simp [k4])
      repeat (refine sR ?_; simp [k4])
      refine sC ?_
      simp [k4]
      try (simp)
      repeat (refine sR ?_; simp)
      refine sC ?_
      simp
      try (simp)
      repeat (refine sR ?_; simp)
      refine Stop.of_d (false34_c _ _) ?_
      simp
      refine sT ?_
      try simp only [AU]
      refine ⟨by simp, sF hbox htok htk.old htk.le ?_⟩
      simp [packA, hN]
    ·have k0' : ¬ K = [] := fun h => k0 (by rw [h]; rfl)
     have k0i : ((K.length : Int) == 0) = false := by simp [k0']
     rw [if_neg k0] at hN
     have b34 : (c.kind != 3 && c.kind != 4) = false := by rcases k34 with e | e <;> simp [e]
     by_cases k1 : K.length = 1
     ·have hl0 : 0 < K.length := by omega
      rw [if_pos k1, show K.getD 0 (if c.kind = 3 then yesC else noC) = K[0] by simp [hl0]] at hN
      rcases k34 with k3 | k4
      ·try (simp [k3])
       repeat (refine sR ?_; simp [k3])
       refine sC ?_
       simp [k3]
       try (simp [k1])
       repeat (refine sR ?_; simp [k1])
       refine sC ?_
       simp [k1]
       try (simp [hl0, Cd.cells_eq])
       repeat (refine sR ?_; simp [hl0, Cd.cells_eq])
       refine sT ?_
       try simp only [AU]
       refine ⟨by simp, sF hbox htok htk.old htk.le ?_⟩
       simp [packA, hN]
      ·try (simp [k4])
       repeat (refine sR ?_; simp [k4])
       refine sC ?_
       simp [k4]
       try (simp [k1])
       repeat (refine sR ?_; simp [k1])
       refine sC ?_
       simp [k1]
       try (simp [hl0, Cd.cells_eq])
       repeat (refine sR ?_; simp [hl0, Cd.cells_eq])
       refine sT ?_
       try simp only [AU]
       refine ⟨by simp, sF hbox htok htk.old htk.le ?_⟩
       simp [packA, hN]
     ·have k1i : ((K.length : Int) == 1) = false := by simp; omega
      rw [if_neg k1, ← hwk] at hN
      rcases k34 with k3 | k4
      ·try (simp [k3])
       repeat (refine sR ?_; simp [k3])
       refine sC ?_
       simp [k3]
       try (simp [k1i])
       repeat (refine sR ?_; simp [k1i])
       refine sC ?_
       simp [k1i]
       try (simp [k0i])
       repeat (refine sR ?_; simp [k0i])
       refine sC ?_
       simp [k0i]
       try (simp [k0i])
       repeat (refine sR ?_; simp [k0i])
       refine sC ?_
       simp [k0i]
       try (simp)
       repeat (refine sR ?_; simp)
       refine sT ?_
       try simp only [AU]
       refine ⟨by simp, sF hbox htok htk.old htk.le ?_⟩
       simp [packA, hN, wk1, wk2, wk3, wk4, wk5, wk6, wk7, k3]
      ·try (simp [k4])
       repeat (refine sR ?_; simp [k4])
       refine sC ?_
       simp [k4]
       try (simp [k1i])
       repeat (refine sR ?_; simp [k1i])
       refine sC ?_
       simp [k1i]
       try (simp [k0i])
       repeat (refine sR ?_; simp [k0i])
       refine sC ?_
       simp [k0i]
       try (simp [k0i])
       repeat (refine sR ?_; simp [k0i])
       refine sC ?_
       simp [k0i]
       try (simp)
       repeat (refine sR ?_; simp)
       refine sT ?_
       try simp only [AU]
       refine ⟨by simp, sF hbox htok htk.old htk.le ?_⟩
       simp [packA, hN, wk1, wk2, wk3, wk4, wk5, wk6, wk7, k4]
   ·rw [if_neg k34] at hN
    have hz : W = filK (neuW c.kind) W i := by
     rw [← hf]
     refine (List.filter_eq_self.2 fun x _ => ?_).symm
     rw [neuW, if_neg (by omega), if_neg (by omega)]
     rfl
    rw [← hz]
    have b3 : (c.kind != 3) = true := by simp; omega
    have b4 : (c.kind != 4) = true := by simp; omega
    try (simp [b3, b4])
    repeat (refine sR ?_; simp [b3, b4])
    refine sC ?_
    simp [b3, b4]
    try (simp)
    repeat (refine sR ?_; simp)
    refine sT ?_
    try simp only [AU]
    refine ⟨by simp, sF hbox htok htk.old htk.le ?_⟩
    simp [packA, hN, withK, Cd.kind, Cd.kids, Cd.m, Cd.g, Cd.sl, Cd.vars, Cd.te]
end Go.AM
namespace Go.AM
open Go Go.Proofs Go.ChangeShapes
set_option maxRecDepth 100000 in
theorem pruneR_c (t : Ty) (ht : t.Fit) (r : Ru) (hr : r.Fit) (c : Cd) (hc : c.Fit) (tok : Nat → Bool) (nt : Nat) : DCall Tryz.prog 24 [t.av, r.av, c.av] tok nt (.tup [(pruR t r c).1.av, I (pruR t r c).2]) tok nt := by
 intro box nb
 have h1 := valid04_c t ht ht.hM
 have h2 := structural34_c r hr
 have h3 := validR_c r.lg c hr.lg hc
 have h4 := of_c r.lg hr.lg
 have hv := @strR_valid r
 have hvc := @validC_zero r.lg c
 obtain ⟨N, hN⟩ : ∃ N, pruR t r c = N := ⟨_, rfl⟩
 rw [hN]
 unfold pruR at hN
 have hdl := deleted34_c r
 have hsz := fun h => (@strR_zero r h).1
 have hcw : strR r = 0 → validC r.lg c = 0 → (∀ tok nt, DCall Tryz.prog 74 [c.av, .d (ints (delL r.k.nodes r.lg.nodes.length)), .d (ints (iota r.lg.edges.length))] tok nt (c.ctr (delL r.k.nodes r.lg.nodes.length) (iota r.lg.edges.length)).av tok nt) ∧ (∀ tok nt, DCall Tryz.prog 73 [(c.ctr (delL r.k.nodes r.lg.nodes.length) (iota r.lg.edges.length)).av] tok nt (c.prn (delL r.k.nodes r.lg.nodes.length) (iota r.lg.edges.length)).av tok nt) := fun e2 e3 => by
  obtain ⟨v1, _⟩ := hv e2
  have hnn := (validG_types v1).1
  have hov := (hvc e3).2
  have hok : LftOk r.lg c := ⟨hov, hc, ovr_bare2 _ c (Nat.lt_succ_self _) _ hov⟩
  refine ⟨cutR_c _ c (Nat.lt_succ_self _) _ hok (delL r.k.nodes r.lg.nodes.length) (iota r.lg.edges.length) (by have := flatN_len (delF_len r.k.nodes) r.lg.nodes.length; rw [delL]; omega) (by simp; omega) (fun x hx => mem_delL hx) (fun x hx => by simp [iota] at hx; omega), ?_⟩
  have hw := without_c _ (c.ctr (delL r.k.nodes r.lg.nodes.length) (iota r.lg.edges.length)) (Nat.lt_succ_self _) _ (ctr_ok _ c (Nat.lt_succ_self _) _ hok (delL r.k.nodes r.lg.nodes.length) (iota r.lg.edges.length))
  rw [ctr_wod _ c (Nat.lt_succ_self _)] at hw
  exact hw
 generalize hE : tyE t = E at *
 generalize tyN t = Z at *
 generalize strR r = S at *
 generalize validC r.lg c = V at *
 refine sB Tryz.func24 Tryz.ntmps24 ?_
 intro hbox htok
 simp only at hbox htok
 apply AL.start
 try (simp)
 repeat (refine sR ?_; simp)
 refine Stop.of_d (h1 _ _) ?_
 simp
 try (simp)
 repeat (refine sR ?_; simp)
 by_cases e1 : E = 0
 ·rw [if_neg (by simp [e1])] at hN
  refine sC ?_
  simp [e1]
  try (simp)
  repeat (refine sR ?_; simp)
  refine Stop.of_d (h2 _ _) ?_
  simp
  try (simp)
  repeat (refine sR ?_; simp)
  by_cases e2 : S = 0
  ·rw [if_neg (by simp [e2])] at hN
   obtain ⟨v1, v2⟩ := hv e2
   have hnn := (validG_types v1).1
   refine sC ?_
   simp [e2]
   try (simp)
   repeat (refine sR ?_; simp)
   refine Stop.of_d (h3 _ _) ?_
   simp
   try (simp)
   repeat (refine sR ?_; simp)
   by_cases e3 : V = 0
   ·rw [if_neg (by simp [e3])] at hN
    obtain ⟨q1, q2⟩ := hcw e2 e3
    have q3 := hdl (hsz e2).k.emb.n hr.k.n (by omega)
    generalize delL r.k.nodes r.lg.nodes.length = D at *
    generalize c.ctr D (iota r.lg.edges.length) = U at *
    generalize c.prn D (iota r.lg.edges.length) = W at *
    refine sC ?_
    simp [e3]
    try (simp)
    repeat (refine sR ?_; simp)
    refine Stop.of_d (q3 _ _) ?_
    simp
    refine Stop.of_d (h4 _ _) ?_
    simp
    try (simp)
    repeat (refine sR ?_; simp)
    refine Stop.of_d (q1 _ _) ?_
    simp
    refine Stop.of_d (q2 _ _) ?_
    simp
    refine sT ?_
    try simp only [AU]
    refine ⟨by simp, sF hbox htok (fun _ h => h) (Nat.le_refl _) ?_⟩
    simp [packA, ← hN]
   ·rw [if_pos e3] at hN
    have b3 : (V != 0) = true := by simp [e3]
    refine sC ?_
    simp [b3]
    try (simp)
    repeat (refine sR ?_; simp)
    refine sT ?_
    try simp only [AU]
    refine ⟨by simp, sF hbox htok (fun _ h => h) (Nat.le_refl _) ?_⟩
    simp [packA, ← hN, cdOf, Cd.kind, Cd.kids, Cd.m, Cd.g, Cd.sl, Cd.vars, Cd.te, conds, ints, AM.edges, slots, tests]
  ·rw [if_pos e2] at hN
   have b2 : (S != 0) = true := by simp [e2]
   refine sC ?_
   simp [b2]
   try (simp)
   repeat (refine sR ?_; simp)
   refine sT ?_
   try simp only [AU]
   refine ⟨by simp, sF hbox htok (fun _ h => h) (Nat.le_refl _) ?_⟩
   simp [packA, ← hN, cdOf, Cd.kind, Cd.kids, Cd.m, Cd.g, Cd.sl, Cd.vars, Cd.te, conds, ints, AM.edges, slots, tests]
 ·rw [if_pos e1] at hN
  have b1 : (E != 0) = true := by simp [e1]
  refine sC ?_
  simp [b1]
  try (simp)
  repeat (refine sR ?_; simp)
  refine sT ?_
  try simp only [AU]
  refine ⟨by simp, sF hbox htok (fun _ h => h) (Nat.le_refl _) ?_⟩
  simp [packA, ← hN, cdOf, Cd.kind, Cd.kids, Cd.m, Cd.g, Cd.sl, Cd.vars, Cd.te, conds, ints, AM.edges, slots, tests]
theorem pruR_fb {t : Ty} {r : Ru} {c : Cd} (hc : c.Fit) : (pruR t r c).1.Fit ∧ (pruR t r c).1.Bare := by
 unfold pruR
 split
 ·exact nil_fb 0
 ·split
  ·exact nil_fb 0
  ·split
   ·exact nil_fb 0
   ·rename_i h3
    have hov := (validC_zero (Decidable.not_not.1 h3)).2
    have hok : LftOk r.lg c := ⟨hov, hc, ovr_bare2 _ c (Nat.lt_succ_self _) _ hov⟩
    have := prn_ok _ c (Nat.lt_succ_self _) _ hok (delL r.k.nodes r.lg.nodes.length) (iota r.lg.edges.length)
    exact ⟨this.fit, this.bare⟩
theorem lawPrune_c (t : Ty) (r : Ru) (c : Cd) (hb : t.Big) (hr : r.Big) (hcb : c.Big) (tok : Nat → Bool) (nt : Nat) : ∃ tok' nt', DCall Tryz.prog 6 [t.av, r.av, c.av] tok nt (B true) tok' nt' := by
 refine ⟨tok, nt, ?_⟩
 intro box nb
 have hft := tyFew_c t hb
 have hfw := few34_c r hr
 have hl := light_c r.lg c hcb
 refine sB Tryz.func6 Tryz.ntmps6 ?_
 intro hbox htok
 simp only at hbox htok
 apply AL.start
 try (simp)
 repeat (refine sR ?_; simp)
 refine Stop.of_d (awake34_c _ _) ?_
 simp
 try (simp)
 repeat (refine sR ?_; simp)
 refine Stop.of_d (hft _ _) ?_
 simp
 cases h1 : fewT t
 ·try (simp)
  repeat (refine sR ?_; simp)
  refine sC ?_
  simp
  try (simp)
  repeat (refine sR ?_; simp)
  refine Stop.of_d (awake34_c _ _) ?_
  simp
  try (simp)
  repeat (refine sR ?_; simp)
  refine sT ?_
  try simp only [AU]
  refine ⟨by simp, sF hbox htok (fun _ h => h) (Nat.le_refl _) ?_⟩
  simp [packA]
 ·have htf := fewT_fit h1
  try (simp)
  repeat (refine sR ?_; simp)
  refine Stop.of_d (hfw _ _) ?_
  simp
  cases h2 : fewR r
  ·try (simp)
   repeat (refine sR ?_; simp)
   refine sC ?_
   simp
   try (simp)
   repeat (refine sR ?_; simp)
   refine Stop.of_d (awake34_c _ _) ?_
   simp
   try (simp)
   repeat (refine sR ?_; simp)
   refine sT ?_
   try simp only [AU]
   refine ⟨by simp, sF hbox htok (fun _ h => h) (Nat.le_refl _) ?_⟩
   simp [packA]
  ·have hrf := fewR_fit hr h2
   try (simp)
   repeat (refine sR ?_; simp)
   refine Stop.of_d (hl _ _) ?_
   simp
   cases h3 : lightB r.lg c
   ·try (simp)
    repeat (refine sR ?_; simp)
    refine sC ?_
    simp
    try (simp)
    repeat (refine sR ?_; simp)
    refine Stop.of_d (awake34_c _ _) ?_
    simp
    try (simp)
    repeat (refine sR ?_; simp)
    refine sT ?_
    try simp only [AU]
    refine ⟨by simp, sF hbox htok (fun _ h => h) (Nat.le_refl _) ?_⟩
    simp [packA]
   ·obtain ⟨_, hc⟩ := lightB_fit hcb h3
    have f1 := pruneP_c t htf r hrf c hc
    have f2 := pruneR_c t htf r hrf c hc
    obtain ⟨g1, g2⟩ := pruR_fb (t := t) (r := r) hc
    have f3 := same33_c _ (pruR t r c).1 (Nat.lt_succ_self _) g1 g2
    generalize pruR t r c = L at *
    try (simp)
    repeat (refine sR ?_; simp)
    refine sC ?_
    simp
    try (simp)
    repeat (refine sR ?_; simp)
    refine Stop.of_d (f1 _ _) ?_
    simp
    try (simp)
    repeat (refine sR ?_; simp)
    refine Stop.of_d (f2 _ _) ?_
    simp
    try (simp)
    repeat (refine sR ?_; simp)
    refine Stop.of_d (f3 _ _) ?_
    simp
    try (simp)
    repeat (refine sR ?_; simp)
    refine sT ?_
    try simp only [AU]
    refine ⟨by simp, sF hbox htok (fun _ h => h) (Nat.le_refl _) ?_⟩
    simp [packA]
end Go.AM
