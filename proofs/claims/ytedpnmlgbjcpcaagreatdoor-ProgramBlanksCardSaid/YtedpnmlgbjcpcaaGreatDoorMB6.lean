/-
  Parts of the proof, as merged from many texts: a machine over data, what the functions compute, plain laws.
-/
import Derived.Test.YtedpnmlgbjcpcaaGreatDoorMB5
import Derived.Lib.IndexAny
set_option linter.unusedSimpArgs false
set_option linter.unusedVariables false
namespace Go.AM
open Go Go.Proofs
inductive Cm.Sm : Cm → Prop
  | mk {c : Cm} (hn : c.name.size ≤ 200000000000000) (hk : c.kids.length ≤ 200000000000000) (h : ∀ x ∈ c.kids, Cm.Sm x) : Cm.Sm c
theorem Cm.Sm.name {c : Cm} (h : c.Sm) : c.name.size ≤ 200000000000000 := by cases h; assumption
theorem Cm.Sm.len {c : Cm} (h : c.Sm) : c.kids.length ≤ 200000000000000 := by cases h; assumption
theorem Cm.Sm.kid {c : Cm} (h : c.Sm) : ∀ x ∈ c.kids, Cm.Sm x := by cases h; assumption
abbrev ckAv (p : List Pr) (rs : List ByteArray) (asked : Bool) (at' : Nat) : AV := .agg [.d (prs p), .d (rules46 rs), B asked, I at']
set_option maxRecDepth 100000 in
theorem own_c (c : Cm) (p : List Pr) (rs : List ByteArray) (asked : Bool) (at' : Nat) (hc : c.Sm) (hp : p.length ≤ 200000000000000) (hr : rs.length ≤ 200000000000000) (tok : Nat → Bool) (nt : Nat) :
    DCall Tryz.prog 112 [ckAv p rs asked at', c.av] tok nt (I (ownE p rs asked at' c)) tok nt := by
  intro box nb
  have hf := formed_c c hc.len
  have hnm := isName_c c.name hc.name
  have hpl := placeP_c p c.name hp
  have hcf := fun nb box tok nt => containsFuncR_c rs 148 [.ptr (nb + 3) 0 0] (fun r => decide (c.name = r)) hr (lb nb box [(3, [c.row]), (2, [[.d (prs p), .d (rules46 rs), B asked, I at']])]) (nb + 53) tok nt (by simp [lb_at])
    (fun x _ box' nb' he => own1_c x c box' nb' _ tok nt (he _ _ (by simp [lb_at, lk])))
  obtain ⟨N, hN⟩ : ∃ N, ownE p rs asked at' c = N := ⟨_, rfl⟩
  rw [hN]
  unfold ownE at hN
  refine sB Tryz.func112 Tryz.ntmps112 ?_
  intro hbox htok
  simp only at hbox htok
  apply AL.start
  try (simp)
  repeat (refine sR ?_; simp)
  refine Stop.of_d (hf _ _) ?_
  simp
  cases e1 : okB c
  · rw [if_pos e1] at hN
    try (simp)
    repeat (first | (refine sR ?_; simp) | (refine sC ?_; simp) | (refine sX ?_; simp only [AU, ↓reduceIte]))
    refine sT ?_
    try simp only [AU]
    refine ⟨by simp, sF hbox htok (fun _ h => h) (Nat.le_refl _) ?_⟩
    simp [packA, ← hN]
  · rw [if_neg (by simp [e1])] at hN
    try (simp)
    repeat (first | (refine sR ?_; simp) | (refine sC ?_; simp) | (refine sX ?_; simp only [AU, ↓reduceIte]))
    by_cases k1 : c.kind = 1
    · rw [if_pos k1] at hN
      try (simp [k1])
      repeat (first | (refine sR ?_; simp [k1]) | (refine sC ?_; simp [k1]) | (refine sX ?_; simp only [AU, ↓reduceIte]))
      refine Stop.of_d (hnm _ _) ?_
      simp
      cases e2 : nameB c.name
      · rw [if_pos e2] at hN
        try (simp)
        repeat (first | (refine sR ?_; simp) | (refine sC ?_; simp) | (refine sX ?_; simp only [AU, ↓reduceIte]))
        refine sT ?_
        try simp only [AU]
        refine ⟨by simp, sF hbox htok (fun _ h => h) (Nat.le_refl _) ?_⟩
        simp [packA, ← hN]
      · rw [if_neg (by simp [e2])] at hN
        cases asked
        · rw [if_neg (by simp)] at hN
          try (simp)
          repeat (first | (refine sR ?_; simp) | (refine sC ?_; simp) | (refine sX ?_; simp only [AU, ↓reduceIte]))
          refine sT ?_
          try simp only [AU]
          refine ⟨by simp, sF hbox htok (fun _ h => h) (Nat.le_refl _) ?_⟩
          simp [packA, ← hN]
        · try (simp)
          repeat (first | (refine sR ?_; simp) | (refine sC ?_; simp) | (refine sX ?_; simp only [AU, ↓reduceIte]))
          refine Stop.of_b (hcf nb box tok nt) ?_
          simp
          have hm : anyB (fun r => decide (c.name = r)) rs = memS rs c.name := rfl
          cases e3 : memS rs c.name
          · rw [e3] at hm hN
            rw [if_pos (by simp)] at hN
            try (simp [hm])
            repeat (first | (refine sR ?_; simp [hm]) | (refine sC ?_; simp [hm]) | (refine sX ?_; simp only [AU, ↓reduceIte]))
            refine sT ?_
            try simp only [AU]
            refine ⟨by simp, sF hbox htok (fun _ h => h) (Nat.le_refl _) ?_⟩
            simp [packA, ← hN]
          · rw [e3] at hm hN
            rw [if_neg (by simp)] at hN
            try (simp [hm])
            repeat (first | (refine sR ?_; simp [hm]) | (refine sC ?_; simp [hm]) | (refine sX ?_; simp only [AU, ↓reduceIte]))
            refine sT ?_
            try simp only [AU]
            refine ⟨by simp, sF hbox htok (fun _ h => h) (Nat.le_refl _) ?_⟩
            simp [packA, ← hN]
    · rw [if_neg k1] at hN
      have b1 : (c.kind == 1) = false := by simp [k1]
      by_cases k10 : c.kind = 10
      · rw [if_pos k10] at hN
        try (simp [k10])
        repeat (first | (refine sR ?_; simp [k10]) | (refine sC ?_; simp [k10]) | (refine sX ?_; simp only [AU, ↓reduceIte]))
        refine Stop.of_d (hnm _ _) ?_
        simp
        cases e2 : nameB c.name
        · rw [if_pos e2] at hN
          try (simp)
          repeat (first | (refine sR ?_; simp) | (refine sC ?_; simp) | (refine sX ?_; simp only [AU, ↓reduceIte]))
          refine sT ?_
          try simp only [AU]
          refine ⟨by simp, sF hbox htok (fun _ h => h) (Nat.le_refl _) ?_⟩
          simp [packA, ← hN]
        · rw [if_neg (by simp [e2])] at hN
          try (simp)
          repeat (first | (refine sR ?_; simp) | (refine sC ?_; simp) | (refine sX ?_; simp only [AU, ↓reduceIte]))
          refine Stop.of_d (hpl _ _) ?_
          simp
          generalize placeR p c.name = k at *
          by_cases e3 : k < 0
          · rw [if_pos e3] at hN
            try (simp [e3])
            repeat (first | (refine sR ?_; simp [e3]) | (refine sC ?_; simp [e3]) | (refine sX ?_; simp only [AU, ↓reduceIte]))
            refine sT ?_
            try simp only [AU]
            refine ⟨by simp, sF hbox htok (fun _ h => h) (Nat.le_refl _) ?_⟩
            simp [packA, ← hN]
          · rw [if_neg e3] at hN
            by_cases e4 : (at' : Int) ≤ k
            · rw [if_pos e4] at hN
              try (simp [e3, e4])
              repeat (first | (refine sR ?_; simp [e3, e4]) | (refine sC ?_; simp [e3, e4]) | (refine sX ?_; simp only [AU, ↓reduceIte]))
              refine sT ?_
              try simp only [AU]
              refine ⟨by simp, sF hbox htok (fun _ h => h) (Nat.le_refl _) ?_⟩
              simp [packA, ← hN]
            · rw [if_neg e4] at hN
              try (simp [e3, e4])
              repeat (first | (refine sR ?_; simp [e3, e4]) | (refine sC ?_; simp [e3, e4]) | (refine sX ?_; simp only [AU, ↓reduceIte]))
              refine sT ?_
              try simp only [AU]
              refine ⟨by simp, sF hbox htok (fun _ h => h) (Nat.le_refl _) ?_⟩
              simp [packA, ← hN]
      · rw [if_neg k10] at hN
        have b10 : (c.kind == 10) = false := by simp [k10]
        by_cases k6 : c.kind = 6
        · rw [if_pos k6] at hN
          by_cases e3 : c.num < 1
          · rw [if_neg (by omega)] at hN
            try (simp [k6, e3])
            repeat (first | (refine sR ?_; simp [k6, e3]) | (refine sC ?_; simp [k6, e3]) | (refine sX ?_; simp only [AU, ↓reduceIte]))
            refine sT ?_
            try simp only [AU]
            refine ⟨by simp, sF hbox htok (fun _ h => h) (Nat.le_refl _) ?_⟩
            simp [packA, ← hN]
          · by_cases e4 : 9 < c.num
            · rw [if_neg (by omega)] at hN
              try (simp [k6, e3, e4])
              repeat (first | (refine sR ?_; simp [k6, e3, e4]) | (refine sC ?_; simp [k6, e3, e4]) | (refine sX ?_; simp only [AU, ↓reduceIte]))
              refine sT ?_
              try simp only [AU]
              refine ⟨by simp, sF hbox htok (fun _ h => h) (Nat.le_refl _) ?_⟩
              simp [packA, ← hN]
            · rw [if_pos (by omega)] at hN
              try (simp [k6, e3, e4])
              repeat (first | (refine sR ?_; simp [k6, e3, e4]) | (refine sC ?_; simp [k6, e3, e4]) | (refine sX ?_; simp only [AU, ↓reduceIte]))
              refine sT ?_
              try simp only [AU]
              refine ⟨by simp, sF hbox htok (fun _ h => h) (Nat.le_refl _) ?_⟩
              simp [packA, ← hN]
        · rw [if_neg k6] at hN
          have b6 : (c.kind == 6) = false := by simp [k6]
          try (simp [k1, b1, b10, b6])
          repeat (first | (refine sR ?_; simp [k1, b1, b10, b6]) | (refine sC ?_; simp [k1, b1, b10, b6]) | (refine sX ?_; simp only [AU, ↓reduceIte]))
          refine sT ?_
          try simp only [AU]
          refine ⟨by simp, sF hbox htok (fun _ h => h) (Nat.le_refl _) ?_⟩
          simp [packA, ← hN]
def stCo (c : Cm) (p : List Pr) (rs : List ByteArray) (asked : Bool) (at' : Nat) (nb : Nat) (box : Nat → Option (List (List AV))) (tok : Nat → Bool) (nt : Nat) (i : Nat) : AState :=
  ⟨tl [(16, .d (cms c.kids)), (17, I c.kids.length), (18, I i), (3, .ptr (nb + 3) 0 0), (2, .ptr (nb + 2) 0 0)], lb nb box [(3, [c.row]), (2, [[.d (prs p), .d (rules46 rs), B asked, I at']])], tok, nt⟩
set_option maxRecDepth 100000 in
theorem command_c (p : List Pr) (rs : List ByteArray) (asked : Bool) (at' : Nat) (hp : p.length ≤ 200000000000000) (hr : rs.length ≤ 200000000000000) : ∀ (n : Nat) (c : Cm), c.size < n → c.Sm → ∀ (tok : Nat → Bool) (nt : Nat),
    DCall Tryz.prog 75 [ckAv p rs asked at', c.av] tok nt (I (cmdE p rs asked at' c)) tok nt
  | 0, c, hn, _, tok, nt => absurd hn (Nat.not_lt_zero _)
  | n + 1, c, hn, hc, tok, nt => by
    intro box nb
    have ih := fun x (hx : x ∈ c.kids) => command_c p rs asked at' hp hr n x (by have := Cm.kid_size hx; omega) (hc.kid x hx)
    have ho := own_c c p rs asked at' hc hp hr
    have hl := hc.len
    have hN := cmdE_eq p rs asked at' c
    refine sB Tryz.func75 Tryz.ntmps75 ?_
    intro hbox htok
    simp only at hbox htok
    apply AL.start
    try (simp)
    repeat (refine sR ?_; simp)
    refine Stop.of_d (ho _ _) ?_
    simp
    by_cases e1 : ownE p rs asked at' c = 0
    · have b1 : (ownE p rs asked at' c != 0) = false := by simp [e1]
      rw [if_neg (by simp [e1])] at hN
      try (simp [b1])
      repeat (first | (refine sR ?_; simp [b1]) | (refine sC ?_; simp [b1]) | (refine sX ?_; simp only [AU, ↓reduceIte]))
      refine sN ?_
      refine AL.loopT (stCo c p rs asked at' nb box tok nt) (fun i => i ≤ c.kids.length ∧ ∀ x ∈ c.kids.take i, cmdE p rs asked at' x = 0) (fun i => c.kids.length - i) 0 ⟨Nat.zero_le _, by simp⟩ (Weaks.mk (Nat.le_refl _) rfl (by simp [ToL, lk]) (by simp [BoxL, lk])) ?_
      rintro i S ⟨hi, htk⟩ hS
      simp only [stCo] at hS
      subst hS
      have hw := sW (i := i) (by omega)
      try (simp)
      repeat (refine sR ?_; simp)
      refine sC ?_
      simp
      refine ⟨fun hlt => ?_, fun hge => ?_⟩
      · have ihx := ih _ (List.getElem_mem hlt)
        have hst := cmdEL_take (p := p) (rs := rs) (asked := asked) (at' := at') hlt htk
        have hmore : cmdE p rs asked at' c.kids[i] = 0 → ∀ x ∈ c.kids.take (i + 1), cmdE p rs asked at' x = 0 := fun he x hx => by
          rw [List.take_succ_eq_append_getElem hlt] at hx
          rcases List.mem_append.1 hx with hx | hx
          · exact htk x hx
          · simp at hx; rw [hx]; exact he
        try (simp [hlt, Cm.cells_eq])
        repeat (refine sR ?_; simp [hlt, Cm.cells_eq])
        generalize c.kids[i] = x at *
        try (simp)
        repeat (refine sR ?_; simp)
        refine Stop.of_d (ihx _ _) ?_
        simp
        by_cases e2 : cmdE p rs asked at' x = 0
        · have b2 : (cmdE p rs asked at' x != 0) = false := by simp [e2]
          try (simp [b2, hw])
          repeat (first | (refine sR ?_; simp [b2, hw]) | (refine sC ?_; simp [b2, hw]) | (refine sX ?_; simp only [AU, ↓reduceIte]))
          refine sE ?_
          exact ⟨i + 1, ⟨hlt, hmore e2⟩, by omega, Weaks.mk (Nat.le_refl _) rfl (by simp [ToL, lk]) (by simp [BoxL, lk])⟩
        · have b2 : (cmdE p rs asked at' x != 0) = true := by simp [e2]
          try (simp [b2])
          repeat (first | (refine sR ?_; simp [b2]) | (refine sC ?_; simp [b2]) | (refine sX ?_; simp only [AU, ↓reduceIte]))
          refine sT ?_
          try simp only [AU]
          refine ⟨by simp, sF hbox htok (fun _ h => h) (Nat.le_refl _) ?_⟩
          simp [packA, hN, hst e2]
      · refine sX ?_
        simp only [AU, ↓reduceIte]
        have : i = c.kids.length := by omega
        subst this
        rw [List.take_length] at htk
        have h0 := cmdEL_none htk
        try (simp)
        repeat (refine sR ?_; simp)
        refine sT ?_
        try simp only [AU]
        refine ⟨by simp, sF hbox htok (fun _ h => h) (Nat.le_refl _) ?_⟩
        simp [packA, hN, h0]
    · have b1 : (ownE p rs asked at' c != 0) = true := by simp [e1]
      rw [if_pos e1] at hN
      try (simp [b1])
      repeat (first | (refine sR ?_; simp [b1]) | (refine sC ?_; simp [b1]) | (refine sX ?_; simp only [AU, ↓reduceIte]))
      refine sT ?_
      try simp only [AU]
      refine ⟨by simp, sF hbox htok (fun _ h => h) (Nat.le_refl _) ?_⟩
      simp [packA, hN]
structure PrsOk (p : List Pr) : Prop where
  len : p.length ≤ 200000000000000
  nm : ∀ q ∈ p, q.name.size ≤ 200000000000000
  bd : ∀ q ∈ p, q.body.Sm
  sz : ∀ q ∈ p, q.body.size ≤ 1000000
def stFa (p : List Pr) (rs : List ByteArray) (asked : Bool) (nb : Nat) (box : Nat → Option (List (List AV))) (tok : Nat → Bool) (nt : Nat) (i : Nat) : AState :=
  ⟨tl [(22, .d (prs p)), (23, I p.length), (24, I i), (3, .ptr (nb + 3) 0 0), (1, .d (rules46 rs)), (2, B asked)], lb nb box [(3, [[.d (prs p)]])], tok, nt⟩
set_option maxRecDepth 100000 in
theorem fault_c (p : List Pr) (rs : List ByteArray) (asked : Bool) (hp : PrsOk p) (hr : rs.length ≤ 200000000000000) (tok : Nat → Bool) (nt : Nat) :
    DCall Tryz.prog 39 [prsAv p, .d (rules46 rs), B asked] tok nt (.tup [I (faultR p rs asked).1, I (faultR p rs asked).2]) tok nt := by
  intro box nb
  have hpl := hp.len
  obtain ⟨N, hN⟩ : ∃ N, faultR p rs asked = N := ⟨_, rfl⟩
  rw [hN]
  unfold faultR at hN
  refine sB Tryz.func39 Tryz.ntmps39 ?_
  intro hbox htok
  simp only at hbox htok
  apply AL.start
  try (simp)
  repeat (refine sR ?_; simp)
  by_cases e1 : p.length = 0
  · rw [if_pos e1] at hN
    try (simp [e1])
    repeat (first | (refine sR ?_; simp [e1]) | (refine sC ?_; simp [e1]) | (refine sX ?_; simp only [AU, ↓reduceIte]))
    refine sT ?_
    try simp only [AU]
    refine ⟨by simp, sF hbox htok (fun _ h => h) (Nat.le_refl _) ?_⟩
    simp [packA, ← hN]
  · rw [if_neg e1] at hN
    have b1 : ((p.length : Int) == 0) = false := by rw [beq_eq_false_iff_ne]; omega
    by_cases e2 : 20 < p.length
    · rw [if_pos e2] at hN
      have e2' : (20 : Int) < p.length := by omega
      try (simp [b1, e2'])
      repeat (first | (refine sR ?_; simp [b1, e2']) | (refine sC ?_; simp [b1, e2']) | (refine sX ?_; simp only [AU, ↓reduceIte]))
      refine sT ?_
      try simp only [AU]
      refine ⟨by simp, sF hbox htok (fun _ h => h) (Nat.le_refl _) ?_⟩
      simp [packA, ← hN]
    · rw [if_neg e2] at hN
      have e2' : ¬ (20 : Int) < p.length := by omega
      simp only [b1]
      try (simp [e2'])
      repeat (first | (refine sR ?_; simp [e2']) | (refine sC ?_; simp [e2']) | (refine sX ?_; simp only [AU, ↓reduceIte]))
      refine sN ?_
      refine AL.loopT (stFa p rs asked nb box tok nt) (fun i => i ≤ p.length ∧ faultL p rs asked (p.drop i) i = N) (fun i => p.length - i) 0 ⟨Nat.zero_le _, by rw [List.drop_zero]; exact hN⟩ (Weaks.mk (Nat.le_refl _) rfl (by simp [ToL, lk]) (by simp [BoxL, lk])) ?_
      rintro i S ⟨hi, hf⟩ hS
      simp only [stFa] at hS
      subst hS
      have hw := sW (i := i) (by omega)
      try (simp)
      repeat (refine sR ?_; simp)
      refine sC ?_
      simp
      refine ⟨fun hlt => ?_, fun hge => ?_⟩
      · have hm := List.getElem_mem hlt
        have h1 := isName_c p[i].name (hp.nm _ hm)
        have h2 := placeP_c p p[i].name hpl
        have h3 := measureP_c _ p[i].body (Nat.lt_succ_self _) (hp.sz _ hm)
        have h4 := command_c p rs asked i hpl hr _ p[i].body (Nat.lt_succ_self _) (hp.bd _ hm)
        rw [faultL_drop p rs asked hlt] at hf
        obtain ⟨pe, hpe⟩ : ∃ pe, prE p rs asked i p[i] = pe := ⟨_, rfl⟩
        rw [hpe] at hf
        have hE := hpe
        unfold prE at hE
        try (simp [hlt])
        repeat (refine sR ?_; simp [hlt])
        generalize p[i] = q at *
        try (simp)
        repeat (refine sR ?_; simp)
        refine Stop.of_d (h1 _ _) ?_
        simp
        cases e3 : nameB q.name
        · rw [if_pos e3] at hE
          rw [← hE, if_pos (by decide)] at hf
          try (simp)
          repeat (first | (refine sR ?_; simp) | (refine sC ?_; simp) | (refine sX ?_; simp only [AU, ↓reduceIte]))
          refine sT ?_
          try simp only [AU]
          refine ⟨by simp, sF hbox htok (fun _ h => h) (Nat.le_refl _) ?_⟩
          simp [packA, ← hf]
        · rw [if_neg (by simp [e3])] at hE
          try (simp)
          repeat (first | (refine sR ?_; simp) | (refine sC ?_; simp) | (refine sX ?_; simp only [AU, ↓reduceIte]))
          refine Stop.of_d (h2 _ _) ?_
          simp
          by_cases e4 : placeR p q.name < i
          · rw [if_pos e4] at hE
            rw [← hE, if_pos (by decide)] at hf
            try (simp [e4])
            repeat (first | (refine sR ?_; simp [e4]) | (refine sC ?_; simp [e4]) | (refine sX ?_; simp only [AU, ↓reduceIte]))
            refine sT ?_
            try simp only [AU]
            refine ⟨by simp, sF hbox htok (fun _ h => h) (Nat.le_refl _) ?_⟩
            simp [packA, ← hf]
          · rw [if_neg e4] at hE
            try (simp [e4])
            repeat (first | (refine sR ?_; simp [e4]) | (refine sC ?_; simp [e4]) | (refine sX ?_; simp only [AU, ↓reduceIte]))
            refine Stop.of_d (h3 _ _) ?_
            simp
            by_cases e5 : 60 < q.body.size
            · rw [if_pos (.inl e5)] at hE
              rw [← hE, if_pos (by decide)] at hf
              have e5' : (60 : Int) < q.body.size := by omega
              try (simp [e5'])
              repeat (first | (refine sR ?_; simp [e5']) | (refine sC ?_; simp [e5']) | (refine sX ?_; simp only [AU, ↓reduceIte]))
              refine sT ?_
              try simp only [AU]
              refine ⟨by simp, sF hbox htok (fun _ h => h) (Nat.le_refl _) ?_⟩
              simp [packA, ← hf]
            · have e5' : ¬ (60 : Int) < q.body.size := by omega
              by_cases e6 : 6 < q.body.depth
              · rw [if_pos (.inr e6)] at hE
                rw [← hE, if_pos (by decide)] at hf
                have e6' : (6 : Int) < q.body.depth := by omega
                try (simp [e5', e6'])
                repeat (first | (refine sR ?_; simp [e5', e6']) | (refine sC ?_; simp [e5', e6']) | (refine sX ?_; simp only [AU, ↓reduceIte]))
                refine sT ?_
                try simp only [AU]
                refine ⟨by simp, sF hbox htok (fun _ h => h) (Nat.le_refl _) ?_⟩
                simp [packA, ← hf]
              · rw [if_neg (by omega)] at hE
                rw [← hE] at hf
                have e6' : ¬ (6 : Int) < q.body.depth := by omega
                try (simp [e5', e6'])
                repeat (first | (refine sR ?_; simp [e5', e6']) | (refine sC ?_; simp [e5', e6']) | (refine sX ?_; simp only [AU, ↓reduceIte]))
                refine Stop.of_d (h4 _ _) ?_
                simp
                by_cases e7 : cmdE p rs asked i q.body = 0
                · have b7 : (cmdE p rs asked i q.body != 0) = false := by simp [e7]
                  rw [if_neg (by simp [e7])] at hf
                  try (simp [b7, hw])
                  repeat (first | (refine sR ?_; simp [b7, hw]) | (refine sC ?_; simp [b7, hw]) | (refine sX ?_; simp only [AU, ↓reduceIte]))
                  refine sE ?_
                  exact ⟨i + 1, ⟨hlt, hf⟩, by omega, Weaks.mk (Nat.le_refl _) rfl (by simp [ToL, lk]) (by simp [BoxL, lk])⟩
                · have b7 : (cmdE p rs asked i q.body != 0) = true := by simp [e7]
                  rw [if_pos e7] at hf
                  try (simp [b7])
                  repeat (first | (refine sR ?_; simp [b7]) | (refine sC ?_; simp [b7]) | (refine sX ?_; simp only [AU, ↓reduceIte]))
                  refine sT ?_
                  try simp only [AU]
                  refine ⟨by simp, sF hbox htok (fun _ h => h) (Nat.le_refl _) ?_⟩
                  simp [packA, ← hf]
      · refine sX ?_
        simp only [AU, ↓reduceIte]
        have : i = p.length := by omega
        subst this
        rw [List.drop_length, faultL] at hf
        try (simp)
        repeat (refine sR ?_; simp)
        refine sT ?_
        try simp only [AU]
        refine ⟨by simp, sF hbox htok (fun _ h => h) (Nat.le_refl _) ?_⟩
        simp [packA, ← hf]
theorem faultL_rng (p : List Pr) (rs : List ByteArray) (asked : Bool) : ∀ (l : List Pr) (i : Nat), (faultL p rs asked l i).1 = -1 ∨ (i : Int) ≤ (faultL p rs asked l i).1 ∧ (faultL p rs asked l i).1 < i + l.length
  | [], i => .inl rfl
  | q :: r, i => by
    rw [faultL]
    split
    · right; simp only [List.length_cons]; omega
    · rcases faultL_rng p rs asked r (i + 1) with h | h
      · exact .inl h
      · right; simp only [List.length_cons]; omega
theorem faultR_rng (p : List Pr) (rs : List ByteArray) (asked : Bool) : (faultR p rs asked).1 = -1 ∨ 0 ≤ (faultR p rs asked).1 ∧ (faultR p rs asked).1.toNat < p.length := by
  unfold faultR
  split
  · exact .inl rfl
  · split
    · exact .inl rfl
    · rcases faultL_rng p rs asked p 0 with h | h
      · exact .inl h
      · right; omega
end Go.AM
namespace Go.AM
open Go Go.Proofs
def stSm (c : Cm) (nb : Nat) (box : Nat → Option (List (List AV))) (tok : Nat → Bool) (nt : Nat) (i : Nat) : AState :=
  ⟨tl [(5, I i), (2, .ptr (nb + 2) 0 0), (3, .ptr (nb + 3) 0 0)], lb nb box [(3, [c.row]), (2, [c.row])], tok, nt⟩
set_option maxRecDepth 100000 in
theorem sameC_c : ∀ (n : Nat) (c : Cm), c.size < n → c.Sm → ∀ (tok : Nat → Bool) (nt : Nat), DCall Tryz.prog 25 [c.av, c.av] tok nt (B true) tok nt
  | 0, c, hn, _, tok, nt => absurd hn (Nat.not_lt_zero _)
  | n + 1, c, hn, hc, tok, nt => by
    intro box nb
    have ih := fun x (hx : x ∈ c.kids) => sameC_c n x (by have := Cm.kid_size hx; omega) (hc.kid x hx)
    have hl := hc.len
    refine sB Tryz.func25 Tryz.ntmps25 ?_
    intro hbox htok
    simp only at hbox htok
    apply AL.start
    try (simp)
    repeat (first | (refine sR ?_; simp) | (refine sC ?_; simp) | (refine sX ?_; simp only [AU, ↓reduceIte]))
    refine sN ?_
    refine AL.loopT (stSm c nb box tok nt) (fun i => i ≤ c.kids.length) (fun i => c.kids.length - i) 0 (Nat.zero_le _) (Weaks.mk (Nat.le_refl _) rfl (by simp [ToL, lk]) (by simp [BoxL, lk])) ?_
    rintro i S hi hS
    simp only [stSm] at hS
    subst hS
    have hw := sW (i := i) (by omega)
    by_cases hlt : i < c.kids.length
    · have ihx := ih _ (List.getElem_mem hlt)
      try (simp [hlt])
      repeat (refine sR ?_; simp [hlt])
      refine sC ?_
      simp
      try (simp [hlt, Cm.cells_eq])
      repeat (refine sR ?_; simp [hlt, Cm.cells_eq])
      generalize c.kids[i] = x at *
      refine Stop.of_d (ihx _ _) ?_
      simp
      try (simp [hw])
      repeat (first | (refine sR ?_; simp [hw]) | (refine sC ?_; simp [hw]) | (refine sX ?_; simp only [AU, ↓reduceIte]))
      refine sE ?_
      exact ⟨i + 1, hlt, by omega, Weaks.mk (Nat.le_refl _) rfl (by simp [ToL, lk]) (by simp [BoxL, lk])⟩
    · try (simp [hlt])
      repeat (refine sR ?_; simp [hlt])
      refine sC ?_
      simp
      refine sX ?_
      simp only [AU, ↓reduceIte]
      try (simp)
      repeat (refine sR ?_; simp)
      refine sT ?_
      try simp only [AU]
      refine ⟨by simp, sF hbox htok (fun _ h => h) (Nat.le_refl _) ?_⟩
      simp [packA]
def stSp (p : List Pr) (nb : Nat) (box : Nat → Option (List (List AV))) (tok : Nat → Bool) (nt : Nat) (i : Nat) : AState :=
  ⟨tl [(5, I i), (2, .ptr (nb + 2) 0 0), (3, .ptr (nb + 3) 0 0)], lb nb box [(3, [[.d (prs p)]]), (2, [[.d (prs p)]])], tok, nt⟩
set_option maxRecDepth 100000 in
theorem same_c (p : List Pr) (hl : p.length ≤ 200000000000000) (hs : ∀ q ∈ p, q.body.Sm) (tok : Nat → Bool) (nt : Nat) : DCall Tryz.prog 16 [prsAv p, prsAv p] tok nt (B true) tok nt := by
  intro box nb
  refine sB Tryz.func16 Tryz.ntmps16 ?_
  intro hbox htok
  simp only at hbox htok
  apply AL.start
  try (simp)
  repeat (first | (refine sR ?_; simp) | (refine sC ?_; simp) | (refine sX ?_; simp only [AU, ↓reduceIte]))
  refine sN ?_
  refine AL.loopT (stSp p nb box tok nt) (fun i => i ≤ p.length) (fun i => p.length - i) 0 (Nat.zero_le _) (Weaks.mk (Nat.le_refl _) rfl (by simp [ToL, lk]) (by simp [BoxL, lk])) ?_
  rintro i S hi hS
  simp only [stSp] at hS
  subst hS
  have hw := sW (i := i) (by omega)
  by_cases hlt : i < p.length
  · have ihx := sameC_c _ p[i].body (Nat.lt_succ_self _) (hs _ (List.getElem_mem hlt))
    try (simp [hlt])
    repeat (refine sR ?_; simp [hlt])
    refine sC ?_
    simp
    try (simp [hlt])
    repeat (refine sR ?_; simp [hlt])
    generalize p[i] = x at *
    refine Stop.of_d (ihx _ _) ?_
    simp
    try (simp [hw])
    repeat (first | (refine sR ?_; simp [hw]) | (refine sC ?_; simp [hw]) | (refine sX ?_; simp only [AU, ↓reduceIte]))
    refine sE ?_
    exact ⟨i + 1, hlt, by omega, Weaks.mk (Nat.le_refl _) rfl (by simp [ToL, lk]) (by simp [BoxL, lk])⟩
  · try (simp [hlt])
    repeat (refine sR ?_; simp [hlt])
    refine sC ?_
    simp
    refine sX ?_
    simp only [AU, ↓reduceIte]
    try (simp)
    repeat (refine sR ?_; simp)
    refine sT ?_
    try simp only [AU]
    refine ⟨by simp, sF hbox htok (fun _ h => h) (Nat.le_refl _) ?_⟩
    simp [packA]
mutual
def Cm.left : Cm → Int → Int
  | .mk _ s _ c, m => if 60 < s.size then -1 else Cm.leftL c (m - 1)
def Cm.leftL : List Cm → Int → Int
  | [], m => m
  | x :: r, m => if 0 ≤ m then Cm.leftL r (Cm.left x m) else m
end
theorem Cm.left_eq (c : Cm) (m : Int) : c.left m = if 60 < c.name.size then -1 else Cm.leftL c.kids (m - 1) := by cases c; rw [Cm.left]; rfl
def stNm (l : List ByteArray) (nb : Nat) (box : Nat → Option (List (List AV))) (x : Acc) : AState :=
  ⟨tl [(4, I x.i), (3, .osl 25 ((l.map ruleRow).take x.i) x.own), (0, .d (strs l))], lb nb box [], x.tok, x.nt⟩
set_option maxRecDepth 100000 in
theorem named_c (l : List ByteArray) (hl : l.length ≤ 100000000) (tok : Nat → Bool) (nt : Nat) : DCall Tryz.prog 20 [.d (strs l)] tok nt (.d (rules46 l)) tok nt := by
  intro box nb
  refine sB Tryz.func20 Tryz.ntmps20 ?_
  intro hbox htok
  simp only at hbox htok
  apply AL.start
  have ht0 := TK.start htok
  try (simp)
  repeat (refine sR ?_; simp)
  refine sN ?_
  refine AL.loopT (stNm l nb box) (fun x => x.i ≤ l.length ∧ TK tok nt x.tok x.nt [x.own]) (fun x => l.length - x.i) ⟨0, .full, tok, nt⟩ ⟨Nat.zero_le _, ht0.full⟩ (Weaks.mk (Nat.le_refl _) rfl (by simp [ToL, lk]) trivial) ?_
  rintro ⟨i, own, tok1, nt1⟩ S ⟨hi, htk⟩ hS
  simp only [stNm] at hS hi htk
  subst hS
  have hw := sW (i := i) (by omega)
  by_cases hlt : i < l.length
  · have hx : (l.map ruleRow).take (i + 1) = (l.map ruleRow).take i ++ [ruleRow l[i]] := by rw [List.take_succ_eq_append_getElem (by rw [List.length_map]; exact hlt), List.getElem_map]
    try (simp [hlt])
    repeat (refine sR ?_; simp [hlt])
    refine sC ?_
    simp
    try (simp [hlt])
    repeat (refine sR ?_; simp [hlt])
    refine ⟨⟨by omega, htk.live⟩, ?_⟩
    try (simp [hw])
    repeat (refine sR ?_; simp [hw])
    refine sE ?_
    refine ⟨⟨i + 1, .tok nt1, upd (own.kill tok1) nt1 true, nt1 + 1⟩, ⟨hlt, htk.app⟩, by simp only; omega, ?_⟩
    simp only [stNm]
    exact Weaks.mk (by have := htk.le; omega) rfl (by simp [ToL, lk, hx]) trivial
  · have : i = l.length := by omega
    subst this
    rw [List.take_of_length_le (by simp)]
    try (simp [hlt])
    repeat (refine sR ?_; simp [hlt])
    refine sC ?_
    simp
    refine sX ?_
    simp only [AU, ↓reduceIte]
    try (simp)
    repeat (refine sR ?_; simp)
    refine sT ?_
    try simp only [AU]
    refine ⟨by simp, sF hbox htok htk.old htk.le ?_⟩
    simp [packA, rules46]
end Go.AM
namespace Go.AM
open Go Go.Proofs Go.Shelf
structure Tk where
  kind : Int
  text : ByteArray
  line : Int
abbrev Tk.cells (t : Tk) : List D := [.raw (.int .i64 t.kind), .raw (.string t.text), .raw (.int .i64 t.line)]
abbrev tks (l : List Tk) : D := .sl 3 (l.map Tk.cells)
theorem Tk.get {l : List Tk} {i : Nat} (h : i < l.length) : (l.map Tk.cells)[i]? = some [.raw (.int .i64 l[i].kind), .raw (.string l[i].text), .raw (.int .i64 l[i].line)] := by simp [h]
theorem ba_ext {a b : ByteArray} (h : a.data.toList = b.data.toList) : a = b := by
  obtain ⟨⟨a⟩⟩ := a
  obtain ⟨⟨b⟩⟩ := b
  simp at h
  rw [h]
theorem ba_cut (s : ByteArray) (a b : Nat) : (s.extract a b).data.toList = (s.data.toList.drop a).take (b - a) := by
  rw [ByteArray.data_extract, Array.toList_extract, List.extract_eq_take_drop]
theorem sz_list (s : ByteArray) : s.data.toList.length = s.size := size_toList s
def dropB (s : ByteArray) (n : Nat) : ByteArray := s.extract n s.size
theorem dropB_list (s : ByteArray) (n : Nat) : (dropB s n).data.toList = s.data.toList.drop n := by
  rw [dropB, ba_cut, List.take_of_length_le (by rw [List.length_drop, sz_list]; exact Nat.le_refl _)]
theorem dropB_size (s : ByteArray) (n : Nat) : (dropB s n).size = s.size - n := by rw [← sz_list, dropB_list, List.length_drop, sz_list]
theorem byteAt_get {s : ByteArray} {a : Nat} (h : a < s.data.toList.length) : byteAt s a = ((s.data.toList[a].toNat : Nat) : Int) := by
  simp only [byteAt, List.getD_eq_getElem?_getD, List.getElem?_eq_getElem h, Option.getD_some]
theorem runN_step {p : Int → Bool} {s : ByteArray} {a : Nat} (h : a < s.size) (hp : p (byteAt s a) = true) : runN p s a = runN p s (a + 1) + 1 := by
  have h2 : a < s.data.toList.length := by rw [sz_list]; exact h
  unfold runN
  rw [List.drop_eq_getElem_cons h2, List.takeWhile_cons, if_pos (by rw [← byteAt_get h2]; exact hp), List.length_cons]
theorem runN_pos {p : Int → Bool} {s : ByteArray} {a : Nat} (h : a < s.size) (hp : p (byteAt s a) = true) : 1 ≤ runN p s a := by rw [runN_step h hp]; omega
theorem runN_stop {p : Int → Bool} {s : ByteArray} {a : Nat} (hp : p (byteAt s a) = false) : runN p s a = 0 := by
  unfold runN
  by_cases h : a < s.data.toList.length
  · rw [List.drop_eq_getElem_cons h, List.takeWhile_cons, if_neg (by rw [← byteAt_get h, hp]; simp)]
    rfl
  · rw [List.drop_eq_nil_of_le (by omega)]
    rfl
theorem runN_end {p : Int → Bool} {s : ByteArray} {a : Nat} (h : s.size ≤ a) : runN p s a = 0 := by
  unfold runN
  rw [List.drop_eq_nil_of_le (by rw [sz_list]; exact h)]
  rfl
theorem quoR_rng {s : ByteArray} (h1 : 1 ≤ s.size) (he : (quoR s).2 = 0) : 2 ≤ (quoR s).1 ∧ (quoR s).1 ≤ s.size ∧ (quoR s).1 ≤ 62 := by
  have hle := runN_le quoB (s.extract 1 s.size) 0
  rw [ext1_size] at hle
  unfold quoR at he ⊢
  generalize runN quoB (s.extract 1 s.size) 0 = n at *
  split
  · rename_i h; rw [if_pos h] at he; simp at he
  · rename_i h
    rw [if_neg h] at he
    split
    · rename_i h2; rw [if_pos h2] at he; simp at he
    · rename_i h2
      rw [if_neg h2] at he
      split
      · rename_i h3; rw [if_pos h3] at he; simp at he
      · simp only; omega
theorem nextR_rng {s : ByteArray} (h1 : 1 ≤ s.size) (he : (nextR s).2.2 = 0) : 1 ≤ (nextR s).2.1 ∧ (nextR s).2.1 ≤ s.size ∧ ((nextR s).1 = 3 → 2 ≤ (nextR s).2.1) ∧ (1 ≤ (nextR s).1 ∧ (nextR s).1 ≤ 4) := by
  unfold nextR at he ⊢
  have hp1 := fun h => runN_pos (p := parB) (s := s) (a := 0) (by omega) h
  have hp2 := fun h => runN_pos (p := digB) (s := s) (a := 0) (by omega) h
  have hl1 := runN_le parB s 0
  have hl2 := runN_le digB s 0
  by_cases e1 : letB (byteAt s 0) = true
  · have := hp1 (by simp [parB, e1])
    rw [if_pos e1] at he ⊢
    split at he
    · simp at he
    · rename_i h2; rw [if_neg h2]; simp only; omega
  · rw [if_neg e1] at he ⊢
    by_cases e2 : digB (byteAt s 0) = true
    · have := hp2 e2
      rw [if_pos e2] at he ⊢
      split at he
      · simp at he
      · rename_i h2; rw [if_neg h2]; simp only; omega
    · rw [if_neg e2] at he ⊢
      by_cases e3 : byteAt s 0 = 34
      · rw [if_pos e3] at he ⊢
        have := quoR_rng h1 he
        simp only at this ⊢
        omega
      · rw [if_neg e3] at he ⊢
        by_cases e4 : pairB s = true
        · rw [if_pos e4]
          unfold pairB at e4
          simp at e4
          simp only; omega
        · rw [if_neg e4] at he ⊢
          split at he
          · rename_i h5; rw [if_pos h5]; simp only; omega
          · simp at he
def textR (s : ByteArray) : ByteArray := if (nextR s).1 = 3 then s.extract 1 ((nextR s).2.1.toNat - 1) else s.extract 0 (nextR s).2.1.toNat
def nlB (c : Int) : Bool := c != 10
def whiB (c : Int) : Bool := decide (c = 32 ∨ c = 9 ∨ c = 13)
def toksF : Nat → ByteArray → Int → List Tk → List Tk × Int × Int
  | 0, _, _, out => (out, 0, 0)
  | f + 1, s, line, out =>
    if s.size = 0 then (out, 0, 0)
    else if byteAt s 0 = 10 then toksF f (dropB s 1) (line + 1) out
    else if whiB (byteAt s 0) = true then toksF f (dropB s 1) line out
    else if byteAt s 0 = 35 then toksF f (dropB s (runN nlB s 0)) line out
    else if (nextR s).2.2 ≠ 0 then ([], line, (nextR s).2.2)
    else if out.length = 4000 then ([], line, 3)
    else toksF f (dropB s (nextR s).2.1.toNat) line (out ++ [⟨(nextR s).1, textR s, line⟩])
def toksR (s : ByteArray) : List Tk × Int × Int := if 20000 < s.size then ([], 0, 3) else toksF s.size s 1 []
theorem toksF_end {f : Nat} {s : ByteArray} {line : Int} {out : List Tk} (h : s.size = 0) : toksF f s line out = (out, 0, 0) := by
  cases f with
  | zero => rfl
  | succ f => rw [toksF, if_pos h]
theorem toksF_nl {f : Nat} {s : ByteArray} {line : Int} {out : List Tk} (h : ¬ s.size = 0) (h1 : byteAt s 0 = 10) : toksF (f + 1) s line out = toksF f (dropB s 1) (line + 1) out := by rw [toksF, if_neg h, if_pos h1]
theorem toksF_wh {f : Nat} {s : ByteArray} {line : Int} {out : List Tk} (h : ¬ s.size = 0) (h1 : ¬ byteAt s 0 = 10) (h2 : whiB (byteAt s 0) = true) : toksF (f + 1) s line out = toksF f (dropB s 1) line out := by rw [toksF, if_neg h, if_neg h1, if_pos h2]
theorem toksF_cm {f : Nat} {s : ByteArray} {line : Int} {out : List Tk} (h : ¬ s.size = 0) (h3 : byteAt s 0 = 35) : toksF (f + 1) s line out = toksF f (dropB s (runN nlB s 0)) line out := by
  rw [toksF, if_neg h, if_neg (by omega), if_neg (by simp [whiB, h3]), if_pos h3]
theorem toksF_tk {f : Nat} {s : ByteArray} {line : Int} {out : List Tk} (h : ¬ s.size = 0) (h1 : ¬ byteAt s 0 = 10) (h2 : ¬ whiB (byteAt s 0) = true) (h3 : ¬ byteAt s 0 = 35) : toksF (f + 1) s line out =
    if (nextR s).2.2 ≠ 0 then ([], line, (nextR s).2.2) else if out.length = 4000 then ([], line, 3) else toksF f (dropB s (nextR s).2.1.toNat) line (out ++ [⟨(nextR s).1, textR s, line⟩]) := by
  rw [toksF, if_neg h, if_neg h1, if_neg h2, if_neg h3]
end Go.AM
namespace Go.AM
open Go Go.Proofs
structure RS where
  at' : Nat
  bad : Int
abbrev RS.row (L : List Tk) (r : RS) : List AV := [.d (tks L), I r.at', I r.bad]
structure RS.Ok (L : List Tk) (r : RS) : Prop where
  a : r.at' ≤ L.length
  b : -1 ≤ r.bad
  c : r.bad ≤ L.length
def zC : Cm := .mk 0 ⟨#[]⟩ 0 []
def sPro : ByteArray := ⟨#[112, 114, 111, 99, 101, 100, 117, 114, 101]⟩
def sApp : ByteArray := ⟨#[97, 112, 112, 108, 121]⟩
def sCal : ByteArray := ⟨#[99, 97, 108, 108]⟩
def sSki : ByteArray := ⟨#[115, 107, 105, 112]⟩
def sFai : ByteArray := ⟨#[102, 97, 105, 108]⟩
def sLoo : ByteArray := ⟨#[108, 111, 111, 112]⟩
def sTry : ByteArray := ⟨#[116, 114, 121]⟩
def sIf : ByteArray := ⟨#[105, 102]⟩
def sThe : ByteArray := ⟨#[116, 104, 101, 110]⟩
def sEls : ByteArray := ⟨#[101, 108, 115, 101]⟩
def sCho : ByteArray := ⟨#[99, 104, 111, 111, 115, 101]⟩
def sOr : ByteArray := ⟨#[111, 114]⟩
def sRep : ByteArray := ⟨#[114, 101, 112, 101, 97, 116]⟩
def sOp : ByteArray := ⟨#[123]⟩
def sCl : ByteArray := ⟨#[125]⟩
def sSem : ByteArray := ⟨#[59]⟩
def numB (s : ByteArray) : Bool := decide (1 ≤ s.size ∧ s.size ≤ 9) && decide (runN digB s 0 = s.size)
def digK (s : ByteArray) (i : Nat) : Int := (s.data.toList.take i).foldl (fun n b => 10 * n + ((b.toNat : Int) - 48)) 0
def numR (s : ByteArray) : Int := if numB s = true then digK s s.size else 0
def isAt (L : List Tk) (i : Nat) (s : ByteArray) : Bool := match L[i]? with
  | some t => decide (t.text = s) && (decide (t.kind = 1) || decide (t.kind = 4))
  | none => false
def kindAt (L : List Tk) (i : Nat) (k : Int) : Bool := match L[i]? with
  | some t => decide (t.kind = k)
  | none => false
def textAt (L : List Tk) (i : Nat) : ByteArray := match L[i]? with
  | some t => t.text
  | none => ⟨#[]⟩
def peekB (L : List Tk) (r : RS) (s : ByteArray) : Bool := decide (r.bad < 0) && isAt L r.at' s
def failR (r : RS) : RS := if r.bad < 0 then ⟨r.at', r.at'⟩ else r
def takeR (L : List Tk) (r : RS) (s : ByteArray) : RS := if peekB L r s = true then ⟨r.at' + 1, r.bad⟩ else failR r
def kindB (L : List Tk) (r : RS) (k : Int) : Bool := decide (r.bad < 0) && kindAt L r.at' k
def kindR (L : List Tk) (r : RS) (k : Int) : ByteArray × RS := if kindB L r k = true then (textAt L r.at', ⟨r.at' + 1, r.bad⟩) else (⟨#[]⟩, failR r)
def simpR (L : List Tk) (r : RS) (k : Int) (named : Bool) : Cm × RS :=
  if named = true then (.mk k (kindR L r 1).1 0 [], takeR L (kindR L r 1).2 sSem) else (.mk k ⟨#[]⟩ 0 [], takeR L r sSem)
def blksR (L : List Tk) (B : RS → Cm × RS) : List ByteArray → RS → List Cm → List Cm × RS
  | [], r, l => (l, r)
  | w :: ws, r, l => blksR L B ws (B (takeR L r w)).2 (l ++ [(B (takeR L r w)).1])
def blocksR (L : List Tk) (B : RS → Cm × RS) (r : RS) (ws : List ByteArray) : List Cm × RS := blksR L B ws (B r).2 [(B r).1]
def restR (L : List Tk) (C : RS → Cm × RS) : Nat → RS → List Cm → List Cm × RS
  | 0, r, l => (l, r)
  | n + 1, r, l => if r.bad < 0 ∧ peekB L r sCl = false then restR L C n (C r).2 (l ++ [(C r).1]) else (l, r)
def orsR (L : List Tk) (B : RS → Cm × RS) : Nat → RS → List Cm → List Cm × RS
  | 0, r, l => (l, r)
  | n + 1, r, l => if peekB L r sOr = true then orsR L B n (B ⟨r.at' + 1, r.bad⟩).2 (l ++ [(B ⟨r.at' + 1, r.bad⟩).1]) else (l, r)
def wrapC (l : List Cm) : Cm := match l with
  | [c] => c
  | l => .mk 2 ⟨#[]⟩ 0 l
def blockR (L : List Tk) (C : RS → Cm × RS) (r : RS) : Cm × RS :=
  (wrapC (restR L C (L.length + 1) (C (takeR L r sOp)).2 [(C (takeR L r sOp)).1]).1, takeR L (restR L C (L.length + 1) (C (takeR L r sOp)).2 [(C (takeR L r sOp)).1]).2 sCl)
def asK (k n : Int) (x : List Cm × RS) : Cm × RS := (.mk k ⟨#[]⟩ n x.1, x.2)
def cmdS (L : List Tk) (B : RS → Cm × RS) (w : ByteArray) (r : RS) : Cm × RS :=
  if w = sApp then simpR L r 1 true else if w = sCal then simpR L r 10 true else if w = sSki then simpR L r 8 false else if w = sFai then simpR L r 9 false
  else if w = sLoo then asK 5 0 (blocksR L B r []) else if w = sTry then asK 7 0 (blocksR L B r []) else if w = sIf then asK 4 0 (blocksR L B r [sThe, sEls])
  else if w = sCho then asK 3 0 (orsR L B (L.length + 1) (blocksR L B r [sOr]).2 (blocksR L B r [sOr]).1)
  else if w = sRep then asK 6 (numR (kindR L r 2).1) (blocksR L B (kindR L r 2).2 [])
  else (zC, if r.bad < 0 then ⟨r.at', r.at' - 1⟩ else r)
def cmdR (L : List Tk) (B : RS → Cm × RS) (r : RS) : Cm × RS := if r.bad < 0 then cmdS L B (kindR L r 1).1 (kindR L r 1).2 else (zC, r)
mutual
def pCmd (L : List Tk) : Nat → RS → Cm × RS
  | 0, r => (zC, r)
  | n + 1, r => cmdR L (fun q => pBlk L n q) r
def pBlk (L : List Tk) : Nat → RS → Cm × RS
  | 0, r => (zC, r)
  | n + 1, r => blockR L (fun q => pCmd L n q) r
end
structure Adv (L : List Tk) (r r' : RS) : Prop where
  ok : r'.Ok L
  bd : 0 ≤ r.bad → r' = r
  le : r'.bad < 0 → r.at' ≤ r'.at'
structure AdvS (L : List Tk) (r r' : RS) : Prop where
  ok : r'.Ok L
  bd : 0 ≤ r.bad → r' = r
  lt : r'.bad < 0 → r.at' < r'.at'
theorem AdvS.adv {L : List Tk} {r r' : RS} (h : AdvS L r r') : Adv L r r' := ⟨h.ok, h.bd, fun hb => Nat.le_of_lt (h.lt hb)⟩
theorem Adv.refl {L : List Tk} {r : RS} (h : r.Ok L) : Adv L r r := ⟨h, fun _ => rfl, fun _ => Nat.le_refl _⟩
theorem Adv.trans {L : List Tk} {r r' r'' : RS} (h : Adv L r r') (k : Adv L r' r'') : Adv L r r'' := by
  refine ⟨k.ok, fun hb => ?_, fun hb => ?_⟩
  · have e := h.bd hb
    subst e
    exact k.bd hb
  · have h2 := k.le hb
    by_cases hb' : r'.bad < 0
    · exact Nat.le_trans (h.le hb') h2
    · have := k.bd (by omega)
      subst this
      omega
theorem AdvS.trans {L : List Tk} {r r' r'' : RS} (h : AdvS L r r') (k : Adv L r' r'') : AdvS L r r'' := by
  refine ⟨k.ok, (h.adv.trans k).bd, fun hb => ?_⟩
  have h2 := k.le hb
  by_cases hb' : r'.bad < 0
  · exact Nat.lt_of_lt_of_le (h.lt hb') h2
  · have := k.bd (by omega)
    subst this
    omega
theorem AdvS.fail {L : List Tk} {r : RS} (h : r.Ok L) : AdvS L r (failR r) := by
  have h1 := h.a
  have h2 := h.b
  have h3 := h.c
  unfold failR
  split
  · exact ⟨⟨h1, by simp only; omega, by simp only; omega⟩, fun hb => by omega, fun hb => by simp only at hb; omega⟩
  · exact ⟨h, fun _ => rfl, fun hb => by omega⟩
theorem at_lt {L : List Tk} {i : Nat} {s : ByteArray} (h : isAt L i s = true) : i < L.length := by
  unfold isAt at h
  split at h
  · rename_i t ht
    exact (List.getElem?_eq_some_iff.1 ht).1
  · cases h
theorem kat_lt {L : List Tk} {i : Nat} {k : Int} (h : kindAt L i k = true) : i < L.length := by
  unfold kindAt at h
  split at h
  · rename_i t ht
    exact (List.getElem?_eq_some_iff.1 ht).1
  · cases h
theorem AdvS.take {L : List Tk} {r : RS} (h : r.Ok L) (s : ByteArray) : AdvS L r (takeR L r s) := by
  unfold takeR
  split
  · rename_i hp
    unfold peekB at hp
    simp only [Bool.and_eq_true, decide_eq_true_eq] at hp
    have h1 := at_lt hp.2
    have h2 := h.b
    exact ⟨⟨by simp only; omega, h2, h.c⟩, fun hb => by omega, fun hb => by simp only; omega⟩
  · exact AdvS.fail h
theorem AdvS.kind {L : List Tk} {r : RS} (h : r.Ok L) (k : Int) : AdvS L r (kindR L r k).2 := by
  unfold kindR
  split
  · rename_i hp
    unfold kindB at hp
    simp only [Bool.and_eq_true, decide_eq_true_eq] at hp
    have h1 := kat_lt hp.2
    have h2 := h.b
    exact ⟨⟨by simp only; omega, h2, h.c⟩, fun hb => by omega, fun hb => by simp only; omega⟩
  · exact AdvS.fail h
theorem AdvS.simp {L : List Tk} {r : RS} (h : r.Ok L) (k : Int) (b : Bool) : AdvS L r (simpR L r k b).2 := by
  unfold simpR
  split
  · exact (AdvS.kind h 1).trans (AdvS.take (AdvS.kind h 1).ok sSem).adv
  · exact AdvS.take h sSem
def Goes (L : List Tk) (F : RS → Cm × RS) : Prop := ∀ r, RS.Ok L r → Adv L r (F r).2
theorem blks_adv {L : List Tk} {B : RS → Cm × RS} (hB : Goes L B) : ∀ (ws : List ByteArray) (r : RS) (l : List Cm), r.Ok L → Adv L r (blksR L B ws r l).2
  | [], r, l, h => Adv.refl h
  | w :: ws, r, l, h => by
    have h1 := (AdvS.take h w).adv
    have h2 := h1.trans (hB _ h1.ok)
    exact h2.trans (blks_adv hB ws _ _ h2.ok)
theorem blocks_adv {L : List Tk} {B : RS → Cm × RS} (hB : Goes L B) {r : RS} (h : r.Ok L) (ws : List ByteArray) : Adv L r (blocksR L B r ws).2 :=
  (hB r h).trans (blks_adv hB ws _ _ (hB r h).ok)
theorem rest_adv {L : List Tk} {C : RS → Cm × RS} (hC : Goes L C) : ∀ (n : Nat) (r : RS) (l : List Cm), r.Ok L → Adv L r (restR L C n r l).2
  | 0, r, l, h => Adv.refl h
  | n + 1, r, l, h => by
    unfold restR
    split
    · exact (hC r h).trans (rest_adv hC n _ _ (hC r h).ok)
    · exact Adv.refl h
theorem ors_adv {L : List Tk} {B : RS → Cm × RS} (hB : Goes L B) : ∀ (n : Nat) (r : RS) (l : List Cm), r.Ok L → Adv L r (orsR L B n r l).2
  | 0, r, l, h => Adv.refl h
  | n + 1, r, l, h => by
    unfold orsR
    split
    · rename_i hp
      have h1 : Adv L r ⟨r.at' + 1, r.bad⟩ := by
        have := (AdvS.take h sOr).adv
        unfold takeR at this
        rw [if_pos hp] at this
        exact this
      exact (h1.trans (hB _ h1.ok)).trans (ors_adv hB n _ _ (hB _ h1.ok).ok)
    · exact Adv.refl h
theorem block_adv {L : List Tk} {C : RS → Cm × RS} (hC : Goes L C) {r : RS} (h : r.Ok L) : AdvS L r (blockR L C r).2 := by
  have h1 := AdvS.take h sOp
  have h2 := hC _ h1.ok
  have h3 := rest_adv hC (L.length + 1) _ [(C (takeR L r sOp)).1] h2.ok
  exact ((h1.trans h2).trans h3).trans (AdvS.take h3.ok sCl).adv
theorem cmdS_adv {L : List Tk} {B : RS → Cm × RS} (hB : Goes L B) (w : ByteArray) {r : RS} (h : r.Ok L) (h1 : r.bad < 0 → 1 ≤ r.at') : Adv L r (cmdS L B w r).2 := by
  unfold cmdS asK
  repeat' split
  · exact (AdvS.simp h _ _).adv
  · exact (AdvS.simp h _ _).adv
  · exact (AdvS.simp h _ _).adv
  · exact (AdvS.simp h _ _).adv
  · exact blocks_adv hB h _
  · exact blocks_adv hB h _
  · exact blocks_adv hB h _
  · exact (blocks_adv hB h _).trans (ors_adv hB _ _ _ (blocks_adv hB h _).ok)
  · exact (AdvS.kind h 2).adv.trans (blocks_adv hB (AdvS.kind h 2).ok _)
  · rename_i hb
    have h2 := h.a
    have := h1 hb
    exact ⟨⟨h2, by show (-1 : Int) ≤ (r.at' : Int) - 1; omega, by show (r.at' : Int) - 1 ≤ L.length; omega⟩, fun hb' => by omega, fun _ => Nat.le_refl _⟩
  · exact Adv.refl h
theorem cmd_adv {L : List Tk} {B : RS → Cm × RS} (hB : Goes L B) {r : RS} (h : r.Ok L) : AdvS L r (cmdR L B r).2 := by
  unfold cmdR
  split
  · rename_i hb
    have h1 := AdvS.kind h 1
    exact h1.trans (cmdS_adv hB _ h1.ok fun h2 => by have := h1.lt h2; omega)
  · rename_i hn
    exact ⟨h, fun _ => rfl, fun hb => absurd hb hn⟩
theorem p_adv (L : List Tk) : ∀ n, Goes L (fun q => pCmd L n q) ∧ Goes L (fun q => pBlk L n q)
  | 0 => ⟨fun r h => by simp only [pCmd]; exact Adv.refl h, fun r h => by simp only [pBlk]; exact Adv.refl h⟩
  | n + 1 => by
    obtain ⟨h1, h2⟩ := p_adv L n
    exact ⟨fun r h => by simp only [pCmd]; exact (cmd_adv h2 h).adv, fun r h => by simp only [pBlk]; exact (block_adv h1 h).adv⟩
def rem (L : List Tk) (r : RS) : Nat := if r.bad < 0 then L.length + 1 - r.at' else 0
theorem rem_adv {L : List Tk} {r r' : RS} (h : Adv L r r') : rem L r' ≤ rem L r := by
  unfold rem
  by_cases hb : r'.bad < 0
  · have h1 := h.le hb
    have : r.bad < 0 := by
      rcases Int.lt_or_le r.bad 0 with h2 | h2
      · exact h2
      · rw [h.bd h2] at hb; omega
    rw [if_pos hb, if_pos this]
    omega
  · rw [if_neg hb]; omega
theorem rem_advS {L : List Tk} {r r' : RS} (h : AdvS L r r') (hr : r.bad < 0) (ho : r.Ok L) : rem L r' < rem L r := by
  have h0 := ho.a
  unfold rem
  rw [if_pos hr]
  by_cases hb : r'.bad < 0
  · have h1 := h.lt hb
    have h2 := h.ok.a
    rw [if_pos hb]
    omega
  · rw [if_neg hb]; omega
end Go.AM
namespace Go.AM
open Go Go.Proofs
def QRd (v0 : AV) (row : List AV) (ks : Nat) (box : Nat → Option (List (List AV))) (nb : Nat) (tok : Nat → Bool) (nt : Nat) (v : AV) (m : AMem) : Prop :=
  v = v0 ∧ m = ⟨upd box ks (some [row]), nb, tok, nt⟩
theorem upd_keep {box : Nat → Option (List (List AV))} {ks : Nat} {x : List (List AV)} (h : box ks = some x) : upd box ks (some x) = box := by
  funext k
  simp only [upd]
  split
  · rename_i e; rw [e]; exact h.symm
  · rfl
theorem fail_c (L : List Tk) (r : RS) (ks : Nat) (box : Nat → Option (List (List AV))) (hk : box ks = some [r.row L]) (nb : Nat) (tok : Nat → Bool) (nt : Nat) :
    ACalls Tryz.prog 82 [.ptr ks 0 0] ⟨box, nb, tok, nt⟩ (QRd (.tup []) ((failR r).row L) ks box nb tok nt) := by
  refine sB Tryz.func82 Tryz.ntmps82 ?_
  intro hbox htok
  simp only at hbox htok
  apply AL.start
  have kn := key_lt hbox hk
  by_cases hb : r.bad < 0
  · have hf : failR r = ⟨r.at', r.at'⟩ := if_pos hb
    try (simp [lb_out kn, hk, upd_lb_out kn, upd_same, hb])
    repeat (first | (refine sR ?_; simp [lb_out kn, hk, upd_lb_out kn, upd_same, hb]) | (refine sC ?_; simp [lb_out kn, hk, upd_lb_out kn, upd_same, hb]) | (refine sX ?_; simp only [AU, ↓reduceIte]))
    refine sE ?_
    refine ⟨by simp, (Fin.gen (vs := []) (av := .tup []) (tok' := tok) (nt' := nt) (by simp [resAs, resA]) (by rw [← upd_lb_out kn, hbox]) (Nat.le_refl _) (Nat.le_refl _) (fun t ht => ⟨ht, .inl rfl⟩) (outG (by simp)) (by simp [packA])).mono fun v m hq => ?_⟩
    exact ⟨hq.1, by rw [hf]; exact hq.2⟩
  · have hf : failR r = r := if_neg hb
    try (simp [lb_out kn, hk, upd_lb_out kn, upd_same, hb])
    repeat (first | (refine sR ?_; simp [lb_out kn, hk, upd_lb_out kn, upd_same, hb]) | (refine sC ?_; simp [lb_out kn, hk, upd_lb_out kn, upd_same, hb]) | (refine sX ?_; simp only [AU, ↓reduceIte]))
    refine sE ?_
    refine ⟨by simp, (Fin.gen (vs := []) (av := .tup []) (tok' := tok) (nt' := nt) (by simp [resAs, resA]) hbox (Nat.le_refl _) (Nat.le_refl _) (fun t ht => ⟨ht, .inl rfl⟩) (fun k rows _ h => .inl h) (by simp [packA])).mono fun v m hq => ?_⟩
    exact ⟨hq.1, by rw [hf, upd_keep hk]; exact hq.2⟩
theorem isAt_some {L : List Tk} {i : Nat} (h : i < L.length) (s : ByteArray) : isAt L i s = (decide (L[i].text = s) && (decide (L[i].kind = 1) || decide (L[i].kind = 4))) := by simp [isAt, h]
theorem isAt_none {L : List Tk} {i : Nat} (h : ¬ i < L.length) (s : ByteArray) : isAt L i s = false := by simp [isAt, h]
theorem kindAt_some {L : List Tk} {i : Nat} (h : i < L.length) (k : Int) : kindAt L i k = decide (L[i].kind = k) := by simp [kindAt, h]
theorem kindAt_none {L : List Tk} {i : Nat} (h : ¬ i < L.length) (k : Int) : kindAt L i k = false := by simp [kindAt, h]
theorem textAt_some {L : List Tk} {i : Nat} (h : i < L.length) : textAt L i = L[i].text := by simp [textAt, h]
set_option maxRecDepth 100000 in
theorem peek_c (L : List Tk) (r : RS) (s : ByteArray) (ks : Nat) (box : Nat → Option (List (List AV))) (hk : box ks = some [r.row L]) (nb : Nat) (tok : Nat → Bool) (nt : Nat) :
    ACalls Tryz.prog 45 [.ptr ks 0 0, Sb s] ⟨box, nb, tok, nt⟩ fun v m => v = B (peekB L r s) ∧ m = ⟨box, nb, tok, nt⟩ := by
  refine sB Tryz.func45 Tryz.ntmps45 ?_
  intro hbox htok
  simp only at hbox htok
  apply AL.start
  have kn := key_lt hbox hk
  by_cases hb : r.bad < 0
  · by_cases hlt : r.at' < L.length
    · have hlt' : (r.at' : Int) < L.length := by omega
      have hp : peekB L r s = (decide (L[r.at'].text = s) && (decide (L[r.at'].kind = 1) || decide (L[r.at'].kind = 4))) := by simp [peekB, hb, isAt_some hlt]
      have hsq := seq_dec L[r.at'].text s
      by_cases e1 : L[r.at'].text = s
      · have e1' : decide (L[r.at'].text = s) = true := by simp [e1]
        rw [e1'] at hsq hp
        by_cases e2 : L[r.at'].kind = 1
        · try (simp [lb_out kn, hk, hb, hlt, hlt', hsq, e2])
          repeat (first | (refine sR ?_; simp [lb_out kn, hk, hb, hlt, hlt', hsq, e2]) | (refine sC ?_; simp [lb_out kn, hk, hb, hlt, hlt', hsq, e2]) | (refine sX ?_; simp only [AU, ↓reduceIte]))
          refine sT ?_
          try simp only [AU]
          refine ⟨by simp, sF hbox htok (fun _ h => h) (Nat.le_refl _) ?_⟩
          simp [packA, hp, e2]
        · have b2 : (L[r.at'].kind == 1) = false := by simp [e2]
          try (simp [lb_out kn, hk, hb, hlt, hlt', hsq, b2])
          repeat (first | (refine sR ?_; simp [lb_out kn, hk, hb, hlt, hlt', hsq, b2]) | (refine sC ?_; simp [lb_out kn, hk, hb, hlt, hlt', hsq, b2]) | (refine sX ?_; simp only [AU, ↓reduceIte]))
          refine sT ?_
          try simp only [AU]
          refine ⟨by simp, sF hbox htok (fun _ h => h) (Nat.le_refl _) ?_⟩
          simp [packA, hp, e2, beqD]
      · have e1' : decide (L[r.at'].text = s) = false := by simp [e1]
        rw [e1'] at hsq hp
        try (simp [lb_out kn, hk, hb, hlt, hlt', hsq])
        repeat (first | (refine sR ?_; simp [lb_out kn, hk, hb, hlt, hlt', hsq]) | (refine sC ?_; simp [lb_out kn, hk, hb, hlt, hlt', hsq]) | (refine sX ?_; simp only [AU, ↓reduceIte]))
        refine sT ?_
        try simp only [AU]
        refine ⟨by simp, sF hbox htok (fun _ h => h) (Nat.le_refl _) ?_⟩
        simp [packA, hp]
    · have hlt' : ¬ (r.at' : Int) < L.length := by omega
      have hp : peekB L r s = false := by simp [peekB, isAt_none hlt]
      try (simp [lb_out kn, hk, hb, hlt'])
      repeat (first | (refine sR ?_; simp [lb_out kn, hk, hb, hlt']) | (refine sC ?_; simp [lb_out kn, hk, hb, hlt']) | (refine sX ?_; simp only [AU, ↓reduceIte]))
      refine sT ?_
      try simp only [AU]
      refine ⟨by simp, sF hbox htok (fun _ h => h) (Nat.le_refl _) ?_⟩
      simp [packA, hp]
  · have hp : peekB L r s = false := by simp [peekB, hb]
    try (simp [lb_out kn, hk, hb])
    repeat (first | (refine sR ?_; simp [lb_out kn, hk, hb]) | (refine sC ?_; simp [lb_out kn, hk, hb]) | (refine sX ?_; simp only [AU, ↓reduceIte]))
    refine sT ?_
    try simp only [AU]
    refine ⟨by simp, sF hbox htok (fun _ h => h) (Nat.le_refl _) ?_⟩
    simp [packA, hp]
set_option maxRecDepth 100000 in
theorem take_c (L : List Tk) (r : RS) (h : r.Ok L) (hL : L.length ≤ 200000000000000) (s : ByteArray) (ks : Nat) (box : Nat → Option (List (List AV))) (hk : box ks = some [r.row L]) (nb : Nat) (tok : Nat → Bool) (nt : Nat) :
    ACalls Tryz.prog 46 [.ptr ks 0 0, Sb s] ⟨box, nb, tok, nt⟩ (QRd (.tup []) ((takeR L r s).row L) ks box nb tok nt) := by
  have hpk := peek_c L r s ks
  have hfl := fail_c L r ks
  have ha := h.a
  refine sB Tryz.func46 Tryz.ntmps46 ?_
  intro hbox htok
  simp only at hbox htok
  apply AL.start
  have kn := key_lt hbox hk
  try (simp)
  repeat (refine sR ?_; simp)
  refine Stop.of_a (hpk _ (by simp only; rw [lb_out kn]; exact hk) _ _ _) ?_
  rintro v m ⟨rfl, rfl⟩
  have hw : IntKind.i64.wrap ((r.at' : Int) + 1) = ((r.at' + 1 : Nat) : Int) := by rw [wrap_in (by omega) (by omega)]; rfl
  cases hp : peekB L r s
  · have ht : takeR L r s = failR r := by simp [takeR, hp]
    try (simp)
    repeat (first | (refine sR ?_; simp) | (refine sC ?_; simp) | (refine sX ?_; simp only [AU, ↓reduceIte]))
    refine Stop.of_a (hfl _ (by simp only; rw [lb_out kn]; exact hk) _ _ _) ?_
    rintro v m ⟨rfl, rfl⟩
    try (simp [upd_lb_out kn])
    repeat (first | (refine sR ?_; simp [upd_lb_out kn]) | (refine sC ?_; simp [upd_lb_out kn]) | (refine sX ?_; simp only [AU, ↓reduceIte]))
    refine sE ?_
    refine ⟨by simp, (Fin.gen (vs := []) (av := .tup []) (tok' := tok) (nt' := nt) (by simp [resAs, resA]) (by rw [← upd_lb_out kn, hbox]) (Nat.le_refl _) (Nat.le_refl _) (fun t ht => ⟨ht, .inl rfl⟩) (outG (by simp)) (by simp [packA])).mono fun v m hq => ?_⟩
    exact ⟨hq.1, by rw [ht]; exact hq.2⟩
  · have ht : takeR L r s = ⟨r.at' + 1, r.bad⟩ := by simp [takeR, hp]
    try (simp [lb_out kn, hk, upd_lb_out kn, upd_same, hw])
    repeat (first | (refine sR ?_; simp [lb_out kn, hk, upd_lb_out kn, upd_same, hw]) | (refine sC ?_; simp [lb_out kn, hk, upd_lb_out kn, upd_same, hw]) | (refine sX ?_; simp only [AU, ↓reduceIte]))
    refine sT ?_
    try simp only [AU]
    refine ⟨by simp, (Fin.gen (vs := []) (av := .tup []) (tok' := tok) (nt' := nt) (by simp [resAs, resA]) (by rw [← upd_lb_out kn, hbox]) (Nat.le_refl _) (Nat.le_refl _) (fun t ht => ⟨ht, .inl rfl⟩) (outG (by simp)) (by simp [packA])).mono fun v m hq => ?_⟩
    exact ⟨hq.1, by rw [ht]; exact hq.2⟩
set_option maxRecDepth 100000 in
theorem kind_c (L : List Tk) (r : RS) (h : r.Ok L) (hL : L.length ≤ 200000000000000) (k : Int) (ks : Nat) (box : Nat → Option (List (List AV))) (hk : box ks = some [r.row L]) (nb : Nat) (tok : Nat → Bool) (nt : Nat) :
    ACalls Tryz.prog 47 [.ptr ks 0 0, I k] ⟨box, nb, tok, nt⟩ (QRd (Sb (kindR L r k).1) ((kindR L r k).2.row L) ks box nb tok nt) := by
  have hfl := fail_c L r ks
  have ha := h.a
  refine sB Tryz.func47 Tryz.ntmps47 ?_
  intro hbox htok
  simp only at hbox htok
  apply AL.start
  have kn := key_lt hbox hk
  have hw : IntKind.i64.wrap ((r.at' : Int) + 1) = ((r.at' + 1 : Nat) : Int) := by rw [wrap_in (by omega) (by omega)]; rfl
  have hw2 : IntKind.i64.wrap (r.at' : Int) = (r.at' : Int) := wrap_in (by omega) (by omega)
  by_cases hb : r.bad < 0
  · by_cases hlt : r.at' < L.length
    · have hlt' : (r.at' : Int) < L.length := by omega
      have hp : kindB L r k = decide (L[r.at'].kind = k) := by simp [kindB, hb, kindAt_some hlt]
      by_cases e1 : L[r.at'].kind = k
      · have b1 : (L[r.at'].kind == k) = true := by simp [e1]
        have ht : kindR L r k = (L[r.at'].text, ⟨r.at' + 1, r.bad⟩) := by simp [kindR, hp, e1, textAt_some hlt]
        try (simp [lb_out kn, hk, hb, hlt, hlt', b1, upd_lb_out kn, upd_same, hw, hw2])
        repeat (first | (refine sR ?_; simp [lb_out kn, hk, hb, hlt, hlt', b1, upd_lb_out kn, upd_same, hw, hw2]) | (refine sC ?_; simp [lb_out kn, hk, hb, hlt, hlt', b1, upd_lb_out kn, upd_same, hw, hw2]) | (refine sX ?_; simp only [AU, ↓reduceIte]))
        refine sT ?_
        try simp only [AU]
        refine ⟨by simp, (Fin.gen (av := Sb L[r.at'].text) (tok' := tok) (nt' := nt) (by simp [resAs, resA, lk]; rfl) (by rw [← upd_lb_out kn, hbox]) (Nat.le_refl _) (Nat.le_refl _) (fun t ht => ⟨ht, .inl rfl⟩) (outG (by simp)) (by simp [packA])).mono fun v m hq => ?_⟩
        exact ⟨by rw [ht]; exact hq.1, by rw [ht]; exact hq.2⟩
      · have b1 : (L[r.at'].kind == k) = false := by simp [e1]
        have ht : kindR L r k = (⟨#[]⟩, failR r) := by simp [kindR, hp, e1]
        try (simp [lb_out kn, hk, hb, hlt, hlt', b1])
        repeat (first | (refine sR ?_; simp [lb_out kn, hk, hb, hlt, hlt', b1]) | (refine sC ?_; simp [lb_out kn, hk, hb, hlt, hlt', b1]) | (refine sX ?_; simp only [AU, ↓reduceIte]))
        refine Stop.of_a (hfl _ (by simp only; rw [lb_out kn]; exact hk) _ _ _) ?_
        rintro v m ⟨rfl, rfl⟩
        try (simp [upd_lb_out kn])
        repeat (first | (refine sR ?_; simp [upd_lb_out kn]) | (refine sC ?_; simp [upd_lb_out kn]) | (refine sX ?_; simp only [AU, ↓reduceIte]))
        refine sT ?_
        try simp only [AU]
        refine ⟨by simp, (Fin.gen (av := Sb ⟨#[]⟩) (tok' := tok) (nt' := nt) (by simp [resAs, resA, lk]; rfl) (by rw [← upd_lb_out kn, hbox]) (Nat.le_refl _) (Nat.le_refl _) (fun t ht => ⟨ht, .inl rfl⟩) (outG (by simp)) (by simp [packA])).mono fun v m hq => ?_⟩
        exact ⟨by rw [ht]; exact hq.1, by rw [ht]; exact hq.2⟩
    · have hlt' : ¬ (r.at' : Int) < L.length := by omega
      have ht : kindR L r k = (⟨#[]⟩, failR r) := by simp [kindR, kindB, kindAt_none hlt]
      try (simp [lb_out kn, hk, hb, hlt'])
      repeat (first | (refine sR ?_; simp [lb_out kn, hk, hb, hlt']) | (refine sC ?_; simp [lb_out kn, hk, hb, hlt']) | (refine sX ?_; simp only [AU, ↓reduceIte]))
      refine Stop.of_a (hfl _ (by simp only; rw [lb_out kn]; exact hk) _ _ _) ?_
      rintro v m ⟨rfl, rfl⟩
      try (simp [upd_lb_out kn])
      repeat (first | (refine sR ?_; simp [upd_lb_out kn]) | (refine sC ?_; simp [upd_lb_out kn]) | (refine sX ?_; simp only [AU, ↓reduceIte]))
      refine sT ?_
      try simp only [AU]
      refine ⟨by simp, (Fin.gen (av := Sb ⟨#[]⟩) (tok' := tok) (nt' := nt) (by simp [resAs, resA, lk]; rfl) (by rw [← upd_lb_out kn, hbox]) (Nat.le_refl _) (Nat.le_refl _) (fun t ht => ⟨ht, .inl rfl⟩) (outG (by simp)) (by simp [packA])).mono fun v m hq => ?_⟩
      exact ⟨by rw [ht]; exact hq.1, by rw [ht]; exact hq.2⟩
  · have ht : kindR L r k = (⟨#[]⟩, failR r) := by simp [kindR, kindB, hb]
    try (simp [lb_out kn, hk, hb])
    repeat (first | (refine sR ?_; simp [lb_out kn, hk, hb]) | (refine sC ?_; simp [lb_out kn, hk, hb]) | (refine sX ?_; simp only [AU, ↓reduceIte]))
    refine Stop.of_a (hfl _ (by simp only; rw [lb_out kn]; exact hk) _ _ _) ?_
    rintro v m ⟨rfl, rfl⟩
    try (simp [upd_lb_out kn])
    repeat (first | (refine sR ?_; simp [upd_lb_out kn]) | (refine sC ?_; simp [upd_lb_out kn]) | (refine sX ?_; simp only [AU, ↓reduceIte]))
    refine sT ?_
    try simp only [AU]
    refine ⟨by simp, (Fin.gen (av := Sb ⟨#[]⟩) (tok' := tok) (nt' := nt) (by simp [resAs, resA, lk]; rfl) (by rw [← upd_lb_out kn, hbox]) (Nat.le_refl _) (Nat.le_refl _) (fun t ht => ⟨ht, .inl rfl⟩) (outG (by simp)) (by simp [packA])).mono fun v m hq => ?_⟩
    exact ⟨by rw [ht]; exact hq.1, by rw [ht]; exact hq.2⟩
set_option maxRecDepth 100000 in
theorem simple_c (L : List Tk) (r : RS) (h : r.Ok L) (hL : L.length ≤ 200000000000000) (k : Int) (named : Bool) (ks : Nat) (box : Nat → Option (List (List AV))) (hk : box ks = some [r.row L]) (nb : Nat) (tok : Nat → Bool) (nt : Nat) :
    ACalls Tryz.prog 125 [.ptr ks 0 0, I k, B named] ⟨box, nb, tok, nt⟩ (QRd (simpR L r k named).1.av ((simpR L r k named).2.row L) ks box nb tok nt) := by
  have h1 := (AdvS.kind h 1).ok
  cases named
  · have ht : simpR L r k false = (.mk k ⟨#[]⟩ 0 [], takeR L r sSem) := by simp [simpR]
    rw [ht]
    have ht1 := take_c L r h hL sSem ks
    refine sB Tryz.func125 Tryz.ntmps125 ?_
    intro hbox htok
    simp only at hbox htok
    apply AL.start
    have kn := key_lt hbox hk
    try (simp)
    repeat (first | (refine sR ?_; simp) | (refine sC ?_; simp) | (refine sX ?_; simp only [AU, ↓reduceIte]))
    refine Stop.of_a (ht1 _ (by simp only; rw [lb_out kn]; exact hk) _ _ _) ?_
    rintro v m ⟨rfl, rfl⟩
    try (simp [upd_lb_out kn])
    repeat (first | (refine sR ?_; simp [upd_lb_out kn]) | (refine sC ?_; simp [upd_lb_out kn]) | (refine sX ?_; simp only [AU, ↓reduceIte]))
    refine sT ?_
    try simp only [AU]
    refine ⟨by simp, (Fin.gen (av := Cm.av (.mk k ⟨#[]⟩ 0 [])) (tok' := tok) (nt' := nt) (by simp [resAs, resA, lk]; rfl) (by rw [← upd_lb_out kn, hbox]) (Nat.le_refl _) (Nat.le_refl _) (fun t ht => ⟨ht, .inl rfl⟩) (outG (by simp)) (by simp [packA, Cm.kind, Cm.name, Cm.num, Cm.kids, cms])).mono fun v m hq => ?_⟩
    exact hq
  · have ht : simpR L r k true = (.mk k (kindR L r 1).1 0 [], takeR L (kindR L r 1).2 sSem) := by simp [simpR]
    rw [ht]
    have ht0 := kind_c L r h hL 1 ks
    have ht1 := take_c L (kindR L r 1).2 h1 hL sSem ks
    generalize kindR L r 1 = K at *
    refine sB Tryz.func125 Tryz.ntmps125 ?_
    intro hbox htok
    simp only at hbox htok
    apply AL.start
    have kn := key_lt hbox hk
    try (simp)
    repeat (first | (refine sR ?_; simp) | (refine sC ?_; simp) | (refine sX ?_; simp only [AU, ↓reduceIte]))
    refine Stop.of_a (ht0 _ (by simp only; rw [lb_out kn]; exact hk) _ _ _) ?_
    rintro v m ⟨rfl, rfl⟩
    try (simp [upd_lb_out kn])
    repeat (first | (refine sR ?_; simp [upd_lb_out kn]) | (refine sC ?_; simp [upd_lb_out kn]) | (refine sX ?_; simp only [AU, ↓reduceIte]))
    refine Stop.of_a (ht1 _ (by simp only; rw [lb_out kn, upd_same]) _ _ _) ?_
    rintro v m ⟨rfl, rfl⟩
    try (simp [upd_lb_out kn, upd_upd])
    repeat (first | (refine sR ?_; simp [upd_lb_out kn, upd_upd]) | (refine sC ?_; simp [upd_lb_out kn, upd_upd]) | (refine sX ?_; simp only [AU, ↓reduceIte]))
    refine sT ?_
    try simp only [AU]
    refine ⟨by simp, (Fin.gen (av := Cm.av (.mk k K.1 0 [])) (tok' := tok) (nt' := nt) (by simp [resAs, resA, lk]; rfl) (by rw [← upd_lb_out kn, hbox]) (Nat.le_refl _) (Nat.le_refl _) (fun t ht => ⟨ht, .inl rfl⟩) (outG (by simp)) (by simp [packA, Cm.kind, Cm.name, Cm.num, Cm.kids, cms])).mono fun v m hq => ?_⟩
    exact hq
end Go.AM
namespace Go.AM
open Go Go.Proofs
def PrdC (P : Program) (L : List Tk) (f : FuncId) (F : RS → Cm × RS) (n : Nat) : Prop := ∀ r : RS, r.Ok L → rem L r ≤ n → ∀ (ks : Nat) (box : Nat → Option (List (List AV))), box ks = some [r.row L] → ∀ (nb : Nat) (tok : Nat → Bool) (nt : Nat),
  ACalls P f [.ptr ks 0 0] ⟨box, nb, tok, nt⟩ (QRd (F r).1.av ((F r).2.row L) ks box nb tok nt)
def GoesN (L : List Tk) (F : RS → Cm × RS) (n : Nat) : Prop := ∀ r : RS, r.Ok L → rem L r ≤ n → r.bad < 0 → AdvS L r (F r).2
structure AccR where
  r : RS
  l : List Cm
  own : Own
  tok : Nat → Bool
  nt : Nat
  f : Nat
structure RInv (L : List Tk) (C : RS → Cm × RS) (n : Nat) (R : List Cm × RS) (mtok : Nat → Bool) (nt0 : Nat) (x : AccR) : Prop where
  ok : x.r.Ok L
  n : rem L x.r ≤ n
  f : rem L x.r ≤ x.f
  e : restR L C x.f x.r x.l = R
  l : x.l.length + x.f ≤ L.length + 2
  g : 1 ≤ x.l.length
  k : TK mtok nt0 x.tok x.nt [x.own]
theorem RInv.of {L : List Tk} {C : RS → Cm × RS} {n : Nat} {R : List Cm × RS} {mtok : Nat → Bool} {nt0 : Nat} {r : RS} {l : List Cm} {own : Own} {tok : Nat → Bool} {nt f : Nat} (h1 : r.Ok L) (h2 : rem L r ≤ n) (h3 : rem L r ≤ f) (h4 : restR L C f r l = R) (h5 : l.length + f ≤ L.length + 2) (h6 : 1 ≤ l.length) (h7 : TK mtok nt0 tok nt [own]) :
    RInv L C n R mtok nt0 ⟨r, l, own, tok, nt, f⟩ := ⟨h1, h2, h3, h4, h5, h6, h7⟩
abbrev zRow46 : List AV := [I 0, Sb ⟨#[]⟩, I 0, nilS]
def stBl (L : List Tk) (ks nb : Nat) (box : Nat → Option (List (List AV))) (x : AccR) : AState :=
  ⟨tl [(3, .osl 4 (x.l.map Cm.cells) x.own), (2, .ptr (nb + 2) 0 0), (0, .ptr ks 0 0)], lb nb (upd box ks (some [x.r.row L])) [(2, [zRow46])], x.tok, x.nt⟩
theorem rem_zero {L : List Tk} {r : RS} (h : r.Ok L) (h0 : rem L r = 0) : ¬ r.bad < 0 := by
  intro hb
  have := h.a
  unfold rem at h0
  rw [if_pos hb] at h0
  omega
set_option maxRecDepth 100000 in
theorem block_of (L : List Tk) (hL : L.length ≤ 1000000000) (C : RS → Cm × RS) (n : Nat) (hC : PrdC Tryz.prog L 83 C n) (hG : Goes L C) (hN : GoesN L C n) : PrdC Tryz.prog L 48 (blockR L C) (n + 1) := by
  intro r h hr ks box hk nb tok nt
  have t1 := take_c L r h (by omega) sOp ks
  have a1 := AdvS.take h sOp
  have hrem : rem L (takeR L r sOp) ≤ n := by
    by_cases hb : r.bad < 0
    · have := rem_advS a1 hb h; omega
    · rw [a1.bd (by omega)]; unfold rem; rw [if_neg hb]; omega
  have a2 := hG _ a1.ok
  have c1 := hC _ a1.ok hrem ks
  have hR : blockR L C r = (wrapC (restR L C (L.length + 1) (C (takeR L r sOp)).2 [(C (takeR L r sOp)).1]).1, takeR L (restR L C (L.length + 1) (C (takeR L r sOp)).2 [(C (takeR L r sOp)).1]).2 sCl) := rfl
  have hrem2 := rem_adv a2
  rw [hR]
  generalize takeR L r sOp = r1 at *
  obtain ⟨c0, r2, hc0⟩ : ∃ c0 r2, C r1 = (c0, r2) := ⟨_, _, rfl⟩
  rw [hc0] at c1 a2 hrem2 ⊢
  simp only at c1 a2 hrem2 ⊢
  obtain ⟨R, hRR⟩ : ∃ R, restR L C (L.length + 1) r2 [c0] = R := ⟨_, rfl⟩
  rw [hRR]
  have hrl : rem L r2 ≤ L.length + 1 := by unfold rem; split <;> omega
  refine sB Tryz.func48 Tryz.ntmps48 ?_
  intro hbox htok
  simp only at hbox htok
  apply AL.start
  have kn := key_lt hbox hk
  have ht0 := TK.start htok
  try (simp)
  repeat (first | (refine sR ?_; simp) | (refine sC ?_; simp) | (refine sX ?_; simp only [AU, ↓reduceIte]))
  refine Stop.of_a (t1 _ (by simp only; rw [lb_out kn]; exact hk) _ _ _) ?_
  rintro v m ⟨rfl, rfl⟩
  try (simp [upd_lb_out kn])
  repeat (first | (refine sR ?_; simp [upd_lb_out kn]) | (refine sC ?_; simp [upd_lb_out kn]) | (refine sX ?_; simp only [AU, ↓reduceIte]))
  refine Stop.of_a (c1 _ (by simp only; rw [lb_out kn, upd_same]) _ _ _) ?_
  rintro v m ⟨rfl, rfl⟩
  try (simp [upd_lb_out kn, upd_upd])
  repeat (first | (refine sR ?_; simp [upd_lb_out kn, upd_upd]) | (refine sC ?_; simp [upd_lb_out kn, upd_upd]) | (refine sX ?_; simp only [AU, ↓reduceIte]))
  refine sN ?_
  refine AL.loopT (stBl L ks nb box) (RInv L C n R tok nt) (fun x => x.f) ⟨r2, [c0], .full, tok, nt, L.length + 1⟩ (RInv.of a2.ok (by omega) hrl hRR (by simp; omega) (by simp) ht0.full)
    (Weaks.mk' (Nat.le_refl _) (by simp [ToL, lk, Cm.cells_eq]; exact to_ptr (by rw [lb_out kn, upd_same]; simp)) (by simp [BoxL, lk]) (outG (by simp))) ?_
  rintro ⟨r, l, own, tok1, nt1, f⟩ S hinv hS
  obtain ⟨ho, hn1, hf, he, hl, hg, htk⟩ := hinv
  simp only [stBl] at hS ho hn1 hf he hl hg htk ⊢
  subst hS
  have pk := peek_c L r sCl ks
  by_cases hb : r.bad < 0
  · cases hp : peekB L r sCl
    · have c2 := hC r ho hn1 ks
      have a3 := hN r ho hn1 hb
      have hlt := rem_advS a3 hb ho
      obtain ⟨f, rfl⟩ : ∃ f', f = f' + 1 := ⟨f - 1, by omega⟩
      rw [restR, if_pos ⟨hb, hp⟩] at he
      obtain ⟨c3, r3, hc3⟩ : ∃ c3 r3, C r = (c3, r3) := ⟨_, _, rfl⟩
      rw [hc3] at c2 a3 hlt he
      simp only at c2 a3 hlt he
      try (simp [lb_out kn, upd_same, hb])
      repeat (first | (refine sR ?_; simp [lb_out kn, upd_same, hb]) | (refine sC ?_; simp [lb_out kn, upd_same, hb]) | (refine sX ?_; simp only [AU, ↓reduceIte]))
      refine Stop.of_a (pk _ (by simp only; rw [lb_out kn, upd_same]) _ _ _) ?_
      rintro v m ⟨rfl, rfl⟩
      try (simp [hp])
      repeat (first | (refine sR ?_; simp [hp]) | (refine sC ?_; simp [hp]) | (refine sX ?_; simp only [AU, ↓reduceIte]))
      refine Stop.of_a (c2 _ (by simp only; rw [lb_out kn, upd_same]) _ _ _) ?_
      rintro v m ⟨rfl, rfl⟩
      try (simp [upd_lb_out kn, upd_upd])
      repeat (first | (refine sR ?_; simp [upd_lb_out kn, upd_upd]) | (refine sC ?_; simp [upd_lb_out kn, upd_upd]) | (refine sX ?_; simp only [AU, ↓reduceIte]))
      refine ⟨⟨by omega, htk.live⟩, ?_⟩
      try (simp)
      repeat (first | (refine sR ?_; simp) | (refine sC ?_; simp) | (refine sX ?_; simp only [AU, ↓reduceIte]))
      refine sE ?_
      refine ⟨⟨r3, l ++ [c3], .tok nt1, upd (own.kill tok1) nt1 true, nt1 + 1, f⟩, RInv.of a3.ok (by omega) (by omega) he (by simp; omega) (by simp) htk.app, by simp only; omega, ?_⟩
      simp only [stBl]
      exact Weaks.mk' (by have := htk.le; omega) (by simp [ToL, lk, Cm.cells_eq]; exact to_ptr (by rw [lb_out kn, upd_same]; simp)) (by simp [BoxL, lk]) (outG (by simp))
    · have he2 : restR L C f r l = (l, r) := by
        cases f with
        | zero => rfl
        | succ f => rw [restR, if_neg (by simp [hp])]
      rw [he2] at he
      subst he
      have t2 := take_c L r ho (by omega) sCl ks
      try (simp [lb_out kn, upd_same, hb])
      repeat (first | (refine sR ?_; simp [lb_out kn, upd_same, hb]) | (refine sC ?_; simp [lb_out kn, upd_same, hb]) | (refine sX ?_; simp only [AU, ↓reduceIte]))
      refine Stop.of_a (pk _ (by simp only; rw [lb_out kn, upd_same]) _ _ _) ?_
      rintro v m ⟨rfl, rfl⟩
      try (simp [hp])
      repeat (first | (refine sR ?_; simp [hp]) | (refine sC ?_; simp [hp]) | (refine sX ?_; simp only [AU, ↓reduceIte]))
      refine Stop.of_a (t2 _ (by simp only; rw [lb_out kn, upd_same]) _ _ _) ?_
      rintro v m ⟨rfl, rfl⟩
      match l, hg with
      | [c], _ =>
        try (simp [upd_lb_out kn, upd_upd, Cm.cells_eq])
        repeat (first | (refine sR ?_; simp [upd_lb_out kn, upd_upd, Cm.cells_eq]) | (refine sC ?_; simp [upd_lb_out kn, upd_upd, Cm.cells_eq]) | (refine sX ?_; simp only [AU, ↓reduceIte]))
        refine sT ?_
        try simp only [AU]
        refine ⟨by simp, (Fin.gen (av := Cm.av c) (tok' := tok) (nt' := nt) (by simp [resAs, resA, lk]; rfl) (by rw [← upd_lb_out kn, hbox]) (Nat.le_refl _) htk.le (fun t ht => ⟨htk.old t ht, .inr (htok t ht)⟩) (outG (by simp)) (by simp [packA])).mono fun v m hq => ?_⟩
        exact hq
      | a :: b :: rest, _ =>
        have hb1 : (((rest.length : Int) + 1 + 1) == 1) = false := by rw [beq_eq_false_iff_ne]; omega
        try (simp [upd_lb_out kn, upd_upd, hb1])
        repeat (first | (refine sR ?_; simp [upd_lb_out kn, upd_upd, hb1]) | (refine sC ?_; simp [upd_lb_out kn, upd_upd, hb1]) | (refine sX ?_; simp only [AU, ↓reduceIte]))
        refine sT ?_
        try simp only [AU]
        refine ⟨by simp, (Fin.gen (av := Cm.av (.mk 2 ⟨#[]⟩ 0 (a :: b :: rest))) (tok' := tok) (nt' := nt) (by simp [resAs, resA, lk]; rfl) (by rw [← upd_lb_out kn, hbox]) (Nat.le_refl _) htk.le (fun t ht => ⟨htk.old t ht, .inr (htok t ht)⟩) (outG (by simp)) (by simp [packA, Cm.kind, Cm.name, Cm.num, Cm.kids, cms])).mono fun v m hq => ?_⟩
        exact hq
  · have he2 : restR L C f r l = (l, r) := by
      cases f with
      | zero => rfl
      | succ f => rw [restR, if_neg (by simp [hb])]
    rw [he2] at he
    subst he
    have t2 := take_c L r ho (by omega) sCl ks
    try (simp [lb_out kn, upd_same, hb])
    repeat (first | (refine sR ?_; simp [lb_out kn, upd_same, hb]) | (refine sC ?_; simp [lb_out kn, upd_same, hb]) | (refine sX ?_; simp only [AU, ↓reduceIte]))
    refine Stop.of_a (t2 _ (by simp only; rw [lb_out kn, upd_same]) _ _ _) ?_
    rintro v m ⟨rfl, rfl⟩
    match l, hg with
    | [c], _ =>
      try (simp [upd_lb_out kn, upd_upd, Cm.cells_eq])
      repeat (first | (refine sR ?_; simp [upd_lb_out kn, upd_upd, Cm.cells_eq]) | (refine sC ?_; simp [upd_lb_out kn, upd_upd, Cm.cells_eq]) | (refine sX ?_; simp only [AU, ↓reduceIte]))
      refine sT ?_
      try simp only [AU]
      refine ⟨by simp, (Fin.gen (av := Cm.av c) (tok' := tok) (nt' := nt) (by simp [resAs, resA, lk]; rfl) (by rw [← upd_lb_out kn, hbox]) (Nat.le_refl _) htk.le (fun t ht => ⟨htk.old t ht, .inr (htok t ht)⟩) (outG (by simp)) (by simp [packA])).mono fun v m hq => ?_⟩
      exact hq
    | a :: b :: rest, _ =>
      have hb1 : (((rest.length : Int) + 1 + 1) == 1) = false := by rw [beq_eq_false_iff_ne]; omega
      try (simp [upd_lb_out kn, upd_upd, hb1])
      repeat (first | (refine sR ?_; simp [upd_lb_out kn, upd_upd, hb1]) | (refine sC ?_; simp [upd_lb_out kn, upd_upd, hb1]) | (refine sX ?_; simp only [AU, ↓reduceIte]))
      refine sT ?_
      try simp only [AU]
      refine ⟨by simp, (Fin.gen (av := Cm.av (.mk 2 ⟨#[]⟩ 0 (a :: b :: rest))) (tok' := tok) (nt' := nt) (by simp [resAs, resA, lk]; rfl) (by rw [← upd_lb_out kn, hbox]) (Nat.le_refl _) htk.le (fun t ht => ⟨htk.old t ht, .inr (htok t ht)⟩) (outG (by simp)) (by simp [packA, Cm.kind, Cm.name, Cm.num, Cm.kids, cms])).mono fun v m hq => ?_⟩
      exact hq
end Go.AM
namespace Go.AM
open Go Go.Proofs
structure AccS where
  i : Nat
  r : RS
  l : List Cm
  own : Own
  tok : Nat → Bool
  nt : Nat
structure SInv (L : List Tk) (B : RS → Cm × RS) (n : Nat) (ws : List ByteArray) (R : List Cm × RS) (mtok : Nat → Bool) (nt0 : Nat) (x : AccS) : Prop where
  i : x.i ≤ ws.length
  ok : x.r.Ok L
  n : rem L x.r ≤ n
  e : blksR L B (ws.drop x.i) x.r x.l = R
  l : x.l.length = x.i + 1
  k : TK mtok nt0 x.tok x.nt [x.own]
theorem SInv.of {L : List Tk} {B : RS → Cm × RS} {n : Nat} {ws : List ByteArray} {R : List Cm × RS} {mtok : Nat → Bool} {nt0 : Nat} {i : Nat} {r : RS} {l : List Cm} {own : Own} {tok : Nat → Bool} {nt : Nat} (h1 : i ≤ ws.length) (h2 : r.Ok L) (h3 : rem L r ≤ n) (h4 : blksR L B (ws.drop i) r l = R) (h5 : l.length = i + 1) (h6 : TK mtok nt0 tok nt [own]) :
    SInv L B n ws R mtok nt0 ⟨i, r, l, own, tok, nt⟩ := ⟨h1, h2, h3, h4, h5, h6⟩
def stBs (L : List Tk) (k : Int) (ws : List ByteArray) (ks nb : Nat) (box : Nat → Option (List (List AV))) (x : AccS) : AState :=
  ⟨tl [(15, .d (strs ws)), (16, I ws.length), (17, I x.i), (7, .ptr (nb + 7) 0 0), (6, .ptr (nb + 6) 0 0), (0, .ptr ks 0 0)], lb nb (upd box ks (some [x.r.row L])) [(7, [[I k, Sb ⟨#[]⟩, I 0, .osl 4 (x.l.map Cm.cells) x.own]]), (6, [zRow46])], x.tok, x.nt⟩
def QBk (L : List Tk) (k : Int) (x : List Cm × RS) (ks : Nat) (box : Nat → Option (List (List AV))) (nb : Nat) (tok : Nat → Bool) (nt : Nat) (v : AV) (m : AMem) : Prop :=
  ∃ own tok' nt', TK tok nt tok' nt' [own] ∧ v = .agg [I k, Sb ⟨#[]⟩, I 0, .osl 4 (x.1.map Cm.cells) own] ∧ m = ⟨upd box ks (some [x.2.row L]), nb, tok', nt'⟩
set_option maxRecDepth 100000 in
theorem blocks_of (L : List Tk) (hL : L.length ≤ 1000000000) (B : RS → Cm × RS) (n : Nat) (hB : PrdC Tryz.prog L 48 B n) (hG : Goes L B) (k : Int) (ws : List ByteArray) (hw : ws.length ≤ 100) :
    ∀ r : RS, r.Ok L → rem L r ≤ n → ∀ (ks : Nat) (box : Nat → Option (List (List AV))), box ks = some [r.row L] → ∀ (nb : Nat) (tok : Nat → Bool) (nt : Nat),
  ACalls Tryz.prog 126 [.ptr ks 0 0, I k, .d (strs ws)] ⟨box, nb, tok, nt⟩ (QBk L k (blocksR L B r ws) ks box nb tok nt) := by
  intro r h hr ks box hk nb tok nt
  have a1 := hG r h
  have c1 := hB r h hr ks
  have hrem := rem_adv a1
  obtain ⟨R, hRR⟩ : ∃ R, blocksR L B r ws = R := ⟨_, rfl⟩
  rw [hRR]
  unfold blocksR at hRR
  obtain ⟨c0, r1, hc0⟩ : ∃ c0 r1, B r = (c0, r1) := ⟨_, _, rfl⟩
  rw [hc0] at a1 c1 hrem hRR
  simp only at a1 c1 hrem hRR
  refine sB Tryz.func126 Tryz.ntmps126 ?_
  intro hbox htok
  simp only at hbox htok
  apply AL.start
  have kn := key_lt hbox hk
  have ht0 := TK.start htok
  try (simp)
  repeat (first | (refine sR ?_; simp) | (refine sC ?_; simp) | (refine sX ?_; simp only [AU, ↓reduceIte]))
  refine Stop.of_a (c1 _ (by simp only; rw [lb_out kn]; exact hk) _ _ _) ?_
  rintro v m ⟨rfl, rfl⟩
  try (simp [upd_lb_out kn])
  repeat (first | (refine sR ?_; simp [upd_lb_out kn]) | (refine sC ?_; simp [upd_lb_out kn]) | (refine sX ?_; simp only [AU, ↓reduceIte]))
  refine sN ?_
  refine AL.loopT (stBs L k ws ks nb box) (SInv L B n ws R tok nt) (fun x => ws.length - x.i) ⟨0, r1, [c0], .full, tok, nt⟩ (SInv.of (Nat.zero_le _) a1.ok (by omega) (by rw [List.drop_zero]; exact hRR) rfl ht0.full)
    (Weaks.mk' (Nat.le_refl _) (by simp [ToL, lk]; exact to_ptr (by rw [lb_out kn, upd_same]; simp)) (by simp [BoxL, lk, Cm.cells_eq]) (outG (by simp))) ?_
  rintro ⟨i, r, l, own, tok1, nt1⟩ S hinv hS
  obtain ⟨hi, ho, hn1, he, hl, htk⟩ := hinv
  simp only [stBs] at hS hi ho hn1 he hl htk ⊢
  subst hS
  have hwi : IntKind.i64.wrap ((i : Int) + 1) = ((i + 1 : Nat) : Int) := by rw [wrap_in (by omega) (by omega)]; rfl
  by_cases hlt : i < ws.length
  · rw [List.drop_eq_getElem_cons hlt, blksR] at he
    have t1 := take_c L r ho (by omega) ws[i] ks
    have a2 := AdvS.take ho ws[i]
    have hr2 := rem_adv a2.adv
    generalize takeR L r ws[i] = r2 at *
    have c2 := hB r2 a2.ok (by omega) ks
    have a3 := hG r2 a2.ok
    have hr3 := rem_adv a3
    obtain ⟨c3, r3, hc3⟩ : ∃ c3 r3, B r2 = (c3, r3) := ⟨_, _, rfl⟩
    rw [hc3] at c2 a3 hr3 he
    simp only at c2 a3 hr3 he
    try (simp [hlt])
    repeat (first | (refine sR ?_; simp [hlt]) | (refine sC ?_; simp [hlt]) | (refine sX ?_; simp only [AU, ↓reduceIte]))
    refine Stop.of_a (t1 _ (by simp only; rw [lb_out kn, upd_same]) _ _ _) ?_
    rintro v m ⟨rfl, rfl⟩
    simp [upd_lb_out kn, upd_upd]
    have hne7 : nb + 7 ≠ ks := by omega
    refine sN ?_
    refine AL.region3 follows_Tryz (Nat.le_refl _) (by kernel_rfl) (Side.of (by simp)) [(Operand.tmp 24, Operand.tmp 26)] (by kernel_rfl) ?_
    simp [lb_out kn, upd_lb_out kn, upd_same]
    refine StopW.of_w rfl rfl (by simp only; rw [lb_out kn, upd_same]; simp) (fun box' nb' hb' => (c2 box' (by rw [hb']; simp only; rw [lb_out kn, upd_same]) nb' tok1 nt1).mono fun v m1 hq => ⟨hq.1, hq.2⟩) ?_
    simp [lb_out kn, upd_lb_out kn, upd_same, upd_upd, NK, hne7]
    refine ⟨⟨by omega, htk.live⟩, ?_⟩
    try (simp [hwi])
    repeat (first | (refine sR ?_; simp [hwi]) | (refine sC ?_; simp [hwi]) | (refine sX ?_; simp only [AU, ↓reduceIte]))
    refine sE ?_
    refine ⟨⟨i + 1, r3, l ++ [c3], .tok nt1, upd (own.kill tok1) nt1 true, nt1 + 1⟩, SInv.of hlt a3.ok (by omega) he (by simp [hl]) htk.app, by simp only; omega, ?_⟩
    simp only [stBs]
    exact Weaks.mk' (by have := htk.le; omega) (by simp [ToL, lk]; exact to_ptr (by rw [lb_out kn, upd_same]; simp)) (by simp [BoxL, lk, Cm.cells_eq]) (outG (by simp))
  · have : i = ws.length := by omega
    subst this
    rw [List.drop_length, blksR] at he
    subst he
    try (simp [hlt])
    repeat (first | (refine sR ?_; simp [hlt]) | (refine sC ?_; simp [hlt]) | (refine sX ?_; simp only [AU, ↓reduceIte]))
    refine sT ?_
    try simp only [AU]
    refine ⟨by simp, (Fin.gen (av := .agg [I k, Sb ⟨#[]⟩, I 0, .osl 4 (l.map Cm.cells) own]) (tok' := tok1) (nt' := nt1) (by simp [resAs, resA, lk]; rfl) (by rw [← upd_lb_out kn, hbox]) htk.le (Nat.le_refl _) (fun t ht => ⟨ht, .inl rfl⟩) (outG (by simp)) (by simp [packA])).mono fun v m hq => ⟨own, tok1, nt1, htk, hq.1, hq.2⟩⟩
end Go.AM
namespace Go.AM
open Go Go.Proofs
theorem numB_next {s : ByteArray} (h1 : 1 ≤ s.size) : ((decide ((nextR s).2.2 = 0) && decide ((nextR s).1 = 2)) && decide ((nextR s).2.1 = (s.size : Int))) = numB s := by
  unfold numB nextR
  by_cases e1 : letB (byteAt s 0) = true
  · have hd := let_dig e1
    have h0 := runN_stop hd
    rw [if_pos e1, h0]
    have : ¬ 0 = s.size := by omega
    split <;> simp [this]
  · rw [if_neg e1]
    by_cases e2 : digB (byteAt s 0) = true
    · rw [if_pos e2]
      by_cases e3 : 9 < runN digB s 0
      · rw [if_pos e3, Bool.eq_iff_iff]
        simp
        omega
      · rw [if_neg e3, Bool.eq_iff_iff]
        simp
        omega
    · have h0 := runN_stop (p := digB) (s := s) (a := 0) (by simpa using e2)
      have : ¬ 0 = s.size := by omega
      rw [if_neg e2, h0]
      simp only [this, decide_false, Bool.and_false]
      split
      · simp
      · split
        · simp
        · split <;> simp
theorem whole2_c (s : ByteArray) (hs : s.size ≤ 200000000000000) (tok : Nat → Bool) (nt : Nat) : DCall Tryz.prog 111 [.agg [I 2, Sb s, I 0]] tok nt (.tup [Sb s, B (numB s)]) tok nt := by
  intro box nb
  by_cases h0 : s.size = 0
  · have b0 : (s.toList == (⟨#[]⟩ : ByteArray).toList) = true := by rw [empty_dec]; simp [h0]
    have hse : s = ⟨#[]⟩ := by rw [seq_dec] at b0; simpa using b0
    have hn : numB s = false := by simp [numB, h0]
    rw [hn]
    refine sB Tryz.func111 Tryz.ntmps111 ?_
    intro hbox htok
    simp only at hbox htok
    apply AL.start
    try (simp)
    repeat (refine sR ?_; simp)
    refine sC ?_
    simp
    have b1 : s.toList = [] := by simpa using b0
    try (simp)
    repeat (refine sR ?_; simp)
    refine sC ?_
    simp [b1]
    try (simp)
    repeat (refine sR ?_; simp)
    refine sT ?_
    try simp only [AU]
    refine ⟨by simp, sF hbox htok (fun _ h => h) (Nat.le_refl _) ?_⟩
    simp [packA, hse]
  · have b0 : (s.toList == (⟨#[]⟩ : ByteArray).toList) = false := by rw [empty_dec]; simp [h0]
    have hx := next_c s (by omega) hs
    have hnb := numB_next (s := s) (by omega)
    generalize nextR s = N at *
    refine sB Tryz.func111 Tryz.ntmps111 ?_
    intro hbox htok
    simp only at hbox htok
    apply AL.start
    try (simp)
    repeat (refine sR ?_; simp)
    refine sC ?_
    simp
    have b1 : ¬ s.toList = [] := by simpa using b0
    try (simp)
    repeat (refine sR ?_; simp)
    refine sC ?_
    simp [b1]
    try (simp)
    repeat (refine sR ?_; simp)
    refine Stop.of_d (hx _ _) ?_
    simp
    by_cases f1 : N.2.2 = 0
    · have g1 : (N.2.2 == 0) = true := by simp [f1]
      by_cases f2 : N.1 = 2
      · have g2 : (N.1 == 2) = true := by simp [f2]
        try (simp [g1, g2])
        repeat (refine sR ?_; simp [g1, g2])
        by_cases f3 : N.2.1 = (s.size : Int)
        · have g3 : (N.2.1 == (s.size : Int)) = true := by simp [f3]
          rw [← hnb]
          refine sT ?_
          try simp only [AU]
          refine ⟨by simp, sF hbox htok (fun _ h => h) (Nat.le_refl _) ?_⟩
          simp [packA, f1, f2, f3, g3]
        · have g3 : (N.2.1 == (s.size : Int)) = false := by simp [f3]
          rw [← hnb]
          refine sT ?_
          try simp only [AU]
          refine ⟨by simp, sF hbox htok (fun _ h => h) (Nat.le_refl _) ?_⟩
          simp [packA, f1, f2, f3, g3]
      · have g2 : (N.1 == 2) = false := by simp [f2]
        rw [← hnb]
        try (simp [g1, g2])
        repeat (refine sR ?_; simp [g1, g2])
        refine sT ?_
        try simp only [AU]
        refine ⟨by simp, sF hbox htok (fun _ h => h) (Nat.le_refl _) ?_⟩
        simp [packA, f1, f2]
    · have g1 : (N.2.2 == 0) = false := by simp [f1]
      rw [← hnb]
      try (simp [g1])
      repeat (refine sR ?_; simp [g1])
      refine sT ?_
      try simp only [AU]
      refine ⟨by simp, sF hbox htok (fun _ h => h) (Nat.le_refl _) ?_⟩
      simp [packA, f1]
theorem digK_succ {s : ByteArray} {i : Nat} (h : i < s.size) : digK s (i + 1) = 10 * digK s i + (byteAt s i - 48) := by
  have h2 : i < s.data.toList.length := by rw [sz_list]; exact h
  rw [byteAt_get h2]
  simp only [digK, List.take_succ_eq_append_getElem h2, List.foldl_append, List.foldl_cons, List.foldl_nil]
theorem digK_rng {s : ByteArray} (hd : ∀ j, j < s.size → digB (byteAt s j) = true) : ∀ i, i ≤ s.size → 0 ≤ digK s i ∧ digK s i < ((10 ^ i : Nat) : Int)
  | 0, _ => by simp [digK]
  | i + 1, h => by
    have ih := digK_rng hd i (by omega)
    have hb := hd i (by omega)
    unfold digB at hb
    simp only [decide_eq_true_eq] at hb
    rw [digK_succ (by omega), Nat.pow_succ]
    omega
theorem run_all {p : Int → Bool} {s : ByteArray} : ∀ (k a : Nat), s.size - a = k → a ≤ s.size → runN p s a = s.size - a → ∀ j, a ≤ j → j < s.size → p (byteAt s j) = true
  | 0, a, hk, ha, h, j, h1, h2 => by omega
  | k + 1, a, hk, ha, h, j, h1, h2 => by
    have hlt : a < s.size := by omega
    cases hp : p (byteAt s a)
    · rw [runN_stop hp] at h; omega
    · rw [runN_step hlt hp] at h
      by_cases e : j = a
      · rw [e]; exact hp
      · exact run_all k (a + 1) (by omega) (by omega) (by omega) j (by omega) h2
theorem numB_dig {s : ByteArray} (h : numB s = true) : s.size ≤ 9 ∧ ∀ j, j < s.size → digB (byteAt s j) = true := by
  unfold numB at h
  simp only [Bool.and_eq_true, decide_eq_true_eq] at h
  exact ⟨h.1.2, fun j hj => run_all _ 0 rfl (Nat.zero_le _) (by rw [h.2]; rfl) j (Nat.zero_le _) hj⟩
theorem digK_bd {s : ByteArray} (h : numB s = true) {i : Nat} (hi : i ≤ s.size) : 0 ≤ digK s i ∧ digK s i < 1000000000 := by
  obtain ⟨h1, h2⟩ := numB_dig h
  have h3 := digK_rng h2 i hi
  have h4 : 10 ^ i ≤ 10 ^ 9 := Nat.pow_le_pow_right (by omega) (by omega)
  omega
structure DigA (s : ByteArray) (i : Nat) : Prop where
  w1 : IntKind.i64.wrap (10 * digK s i) = 10 * digK s i
  w1' : IntKind.i64.wrap (digK s i * 10) = 10 * digK s i
  w2 : IntKind.u8.wrap (byteAt s i - 48) = byteAt s i - 48
  w3 : IntKind.i64.wrap (byteAt s i - 48) = byteAt s i - 48
  w4 : IntKind.i64.wrap (10 * digK s i + (byteAt s i - 48)) = digK s (i + 1)
  wi : IntKind.i64.wrap (i : Int) = i
  wj : IntKind.i64.wrap ((i : Int) + 1) = ((i + 1 : Nat) : Int)
theorem digA {s : ByteArray} (h : numB s = true) {i : Nat} (hi : i < s.size) : DigA s i := by
  have h1 := digK_bd h (i := i) (by omega)
  have h2 := digK_bd h (i := i + 1) (by omega)
  obtain ⟨h3, h4⟩ := numB_dig h
  have h5 := h4 i hi
  have h6 := digK_succ hi
  unfold digB at h5
  simp only [decide_eq_true_eq] at h5
  refine ⟨wrap_in (by omega) (by omega), ?_, wrapU8 (by omega) (by omega), wrap_in (by omega) (by omega), ?_, wrap_in (by omega) (by omega), ?_⟩
  · rw [wrap_in (by omega) (by omega)]; omega
  · rw [h6, wrap_in (by omega) (by omega)]
  · rw [wrap_in (by omega) (by omega)]; rfl
def stNu (s : ByteArray) (nb : Nat) (box : Nat → Option (List (List AV))) (tok : Nat → Bool) (nt : Nat) (i : Nat) : AState := ⟨tl [(0, Sb s), (6, I (digK s i)), (17, I s.size), (18, I i)], lb nb box [], tok, nt⟩
set_option maxRecDepth 100000 in
theorem number_c (s : ByteArray) (hs : s.size ≤ 200000000000000) (tok : Nat → Bool) (nt : Nat) : DCall Tryz.prog 127 [Sb s] tok nt (.tup [I (numR s), I (if numB s = true then 0 else 2)]) tok nt := by
  intro box nb
  have hw := whole2_c s hs
  refine sB Tryz.func127 Tryz.ntmps127 ?_
  intro hbox htok
  simp only at hbox htok
  apply AL.start
  try (simp)
  repeat (refine sR ?_; simp)
  refine Stop.of_d (hw _ _) ?_
  simp
  cases hn : numB s
  · try (simp)
    repeat (first | (refine sR ?_; simp) | (refine sC ?_; simp) | (refine sX ?_; simp only [AU, ↓reduceIte]))
    refine sT ?_
    try simp only [AU]
    refine ⟨by simp, sF hbox htok (fun _ h => h) (Nat.le_refl _) ?_⟩
    simp [packA, numR, hn]
  · try (simp)
    repeat (first | (refine sR ?_; simp) | (refine sC ?_; simp) | (refine sX ?_; simp only [AU, ↓reduceIte]))
    refine sN ?_
    refine AL.loopT (stNu s nb box tok nt) (fun i => i ≤ s.size) (fun i => s.size - i) 0 (Nat.zero_le _) (Weaks.mk (Nat.le_refl _) rfl (by simp [ToL, lk, digK]) trivial) ?_
    rintro i S hi hS
    simp only [stNu] at hS
    subst hS
    by_cases hlt : i < s.size
    · obtain ⟨w1, w1', w2, w3, w4, wi, wj⟩ := digA hn hlt
      have hb := byteAt_lt hlt
      have hlt' : (i : Int) < s.size := by omega
      try (simp [hlt, hlt', hb, w1, w2, w3, w4, wi, wj])
      repeat (first | (refine sR ?_; simp [hlt, hlt', hb, w1, w2, w3, w4, wi, wj]) | (refine sC ?_; simp [hlt, hlt', hb, w1, w2, w3, w4, wi, wj]) | (refine sX ?_; simp only [AU, ↓reduceIte]))
      refine sE ?_
      exact ⟨i + 1, hlt, by omega, Weaks.mk (Nat.le_refl _) rfl (by simp [ToL, lk]) trivial⟩
    · have : i = s.size := by omega
      subst this
      have hlt' : ¬ (s.size : Int) < s.size := by omega
      try (simp)
      repeat (refine sR ?_; simp)
      refine sC ?_
      simp
      refine sX ?_
      simp only [AU, ↓reduceIte]
      try (simp)
      repeat (refine sR ?_; simp)
      refine sT ?_
      try simp only [AU]
      refine ⟨by simp, sF hbox htok (fun _ h => h) (Nat.le_refl _) ?_⟩
      simp [packA, numR, hn]
end Go.AM
namespace Go.AM
open Go Go.Proofs
structure OInv (L : List Tk) (B : RS → Cm × RS) (n : Nat) (R : List Cm × RS) (mtok : Nat → Bool) (nt0 : Nat) (x : AccR) : Prop where
  ok : x.r.Ok L
  n : rem L x.r ≤ n
  f : rem L x.r ≤ x.f
  e : orsR L B x.f x.r x.l = R
  l : x.l.length + x.f ≤ L.length + 3
  k : TK mtok nt0 x.tok x.nt [x.own]
theorem OInv.of {L : List Tk} {B : RS → Cm × RS} {n : Nat} {R : List Cm × RS} {mtok : Nat → Bool} {nt0 : Nat} {r : RS} {l : List Cm} {own : Own} {tok : Nat → Bool} {nt f : Nat} (h1 : r.Ok L) (h2 : rem L r ≤ n) (h3 : rem L r ≤ f) (h4 : orsR L B f r l = R) (h5 : l.length + f ≤ L.length + 3) (h7 : TK mtok nt0 tok nt [own]) :
    OInv L B n R mtok nt0 ⟨r, l, own, tok, nt, f⟩ := ⟨h1, h2, h3, h4, h5, h7⟩
def stCh (L : List Tk) (ks nb : Nat) (box : Nat → Option (List (List AV))) (x : AccR) : AState :=
  ⟨tl [(4, .ptr (nb + 4) 0 0), (2, .ptr (nb + 2) 0 0), (0, .ptr ks 0 0)], lb nb (upd box ks (some [x.r.row L])) [(4, [[I 3, Sb ⟨#[]⟩, I 0, .osl 4 (x.l.map Cm.cells) x.own]]), (2, [zRow46])], x.tok, x.nt⟩
theorem kind_size {L : List Tk} (hT : ∀ t ∈ L, t.text.size ≤ 200000000000000) (r : RS) (k : Int) : (kindR L r k).1.size ≤ 200000000000000 := by
  unfold kindR
  split
  · simp only [textAt]
    split
    · rename_i t ht
      exact hT t (List.mem_of_getElem? ht)
    · exact Nat.zero_le _
  · exact Nat.zero_le _
theorem wApp {w : ByteArray} : w.toList = [97, 112, 112, 108, 121] ↔ w = sApp := by have h := seq_iff (a := w) (b := sApp); simpa [sApp] using h
theorem wCal {w : ByteArray} : w.toList = [99, 97, 108, 108] ↔ w = sCal := by have h := seq_iff (a := w) (b := sCal); simpa [sCal] using h
theorem wSki {w : ByteArray} : w.toList = [115, 107, 105, 112] ↔ w = sSki := by have h := seq_iff (a := w) (b := sSki); simpa [sSki] using h
theorem wFai {w : ByteArray} : w.toList = [102, 97, 105, 108] ↔ w = sFai := by have h := seq_iff (a := w) (b := sFai); simpa [sFai] using h
theorem wLoo {w : ByteArray} : w.toList = [108, 111, 111, 112] ↔ w = sLoo := by have h := seq_iff (a := w) (b := sLoo); simpa [sLoo] using h
theorem wTry {w : ByteArray} : w.toList = [116, 114, 121] ↔ w = sTry := by have h := seq_iff (a := w) (b := sTry); simpa [sTry] using h
theorem wIf {w : ByteArray} : w.toList = [105, 102] ↔ w = sIf := by have h := seq_iff (a := w) (b := sIf); simpa [sIf] using h
theorem wCho {w : ByteArray} : w.toList = [99, 104, 111, 111, 115, 101] ↔ w = sCho := by have h := seq_iff (a := w) (b := sCho); simpa [sCho] using h
theorem wRep {w : ByteArray} : w.toList = [114, 101, 112, 101, 97, 116] ↔ w = sRep := by have h := seq_iff (a := w) (b := sRep); simpa [sRep] using h
set_option maxRecDepth 100000 in
theorem command_of (L : List Tk) (hL : L.length ≤ 1000000000) (hT : ∀ t ∈ L, t.text.size ≤ 200000000000000) (B : RS → Cm × RS) (n : Nat) (hB : PrdC Tryz.prog L 48 B n) (hG : Goes L B) (hN : GoesN L B n) : PrdC Tryz.prog L 83 (cmdR L B) (n + 1) := by
  intro r h hr ks box hk nb tok nt
  have k1 := kind_c L r h (by omega) 1 ks
  have hR : cmdR L B r = if r.bad < 0 then cmdS L B (kindR L r 1).1 (kindR L r 1).2 else (zC, r) := rfl
  have ak := AdvS.kind h 1
  obtain ⟨w, r1, hw⟩ : ∃ w r1, kindR L r 1 = (w, r1) := ⟨_, _, rfl⟩
  rw [hw] at k1 hR ak
  simp only at k1 hR ak
  by_cases hb : r.bad < 0
  · have hnb : ¬ 0 ≤ r.bad := by omega
    have hr1 := rem_advS ak hb h
    rw [if_pos hb] at hR
    refine sB Tryz.func83 Tryz.ntmps83 ?_
    intro hbox htok
    simp only at hbox htok
    apply AL.start
    have kn := key_lt hbox hk
    try (simp [lb_out kn, hk, hnb])
    repeat (first | (refine sR ?_; simp [lb_out kn, hk, hnb]) | (refine sC ?_; simp [lb_out kn, hk, hnb]) | (refine sX ?_; simp only [AU, ↓reduceIte]))
    refine Stop.of_a (k1 _ (by simp only; rw [lb_out kn]; exact hk) _ _ _) ?_
    rintro v m ⟨rfl, rfl⟩
    try (simp [upd_lb_out kn])
    repeat (first | (refine sR ?_; simp [upd_lb_out kn]) | (refine sC ?_; simp [upd_lb_out kn]) | (refine sX ?_; simp only [AU, ↓reduceIte]))
    have ho1 := ak.ok
    unfold cmdS at hR
    by_cases eApp : w = sApp
    · have fApp := wApp.2 eApp
      rw [if_pos eApp] at hR
      have c1 := simple_c L r1 ho1 (by omega) 1 true ks
      try (simp [fApp])
      repeat (first | (refine sR ?_; simp [fApp]) | (refine sC ?_; simp [fApp]) | (refine sX ?_; simp only [AU, ↓reduceIte]))
      refine Stop.of_a (c1 _ (by simp only; rw [lb_out kn, upd_same]) _ _ _) ?_
      rintro v m ⟨rfl, rfl⟩
      rw [hR]
      try (simp [upd_lb_out kn, upd_upd])
      repeat (first | (refine sR ?_; simp [upd_lb_out kn, upd_upd]) | (refine sC ?_; simp [upd_lb_out kn, upd_upd]) | (refine sX ?_; simp only [AU, ↓reduceIte]))
      refine sT ?_
      try simp only [AU]
      refine ⟨by simp, (Fin.gen (av := Cm.av (simpR L r1 1 true).1) (tok' := tok) (nt' := nt) (by simp [resAs, resA, lk]; rfl) (by rw [← upd_lb_out kn, hbox]) (Nat.le_refl _) (Nat.le_refl _) (fun t ht => ⟨ht, .inl rfl⟩) (outG (by simp)) (by simp [packA])).mono fun v m hq => ?_⟩
      exact hq
    · rw [if_neg eApp] at hR
      have gApp : ¬ w.toList = [97, 112, 112, 108, 121] := fun h => eApp (wApp.1 h)
      by_cases eCal : w = sCal
      · have fCal := wCal.2 eCal
        rw [if_pos eCal] at hR
        have c1 := simple_c L r1 ho1 (by omega) 10 true ks
        try (simp [fCal, gApp])
        repeat (first | (refine sR ?_; simp [fCal, gApp]) | (refine sC ?_; simp [fCal, gApp]) | (refine sX ?_; simp only [AU, ↓reduceIte]))
        refine Stop.of_a (c1 _ (by simp only; rw [lb_out kn, upd_same]) _ _ _) ?_
        rintro v m ⟨rfl, rfl⟩
        rw [hR]
        try (simp [upd_lb_out kn, upd_upd])
        repeat (first | (refine sR ?_; simp [upd_lb_out kn, upd_upd]) | (refine sC ?_; simp [upd_lb_out kn, upd_upd]) | (refine sX ?_; simp only [AU, ↓reduceIte]))
        refine sT ?_
        try simp only [AU]
        refine ⟨by simp, (Fin.gen (av := Cm.av (simpR L r1 10 true).1) (tok' := tok) (nt' := nt) (by simp [resAs, resA, lk]; rfl) (by rw [← upd_lb_out kn, hbox]) (Nat.le_refl _) (Nat.le_refl _) (fun t ht => ⟨ht, .inl rfl⟩) (outG (by simp)) (by simp [packA])).mono fun v m hq => ?_⟩
        exact hq
      · rw [if_neg eCal] at hR
        have gCal : ¬ w.toList = [99, 97, 108, 108] := fun h => eCal (wCal.1 h)
        by_cases eSki : w = sSki
        · have fSki := wSki.2 eSki
          rw [if_pos eSki] at hR
          have c1 := simple_c L r1 ho1 (by omega) 8 false ks
          try (simp [fSki, gApp, gCal])
          repeat (first | (refine sR ?_; simp [fSki, gApp, gCal]) | (refine sC ?_; simp [fSki, gApp, gCal]) | (refine sX ?_; simp only [AU, ↓reduceIte]))
          refine Stop.of_a (c1 _ (by simp only; rw [lb_out kn, upd_same]) _ _ _) ?_
          rintro v m ⟨rfl, rfl⟩
          rw [hR]
          try (simp [upd_lb_out kn, upd_upd])
          repeat (first | (refine sR ?_; simp [upd_lb_out kn, upd_upd]) | (refine sC ?_; simp [upd_lb_out kn, upd_upd]) | (refine sX ?_; simp only [AU, ↓reduceIte]))
          refine sT ?_
          try simp only [AU]
          refine ⟨by simp, (Fin.gen (av := Cm.av (simpR L r1 8 false).1) (tok' := tok) (nt' := nt) (by simp [resAs, resA, lk]; rfl) (by rw [← upd_lb_out kn, hbox]) (Nat.le_refl _) (Nat.le_refl _) (fun t ht => ⟨ht, .inl rfl⟩) (outG (by simp)) (by simp [packA])).mono fun v m hq => ?_⟩
          exact hq
        · rw [if_neg eSki] at hR
          have gSki : ¬ w.toList = [115, 107, 105, 112] := fun h => eSki (wSki.1 h)
          by_cases eFai : w = sFai
          · have fFai := wFai.2 eFai
            rw [if_pos eFai] at hR
            have c1 := simple_c L r1 ho1 (by omega) 9 false ks
            try (simp [fFai, gApp, gCal, gSki])
            repeat (first | (refine sR ?_; simp [fFai, gApp, gCal, gSki]) | (refine sC ?_; simp [fFai, gApp, gCal, gSki]) | (refine sX ?_; simp only [AU, ↓reduceIte]))
            refine Stop.of_a (c1 _ (by simp only; rw [lb_out kn, upd_same]) _ _ _) ?_
            rintro v m ⟨rfl, rfl⟩
            rw [hR]
            try (simp [upd_lb_out kn, upd_upd])
            repeat (first | (refine sR ?_; simp [upd_lb_out kn, upd_upd]) | (refine sC ?_; simp [upd_lb_out kn, upd_upd]) | (refine sX ?_; simp only [AU, ↓reduceIte]))
            refine sT ?_
            try simp only [AU]
            refine ⟨by simp, (Fin.gen (av := Cm.av (simpR L r1 9 false).1) (tok' := tok) (nt' := nt) (by simp [resAs, resA, lk]; rfl) (by rw [← upd_lb_out kn, hbox]) (Nat.le_refl _) (Nat.le_refl _) (fun t ht => ⟨ht, .inl rfl⟩) (outG (by simp)) (by simp [packA])).mono fun v m hq => ?_⟩
            exact hq
          · rw [if_neg eFai] at hR
            have gFai : ¬ w.toList = [102, 97, 105, 108] := fun h => eFai (wFai.1 h)
            by_cases eLoo : w = sLoo
            · have fLoo := wLoo.2 eLoo
              rw [if_pos eLoo] at hR
              have c1 := blocks_of L hL B n hB hG 5 [] (by simp) r1 ho1 (by omega) ks
              try (simp [fLoo, gApp, gCal, gSki, gFai])
              repeat (first | (refine sR ?_; simp [fLoo, gApp, gCal, gSki, gFai]) | (refine sC ?_; simp [fLoo, gApp, gCal, gSki, gFai]) | (refine sX ?_; simp only [AU, ↓reduceIte]))
              refine Stop.sub (args' := [.ptr ks 0 0, I 5, .d (strs [])]) ⟨Sub.refl _, Sub.refl _, Sub.nil _ _ _, trivial⟩ ?_
              refine Stop.of_a (c1 _ (by simp only; rw [lb_out kn, upd_same]) _ _ _) ?_
              rintro v m ⟨own, tok1, nt1, htk, rfl, rfl⟩
              rw [hR]
              try (simp [upd_lb_out kn, upd_upd])
              repeat (first | (refine sR ?_; simp [upd_lb_out kn, upd_upd]) | (refine sC ?_; simp [upd_lb_out kn, upd_upd]) | (refine sX ?_; simp only [AU, ↓reduceIte]))
              refine sT ?_
              try simp only [AU]
              refine ⟨by simp, (Fin.gen (av := Cm.av (asK 5 0 (blocksR L B r1 [])).1) (tok' := tok) (nt' := nt) (by simp [resAs, resA, lk]; rfl) (by rw [← upd_lb_out kn, hbox]) (Nat.le_refl _) htk.le (fun t ht => ⟨htk.old t ht, .inr (htok t ht)⟩) (outG (by simp)) (by simp [packA, asK, Cm.kind, Cm.name, Cm.num, Cm.kids, cms])).mono fun v m hq => ?_⟩
              exact hq
            · rw [if_neg eLoo] at hR
              have gLoo : ¬ w.toList = [108, 111, 111, 112] := fun h => eLoo (wLoo.1 h)
              by_cases eTry : w = sTry
              · have fTry := wTry.2 eTry
                rw [if_pos eTry] at hR
                have c1 := blocks_of L hL B n hB hG 7 [] (by simp) r1 ho1 (by omega) ks
                try (simp [fTry, gApp, gCal, gSki, gFai, gLoo])
                repeat (first | (refine sR ?_; simp [fTry, gApp, gCal, gSki, gFai, gLoo]) | (refine sC ?_; simp [fTry, gApp, gCal, gSki, gFai, gLoo]) | (refine sX ?_; simp only [AU, ↓reduceIte]))
                refine Stop.sub (args' := [.ptr ks 0 0, I 7, .d (strs [])]) ⟨Sub.refl _, Sub.refl _, Sub.nil _ _ _, trivial⟩ ?_
                refine Stop.of_a (c1 _ (by simp only; rw [lb_out kn, upd_same]) _ _ _) ?_
                rintro v m ⟨own, tok1, nt1, htk, rfl, rfl⟩
                rw [hR]
                try (simp [upd_lb_out kn, upd_upd])
                repeat (first | (refine sR ?_; simp [upd_lb_out kn, upd_upd]) | (refine sC ?_; simp [upd_lb_out kn, upd_upd]) | (refine sX ?_; simp only [AU, ↓reduceIte]))
                refine sT ?_
                try simp only [AU]
                refine ⟨by simp, (Fin.gen (av := Cm.av (asK 7 0 (blocksR L B r1 [])).1) (tok' := tok) (nt' := nt) (by simp [resAs, resA, lk]; rfl) (by rw [← upd_lb_out kn, hbox]) (Nat.le_refl _) htk.le (fun t ht => ⟨htk.old t ht, .inr (htok t ht)⟩) (outG (by simp)) (by simp [packA, asK, Cm.kind, Cm.name, Cm.num, Cm.kids, cms])).mono fun v m hq => ?_⟩
                exact hq
              · rw [if_neg eTry] at hR
                have gTry : ¬ w.toList = [116, 114, 121] := fun h => eTry (wTry.1 h)
                by_cases eIf : w = sIf
                · have fIf := wIf.2 eIf
                  rw [if_pos eIf] at hR
                  have c1 := blocks_of L hL B n hB hG 4 [sThe, sEls] (by simp) r1 ho1 (by omega) ks
                  try (simp [fIf, gApp, gCal, gSki, gFai, gLoo, gTry])
                  repeat (first | (refine sR ?_; simp [fIf, gApp, gCal, gSki, gFai, gLoo, gTry]) | (refine sC ?_; simp [fIf, gApp, gCal, gSki, gFai, gLoo, gTry]) | (refine sX ?_; simp only [AU, ↓reduceIte]))
                  refine ⟨rfl, ?_⟩
                  refine Stop.data ?_
                  refine Stop.of_a (c1 _ (by simp only; rw [lb_out kn, upd_same]) _ _ _) ?_
                  rintro v m ⟨own, tok1, nt1, htk, rfl, rfl⟩
                  rw [hR]
                  try (simp [upd_lb_out kn, upd_upd])
                  repeat (first | (refine sR ?_; simp [upd_lb_out kn, upd_upd]) | (refine sC ?_; simp [upd_lb_out kn, upd_upd]) | (refine sX ?_; simp only [AU, ↓reduceIte]))
                  refine sT ?_
                  try simp only [AU]
                  refine ⟨by simp, (Fin.gen (av := Cm.av (asK 4 0 (blocksR L B r1 [sThe, sEls])).1) (tok' := tok) (nt' := nt) (by simp [resAs, resA, lk]; rfl) (by rw [← upd_lb_out kn, hbox]) (Nat.le_refl _) htk.le (fun t ht => ⟨htk.old t ht, .inr (htok t ht)⟩) (outG (by simp)) (by simp [packA, asK, Cm.kind, Cm.name, Cm.num, Cm.kids, cms])).mono fun v m hq => ?_⟩
                  exact hq
                · rw [if_neg eIf] at hR
                  have gIf : ¬ w.toList = [105, 102] := fun h => eIf (wIf.1 h)
                  by_cases eCho : w = sCho
                  · have fCho := wCho.2 eCho
                    rw [if_pos eCho] at hR
                    have c1 := blocks_of L hL B n hB hG 3 [sOr] (by simp) r1 ho1 (by omega) ks
                    have a2 := blocks_adv hG ho1 [sOr]
                    have hr2 := rem_adv a2
                    have hl2 : (blocksR L B r1 [sOr]).1.length = 2 := rfl
                    obtain ⟨l2, r2, hl⟩ : ∃ l2 r2, blocksR L B r1 [sOr] = (l2, r2) := ⟨_, _, rfl⟩
                    rw [hl] at c1 a2 hr2 hl2 hR
                    simp only [asK] at c1 a2 hr2 hl2 hR
                    obtain ⟨R, hRR⟩ : ∃ R, orsR L B (L.length + 1) r2 l2 = R := ⟨_, rfl⟩
                    rw [hRR] at hR
                    have hrl : rem L r2 ≤ L.length + 1 := by unfold rem; split <;> omega
                    have ht0 := TK.start htok
                    try (simp [fCho, gApp, gCal, gSki, gFai, gLoo, gTry, gIf])
                    repeat (first | (refine sR ?_; simp [fCho, gApp, gCal, gSki, gFai, gLoo, gTry, gIf]) | (refine sC ?_; simp [fCho, gApp, gCal, gSki, gFai, gLoo, gTry, gIf]) | (refine sX ?_; simp only [AU, ↓reduceIte]))
                    refine Stop.data ?_
                    refine Stop.of_a (c1 _ (by simp only; rw [lb_out kn, upd_same]) _ _ _) ?_
                    rintro v m ⟨own, tok1, nt1, htk, rfl, rfl⟩
                    rw [hR]
                    try (simp [upd_lb_out kn, upd_upd])
                    repeat (first | (refine sR ?_; simp [upd_lb_out kn, upd_upd]) | (refine sC ?_; simp [upd_lb_out kn, upd_upd]) | (refine sX ?_; simp only [AU, ↓reduceIte]))
                    refine sN ?_
                    refine AL.loopT (stCh L ks nb box) (OInv L B n R tok nt) (fun x => x.f) ⟨r2, l2, own, tok1, nt1, L.length + 1⟩ (OInv.of a2.ok (by omega) hrl hRR (by omega) htk)
                      (Weaks.mk' htk.le (by simp [ToL, lk]; exact to_ptr (by rw [lb_out kn, upd_same]; simp)) (by simp [BoxL, lk]) (outG (by simp))) ?_
                    rintro ⟨r, l, own, tok1, nt1, f⟩ S hinv hS
                    obtain ⟨ho, hn1, hf, he, hlen, htk⟩ := hinv
                    simp only [stCh] at hS ho hn1 hf he hlen htk ⊢
                    subst hS
                    have pk := peek_c L r sOr ks
                    cases hp : peekB L r sOr
                    · have he2 : orsR L B f r l = (l, r) := by
                        cases f with
                        | zero => rfl
                        | succ f => rw [orsR, if_neg (by simp [hp])]
                      rw [he2] at he
                      subst he
                      try (simp)
                      repeat (first | (refine sR ?_; simp) | (refine sC ?_; simp) | (refine sX ?_; simp only [AU, ↓reduceIte]))
                      refine Stop.of_a (pk _ (by simp only; rw [lb_out kn, upd_same]) _ _ _) ?_
                      rintro v m ⟨rfl, rfl⟩
                      try (simp [hp])
                      repeat (first | (refine sR ?_; simp [hp]) | (refine sC ?_; simp [hp]) | (refine sX ?_; simp only [AU, ↓reduceIte]))
                      refine sT ?_
                      try simp only [AU]
                      refine ⟨by simp, (Fin.gen (av := Cm.av (.mk 3 ⟨#[]⟩ 0 l)) (tok' := tok) (nt' := nt) (by simp [resAs, resA, lk]; rfl) (by rw [← upd_lb_out kn, hbox]) (Nat.le_refl _) htk.le (fun t ht => ⟨htk.old t ht, .inr (htok t ht)⟩) (outG (by simp)) (by simp [packA, Cm.kind, Cm.name, Cm.num, Cm.kids, cms])).mono fun v m hq => ?_⟩
                      exact hq
                    · have hpp := hp
                      unfold peekB at hpp
                      simp only [Bool.and_eq_true, decide_eq_true_eq] at hpp
                      have hpa := at_lt hpp.2
                      have a3 : AdvS L r ⟨r.at' + 1, r.bad⟩ := by
                        have := AdvS.take ho sOr
                        unfold takeR at this
                        rw [if_pos hp] at this
                        exact this
                      have hlt := rem_advS a3 hpp.1 ho
                      obtain ⟨f, rfl⟩ : ∃ f', f = f' + 1 := ⟨f - 1, by omega⟩
                      rw [orsR, if_pos hp] at he
                      have hwr : IntKind.i64.wrap ((r.at' : Int) + 1) = ((r.at' + 1 : Nat) : Int) := by rw [wrap_in (by omega) (by omega)]; rfl
                      obtain ⟨r3, hr3⟩ : ∃ r3 : RS, (⟨r.at' + 1, r.bad⟩ : RS) = r3 := ⟨_, rfl⟩
                      have c2 := hB r3 (by rw [← hr3]; exact a3.ok) (by rw [← hr3]; omega) ks
                      have a4 := hG r3 (by rw [← hr3]; exact a3.ok)
                      have hr4 := rem_adv a4
                      rw [hr3] at he hlt
                      obtain ⟨c3, r4, hc3⟩ : ∃ c3 r4, B r3 = (c3, r4) := ⟨_, _, rfl⟩
                      rw [hc3] at c2 a4 hr4 he
                      simp only at c2 a4 hr4 he
                      have hrr : [AV.d (tks L), I ((r.at' + 1 : Nat) : Int), I r.bad] = r3.row L := by rw [← hr3]
                      try (simp)
                      repeat (first | (refine sR ?_; simp) | (refine sC ?_; simp) | (refine sX ?_; simp only [AU, ↓reduceIte]))
                      refine Stop.of_a (pk _ (by simp only; rw [lb_out kn, upd_same]) _ _ _) ?_
                      rintro v m ⟨rfl, rfl⟩
                      simp [hp]
                      refine sC ?_
                      simp
                      refine sR ?_
                      simp [lb_out kn, upd_lb_out kn, upd_same, upd_upd, hwr]
                      have hne4 : nb + 4 ≠ ks := by omega
                      refine sN ?_
                      refine AL.region3 follows_Tryz (Nat.le_refl _) (by kernel_rfl) (Side.of (by simp)) [(Operand.tmp 60, Operand.tmp 62)] (by kernel_rfl) ?_
                      simp [lb_out kn, upd_lb_out kn, upd_same]
                      refine StopW.of_w rfl rfl (by simp only; rw [lb_out kn, upd_same]; simp) (fun box' nb' hb' => (c2 box' (by rw [hb']; simp only; rw [lb_out kn, upd_same]; exact congrArg (fun x => some [x]) hrr) nb' tok1 nt1).mono fun v m1 hq => ⟨hq.1, hq.2⟩) ?_
                      simp [lb_out kn, upd_lb_out kn, upd_same, upd_upd, NK, hne4]
                      refine ⟨⟨by omega, htk.live⟩, ?_⟩
                      try (simp)
                      repeat (first | (refine sR ?_; simp) | (refine sC ?_; simp) | (refine sX ?_; simp only [AU, ↓reduceIte]))
                      refine sE ?_
                      refine ⟨⟨r4, l ++ [c3], .tok nt1, upd (own.kill tok1) nt1 true, nt1 + 1, f⟩, OInv.of a4.ok (by omega) (by omega) he (by simp; omega) htk.app, by simp only; omega, ?_⟩
                      simp only [stCh]
                      exact Weaks.mk' (by have := htk.le; omega) (by simp [ToL, lk]; exact to_ptr (by rw [lb_out kn, upd_same]; simp)) (by simp [BoxL, lk, Cm.cells_eq]) (outG (by simp))
                  · rw [if_neg eCho] at hR
                    have gCho : ¬ w.toList = [99, 104, 111, 111, 115, 101] := fun h => eCho (wCho.1 h)
                    by_cases eRep : w = sRep
                    · have fRep := wRep.2 eRep
                      rw [if_pos eRep] at hR
                      have c1 := kind_c L r1 ho1 (by omega) 2 ks
                      have a2 := AdvS.kind ho1 2
                      have hr2 := rem_adv a2.adv
                      have hsz : (kindR L r1 2).1.size ≤ 200000000000000 := kind_size hT r1 2
                      obtain ⟨w2, r2, hl⟩ : ∃ w2 r2, kindR L r1 2 = (w2, r2) := ⟨_, _, rfl⟩
                      rw [hl] at c1 a2 hr2 hsz hR
                      simp only [asK] at c1 a2 hr2 hsz hR
                      have c2 := number_c w2 hsz
                      have c3 := blocks_of L hL B n hB hG 6 [] (by simp) r2 a2.ok (by omega) ks
                      try (simp [fRep, gApp, gCal, gSki, gFai, gLoo, gTry, gIf, gCho])
                      repeat (first | (refine sR ?_; simp [fRep, gApp, gCal, gSki, gFai, gLoo, gTry, gIf, gCho]) | (refine sC ?_; simp [fRep, gApp, gCal, gSki, gFai, gLoo, gTry, gIf, gCho]) | (refine sX ?_; simp only [AU, ↓reduceIte]))
                      refine Stop.of_a (c1 _ (by simp only; rw [lb_out kn, upd_same]) _ _ _) ?_
                      rintro v m ⟨rfl, rfl⟩
                      try (simp [upd_lb_out kn, upd_upd])
                      repeat (first | (refine sR ?_; simp [upd_lb_out kn, upd_upd]) | (refine sC ?_; simp [upd_lb_out kn, upd_upd]) | (refine sX ?_; simp only [AU, ↓reduceIte]))
                      refine Stop.of_d (c2 _ _) ?_
                      simp
                      try (simp)
                      repeat (first | (refine sR ?_; simp) | (refine sC ?_; simp) | (refine sX ?_; simp only [AU, ↓reduceIte]))
                      refine Stop.sub (args' := [.ptr ks 0 0, I 6, .d (strs [])]) ⟨Sub.refl _, Sub.refl _, Sub.nil _ _ _, trivial⟩ ?_
                      refine Stop.of_a (c3 _ (by simp only; rw [lb_out kn, upd_same]) _ _ _) ?_
                      rintro v m ⟨own, tok1, nt1, htk, rfl, rfl⟩
                      rw [hR]
                      try (simp [upd_lb_out kn, upd_upd, asK, Cm.kind, Cm.name, Cm.num, Cm.kids])
                      repeat (first | (refine sR ?_; simp [upd_lb_out kn, upd_upd, asK, Cm.kind, Cm.name, Cm.num, Cm.kids]) | (refine sC ?_; simp [upd_lb_out kn, upd_upd, asK, Cm.kind, Cm.name, Cm.num, Cm.kids]) | (refine sX ?_; simp only [AU, ↓reduceIte]))
                      refine sT ?_
                      try simp only [AU]
                      refine ⟨by simp, (Fin.gen (av := Cm.av (.mk 6 ⟨#[]⟩ (numR w2) (blocksR L B r2 []).1)) (tok' := tok) (nt' := nt) (by simp [resAs, resA, lk]; rfl) (by rw [← upd_lb_out kn, hbox]) (Nat.le_refl _) htk.le (fun t ht => ⟨htk.old t ht, .inr (htok t ht)⟩) (outG (by simp)) (by simp [packA, Cm.kind, Cm.name, Cm.num, Cm.kids, cms])).mono fun v m hq => ?_⟩
                      exact hq
                    · rw [if_neg eRep] at hR
                      have gRep : ¬ w.toList = [114, 101, 112, 101, 97, 116] := fun h => eRep (wRep.1 h)
                      by_cases hb1 : r1.bad < 0
                      · rw [if_pos hb1] at hR
                        have hlt := ak.lt hb1
                        have ha1 := ho1.a
                        have hwr : IntKind.i64.wrap ((r1.at' : Int) - 1) = (r1.at' : Int) - 1 := wrap_in (by omega) (by omega)
                        try (simp [gApp, gCal, gSki, gFai, gLoo, gTry, gIf, gCho, gRep, lb_out kn, upd_lb_out kn, upd_same, upd_upd, hb1, hwr])
                        repeat (first | (refine sR ?_; simp [gApp, gCal, gSki, gFai, gLoo, gTry, gIf, gCho, gRep, lb_out kn, upd_lb_out kn, upd_same, upd_upd, hb1, hwr]) | (refine sC ?_; simp [gApp, gCal, gSki, gFai, gLoo, gTry, gIf, gCho, gRep, lb_out kn, upd_lb_out kn, upd_same, upd_upd, hb1, hwr]) | (refine sX ?_; simp only [AU, ↓reduceIte]))
                        rw [hR]
                        refine sT ?_
                        try simp only [AU]
                        refine ⟨by simp, (Fin.gen (av := Cm.av zC) (tok' := tok) (nt' := nt) (by simp [resAs, resA, lk]; rfl) (by rw [← upd_lb_out kn, hbox]) (Nat.le_refl _) (Nat.le_refl _) (fun t ht => ⟨ht, .inl rfl⟩) (outG (by simp)) (by simp [packA, zC, Cm.kind, Cm.name, Cm.num, Cm.kids, cms])).mono fun v m hq => ?_⟩
                        exact hq
                      · rw [if_neg hb1] at hR
                        try (simp [gApp, gCal, gSki, gFai, gLoo, gTry, gIf, gCho, gRep, lb_out kn, upd_lb_out kn, upd_same, upd_upd, hb1])
                        repeat (first | (refine sR ?_; simp [gApp, gCal, gSki, gFai, gLoo, gTry, gIf, gCho, gRep, lb_out kn, upd_lb_out kn, upd_same, upd_upd, hb1]) | (refine sC ?_; simp [gApp, gCal, gSki, gFai, gLoo, gTry, gIf, gCho, gRep, lb_out kn, upd_lb_out kn, upd_same, upd_upd, hb1]) | (refine sX ?_; simp only [AU, ↓reduceIte]))
                        rw [hR]
                        refine sT ?_
                        try simp only [AU]
                        refine ⟨by simp, (Fin.gen (av := Cm.av zC) (tok' := tok) (nt' := nt) (by simp [resAs, resA, lk]; rfl) (by rw [← upd_lb_out kn, hbox]) (Nat.le_refl _) (Nat.le_refl _) (fun t ht => ⟨ht, .inl rfl⟩) (outG (by simp)) (by simp [packA, zC, Cm.kind, Cm.name, Cm.num, Cm.kids, cms])).mono fun v m hq => ?_⟩
                        exact hq
  · rw [if_neg hb] at hR
    rw [hR]
    have hnb : 0 ≤ r.bad := by omega
    refine sB Tryz.func83 Tryz.ntmps83 ?_
    intro hbox htok
    simp only at hbox htok
    apply AL.start
    have kn := key_lt hbox hk
    try (simp [lb_out kn, hk, hnb])
    repeat (first | (refine sR ?_; simp [lb_out kn, hk, hnb]) | (refine sC ?_; simp [lb_out kn, hk, hnb]) | (refine sX ?_; simp only [AU, ↓reduceIte]))
    refine sT ?_
    try simp only [AU]
    refine ⟨by simp, (Fin.gen (av := Cm.av zC) (tok' := tok) (nt' := nt) (by simp [resAs, resA, lk]; rfl) hbox (Nat.le_refl _) (Nat.le_refl _) (fun t ht => ⟨ht, .inl rfl⟩) (fun k rows _ h => .inl h) (by simp [packA, zC, Cm.kind, Cm.name, Cm.num, Cm.kids, cms])).mono fun v m hq => ?_⟩
    exact ⟨hq.1, by rw [upd_keep hk]; exact hq.2⟩
end Go.AM
namespace Go.AM
open Go Go.Proofs
theorem tokens1_c (c : Int) (tok : Nat → Bool) (nt : Nat) : DCall Tryz.prog 80 [Ub c] tok nt (B (nlB c)) tok nt := by
  intro box nb
  refine sB Tryz.func80 Tryz.ntmps80 ?_
  intro hbox htok
  simp only at hbox htok
  apply AL.start
  try (simp)
  repeat (refine sR ?_; simp)
  refine sT ?_
  try simp only [AU]
  refine ⟨by simp, sF hbox htok (fun _ h => h) (Nat.le_refl _) ?_⟩
  simp [packA, nlB]
structure AccT where
  s : ByteArray
  line : Int
  out : List Tk
  own : Own
  tok : Nat → Bool
  nt : Nat
  f : Nat
structure TkInv (R : List Tk × Int × Int) (mtok : Nat → Bool) (nt0 : Nat) (x : AccT) : Prop where
  f : x.s.size ≤ x.f
  s : x.s.size ≤ 20000
  l0 : 0 ≤ x.line
  l1 : x.line ≤ 20001 - x.s.size
  n : x.out.length ≤ 4000
  r : toksF x.f x.s x.line x.out = R
  k : TK mtok nt0 x.tok x.nt [x.own]
theorem TkInv.of {R : List Tk × Int × Int} {mtok : Nat → Bool} {nt0 : Nat} {s : ByteArray} {line : Int} {out : List Tk} {own : Own} {tok : Nat → Bool} {nt f : Nat} (h1 : s.size ≤ f) (h2 : s.size ≤ 20000) (h3 : 0 ≤ line) (h4 : line ≤ 20001 - s.size) (h5 : out.length ≤ 4000)
    (h6 : toksF f s line out = R) (h7 : TK mtok nt0 tok nt [own]) : TkInv R mtok nt0 ⟨s, line, out, own, tok, nt, f⟩ := ⟨h1, h2, h3, h4, h5, h6, h7⟩
def stTo (nb : Nat) (box : Nat → Option (List (List AV))) (x : AccT) : AState :=
  ⟨tl [(0, Sb x.s), (5, .osl 3 (x.out.map Tk.cells) x.own), (6, I x.line)], lb nb box [], x.tok, x.nt⟩
set_option maxRecDepth 100000 in
theorem tokens_c (s : ByteArray) (hs : s.size ≤ 200000000000000) (tok : Nat → Bool) (nt : Nat) : DCall Tryz.prog 44 [Sb s] tok nt (.tup [.d (tks (toksR s).1), I (toksR s).2.1, I (toksR s).2.2]) tok nt := by
  intro box nb
  obtain ⟨R, hR⟩ : ∃ R, toksR s = R := ⟨_, rfl⟩
  rw [hR]
  unfold toksR at hR
  refine sB Tryz.func44 Tryz.ntmps44 ?_
  intro hbox htok
  simp only at hbox htok
  apply AL.start
  have ht0 := TK.start htok
  try (simp)
  repeat (refine sR ?_; simp)
  by_cases h0 : 20000 < s.size
  · rw [if_pos h0] at hR
    have h0' : (20000 : Int) < s.size := by omega
    try (simp [h0'])
    repeat (first | (refine sR ?_; simp [h0']) | (refine sC ?_; simp [h0']) | (refine sX ?_; simp only [AU, ↓reduceIte]))
    refine sT ?_
    try simp only [AU]
    refine ⟨by simp, sF hbox htok (fun _ h => h) (Nat.le_refl _) ?_⟩
    simp [packA, ← hR, tks]
  · rw [if_neg h0] at hR
    have h0' : ¬ (20000 : Int) < s.size := by omega
    try (simp [h0'])
    repeat (first | (refine sR ?_; simp [h0']) | (refine sC ?_; simp [h0']) | (refine sX ?_; simp only [AU, ↓reduceIte]))
    refine sN ?_
    refine AL.loopT (stTo nb box) (TkInv R tok nt) (fun x => x.s.size) ⟨s, 1, [], .full, tok, nt, s.size⟩ (TkInv.of (Nat.le_refl _) (by omega) (by omega) (by omega) (by simp) hR ht0.full) (Weaks.mk (Nat.le_refl _) rfl (by simp [ToL, lk]) trivial) ?_
    rintro ⟨s, line, out, own, tok1, nt1, f⟩ S hinv hS
    obtain ⟨hf, hsz, hl0, hl1, hn, hr, htk⟩ := hinv
    simp only [stTo] at hS hf hsz hl0 hl1 hn hr htk ⊢
    subst hS
    by_cases he : s.size = 0
    · rw [toksF_end he] at hr
      try (simp [he])
      repeat (refine sR ?_; simp [he])
      refine sC ?_
      simp
      refine sX ?_
      simp only [AU, ↓reduceIte]
      try (simp)
      repeat (refine sR ?_; simp)
      refine sT ?_
      try simp only [AU]
      refine ⟨by simp, sF hbox htok htk.old htk.le ?_⟩
      simp [packA, ← hr, tks]
    · have hlt : 0 < s.size := by omega
      have hlt' : (0 : Int) < s.size := by omega
      have hb := byteAt_lt hlt
      obtain ⟨f, rfl⟩ : ∃ f', f = f' + 1 := ⟨f - 1, by omega⟩
      have hle1 : (1 : Int) ≤ s.size := by omega
      have hle1' : 1 ≤ s.size := by omega
      have hd1 : s.extract 1 s.size = dropB s 1 := rfl
      have hds := dropB_size s 1
      try (simp [hlt, hlt'])
      repeat (refine sR ?_; simp [hlt, hlt'])
      refine sC ?_
      simp
      try (simp [hlt, hlt'])
      repeat (refine sR ?_; simp [hlt, hlt'])
      rw [hb]
      by_cases e1 : byteAt s 0 = 10
      · rw [toksF_nl he e1] at hr
        have hw : IntKind.i64.wrap (line + 1) = line + 1 := wrap_in (by omega) (by omega)
        try (simp [e1, hw, hle1, hle1', hd1])
        repeat (first | (refine sR ?_; simp [e1, hw, hle1, hle1', hd1]) | (refine sC ?_; simp [e1, hw, hle1, hle1', hd1]) | (refine sX ?_; simp only [AU, ↓reduceIte]))
        refine sE ?_
        exact ⟨⟨dropB s 1, line + 1, out, own, tok1, nt1, f⟩, TkInv.of (by omega) (by omega) (by omega) (by omega) hn hr htk, by simp only; omega, Weaks.mk htk.le rfl (by simp [ToL, lk]) trivial⟩
      · have b1 : (byteAt s 0 == 10) = false := by simp [e1]
        by_cases e2 : whiB (byteAt s 0) = true
        · rw [toksF_wh he e1 e2] at hr
          have e2' : byteAt s 0 = 32 ∨ byteAt s 0 = 9 ∨ byteAt s 0 = 13 := by simpa [whiB] using e2
          have fin : ∃ a', TkInv R tok nt a' ∧ a'.s.size < s.size ∧ a' = ⟨dropB s 1, line, out, own, tok1, nt1, f⟩ := ⟨_, TkInv.of (by omega) (by omega) (by omega) (by omega) hn hr htk, by simp only; omega, rfl⟩
          obtain ⟨a', fa, fb, fc⟩ := fin
          rcases e2' with e3 | e3 | e3
          · try (simp [b1, e3, hle1, hle1', hd1])
            repeat (first | (refine sR ?_; simp [b1, e3, hle1, hle1', hd1]) | (refine sC ?_; simp [b1, e3, hle1, hle1', hd1]) | (refine sX ?_; simp only [AU, ↓reduceIte]))
            refine sE ?_
            exact ⟨a', fa, fb, by subst fc; exact Weaks.mk htk.le rfl (by simp [ToL, lk]) trivial⟩
          · try (simp [b1, e3, hle1, hle1', hd1])
            repeat (first | (refine sR ?_; simp [b1, e3, hle1, hle1', hd1]) | (refine sC ?_; simp [b1, e3, hle1, hle1', hd1]) | (refine sX ?_; simp only [AU, ↓reduceIte]))
            refine sE ?_
            exact ⟨a', fa, fb, by subst fc; exact Weaks.mk htk.le rfl (by simp [ToL, lk]) trivial⟩
          · try (simp [b1, e3, hle1, hle1', hd1])
            repeat (first | (refine sR ?_; simp [b1, e3, hle1, hle1', hd1]) | (refine sC ?_; simp [b1, e3, hle1, hle1', hd1]) | (refine sX ?_; simp only [AU, ↓reduceIte]))
            refine sE ?_
            exact ⟨a', fa, fb, by subst fc; exact Weaks.mk htk.le rfl (by simp [ToL, lk]) trivial⟩
        · have e2' : ¬ byteAt s 0 = 32 ∧ ¬ byteAt s 0 = 9 ∧ ¬ byteAt s 0 = 13 := by simpa [whiB] using e2
          have b2 : (byteAt s 0 == 32) = false := by simp [e2'.1]
          have b3 : (byteAt s 0 == 9) = false := by simp [e2'.2.1]
          have b4 : (byteAt s 0 == 13) = false := by simp [e2'.2.2]
          by_cases e5 : byteAt s 0 = 35
          · rw [toksF_cm he e5] at hr
            have hrun := run_c s 80 nlB (by omega) tok1 nt1 fun c => tokens1_c c tok1 nt1
            have hp := runN_pos (p := nlB) (s := s) (a := 0) hlt (by simp [nlB, e5])
            have hle := runN_le nlB s 0
            have hdn : s.extract (runN nlB s 0) s.size = dropB s (runN nlB s 0) := rfl
            have hds2 := dropB_size s (runN nlB s 0)
            generalize runN nlB s 0 = n at *
            have hn1 : (n : Int) ≤ s.size := by omega
            have hn2 : n ≤ s.size := by omega
            try (simp [b1, e5])
            repeat (first | (refine sR ?_; simp [b1, e5]) | (refine sC ?_; simp [b1, e5]) | (refine sX ?_; simp only [AU, ↓reduceIte]))
            refine Stop.of_d (hrun) ?_
            simp
            try (simp [hn1, hn2, hdn])
            repeat (first | (refine sR ?_; simp [hn1, hn2, hdn]) | (refine sC ?_; simp [hn1, hn2, hdn]) | (refine sX ?_; simp only [AU, ↓reduceIte]))
            refine sE ?_
            exact ⟨⟨dropB s n, line, out, own, tok1, nt1, f⟩, TkInv.of (by omega) (by omega) (by omega) (by omega) hn hr htk, by simp only; omega, Weaks.mk htk.le rfl (by simp [ToL, lk]) trivial⟩
          · have b5 : (byteAt s 0 == 35) = false := by simp [e5]
            rw [toksF_tk he e1 e2 e5] at hr
            have hx := next_c s hlt (by omega)
            have hrg := nextR_rng (s := s) hlt
            have hte : textR s = if (nextR s).1 = 3 then s.extract 1 ((nextR s).2.1.toNat - 1) else s.extract 0 (nextR s).2.1.toNat := rfl
            generalize textR s = txt at *
            generalize nextR s = N at *
            try (simp [b1, b2, b3, b4, b5])
            repeat (first | (refine sR ?_; simp [b1, b2, b3, b4, b5]) | (refine sC ?_; simp [b1, b2, b3, b4, b5]) | (refine sX ?_; simp only [AU, ↓reduceIte]))
            refine Stop.of_d (hx _ _) ?_
            simp
            by_cases e6 : N.2.2 = 0
            · have b6 : (N.2.2 != 0) = false := by simp [e6]
              obtain ⟨r1, r2, r3, r4⟩ := hrg e6
              rw [if_neg (by simp [e6])] at hr
              by_cases e7 : out.length = 4000
              · rw [if_pos e7] at hr
                have b7 : ((out.length : Int) == 4000) = true := by rw [beq_iff_eq]; omega
                try (simp [b6, b7])
                repeat (first | (refine sR ?_; simp [b6, b7]) | (refine sC ?_; simp [b6, b7]) | (refine sX ?_; simp only [AU, ↓reduceIte]))
                refine sT ?_
                try simp only [AU]
                refine ⟨by simp, sF hbox htok htk.old htk.le ?_⟩
                simp [packA, ← hr, tks]
              · rw [if_neg e7] at hr
                have b7 : ((out.length : Int) == 4000) = false := by rw [beq_eq_false_iff_ne]; omega
                have q1 : 0 ≤ N.2.1 := by omega
                have q2 : N.2.1.toNat ≤ s.size := by omega
                have hds2 := dropB_size s N.2.1.toNat
                have hdn : s.extract N.2.1.toNat s.size = dropB s N.2.1.toNat := rfl
                have hfin : ∃ a', TkInv R tok nt a' ∧ a'.s.size < s.size ∧ a' = ⟨dropB s N.2.1.toNat, line, out ++ [⟨N.1, txt, line⟩], .tok nt1, upd (own.kill tok1) nt1 true, nt1 + 1, f⟩ :=
                  ⟨_, TkInv.of (by omega) (by omega) (by omega) (by omega) (by simp; omega) hr htk.app, by simp only; omega, rfl⟩
                obtain ⟨a', fa, fb, fc⟩ := hfin
                by_cases e8 : N.1 = 3
                · rw [if_pos e8] at hte
                  have r3' := r3 e8
                  have w1 : IntKind.i64.wrap (N.2.1 - 1) = N.2.1 - 1 := wrap_in (by omega) (by omega)
                  have q3 : (1 : Int) ≤ N.2.1 - 1 := by omega
                  have q4 : N.2.1 - 1 ≤ s.size := by omega
                  have q5 : 1 ≤ N.2.1.toNat - 1 := by omega
                  have q6 : N.2.1.toNat - 1 ≤ s.size := by omega
                  have q7 : 0 ≤ N.2.1 - 1 := by omega
                  have q8 : (N.2.1 - 1).toNat = N.2.1.toNat - 1 := by omega
                  try (simp [b6, b7, e8, q1, q2, r2, w1, q3, q4, q5, q6, q7, q8])
                  repeat (first | (refine sR ?_; simp [b6, b7, e8, q1, q2, r2, w1, q3, q4, q5, q6, q7, q8]) | (refine sC ?_; simp [b6, b7, e8, q1, q2, r2, w1, q3, q4, q5, q6, q7, q8]) | (refine sX ?_; simp only [AU, ↓reduceIte]))
                  refine ⟨by omega, ?_⟩
                  try (simp)
                  repeat (first | (refine sR ?_; simp) | (refine sC ?_; simp) | (refine sX ?_; simp only [AU, ↓reduceIte]))
                  refine ⟨⟨by omega, htk.live⟩, ?_⟩
                  try (simp [q1, q2, r2, hdn])
                  repeat (first | (refine sR ?_; simp [q1, q2, r2, hdn]) | (refine sC ?_; simp [q1, q2, r2, hdn]) | (refine sX ?_; simp only [AU, ↓reduceIte]))
                  refine sE ?_
                  exact ⟨a', fa, fb, by subst fc; exact Weaks.mk (by have := htk.le; omega) rfl (by simp [ToL, lk, e8, hte]) trivial⟩
                · rw [if_neg e8] at hte
                  have b8 : (N.1 == 3) = false := by simp [e8]
                  try (simp [b6, b7, b8, q1, q2, r2])
                  repeat (first | (refine sR ?_; simp [b6, b7, b8, q1, q2, r2]) | (refine sC ?_; simp [b6, b7, b8, q1, q2, r2]) | (refine sX ?_; simp only [AU, ↓reduceIte]))
                  refine ⟨⟨by omega, htk.live⟩, ?_⟩
                  try (simp [q1, q2, r2, hdn])
                  repeat (first | (refine sR ?_; simp [q1, q2, r2, hdn]) | (refine sC ?_; simp [q1, q2, r2, hdn]) | (refine sX ?_; simp only [AU, ↓reduceIte]))
                  refine sE ?_
                  exact ⟨a', fa, fb, by subst fc; exact Weaks.mk (by have := htk.le; omega) rfl (by simp [ToL, lk, hte]) trivial⟩
            · have b6 : (N.2.2 != 0) = true := by simp [e6]
              rw [if_pos e6] at hr
              try (simp [b6])
              repeat (first | (refine sR ?_; simp [b6]) | (refine sC ?_; simp [b6]) | (refine sX ?_; simp only [AU, ↓reduceIte]))
              refine sT ?_
              try simp only [AU]
              refine ⟨by simp, sF hbox htok htk.old htk.le ?_⟩
              simp [packA, ← hr, tks]
end Go.AM
namespace Go.AM
open Go Go.Proofs
set_option maxRecDepth 100000 in
theorem command_bad (L : List Tk) (n : Nat) : PrdC Tryz.prog L 83 (pCmd L 0) 0 := by
  intro r h hr ks box hk nb tok nt
  have hb := rem_zero h (by omega)
  have hR : pCmd L 0 r = (zC, r) := by simp only [pCmd]
  rw [hR]
  have hnb : 0 ≤ r.bad := by omega
  refine sB Tryz.func83 Tryz.ntmps83 ?_
  intro hbox htok
  simp only at hbox htok
  apply AL.start
  have kn := key_lt hbox hk
  try (simp [lb_out kn, hk, hnb])
  repeat (first | (refine sR ?_; simp [lb_out kn, hk, hnb]) | (refine sC ?_; simp [lb_out kn, hk, hnb]) | (refine sX ?_; simp only [AU, ↓reduceIte]))
  refine sT ?_
  try simp only [AU]
  refine ⟨by simp, (Fin.gen (av := Cm.av zC) (tok' := tok) (nt' := nt) (by simp [resAs, resA, lk]; rfl) hbox (Nat.le_refl _) (Nat.le_refl _) (fun t ht => ⟨ht, .inl rfl⟩) (fun k rows _ h => .inl h) (by simp [packA, zC, Cm.kind, Cm.name, Cm.num, Cm.kids, cms])).mono fun v m hq => ?_⟩
  exact ⟨hq.1, by rw [upd_keep hk]; exact hq.2⟩
theorem take_bad {L : List Tk} {r : RS} (hb : ¬ r.bad < 0) (s : ByteArray) : takeR L r s = r := by simp [takeR, peekB, failR, hb]
theorem block_bad {L : List Tk} {r : RS} (hb : ¬ r.bad < 0) (C : RS → Cm × RS) (hC : C r = (zC, r)) : blockR L C r = (zC, r) := by
  unfold blockR
  rw [take_bad hb, hC]
  simp only [restR]
  rw [if_neg (by simp [hb])]
  simp [wrapC, take_bad hb]
theorem p_goes (L : List Tk) : ∀ n, GoesN L (fun q => pCmd L n q) n ∧ GoesN L (fun q => pBlk L n q) n
  | 0 => ⟨fun r h h0 hb => absurd hb (rem_zero h (by omega)), fun r h h0 hb => absurd hb (rem_zero h (by omega))⟩
  | n + 1 => ⟨fun r h _ _ => by simp only [pCmd]; exact cmd_adv (p_adv L n).2 h, fun r h _ _ => by simp only [pBlk]; exact block_adv (p_adv L n).1 h⟩
theorem p_all (L : List Tk) (hL : L.length ≤ 1000000000) (hT : ∀ t ∈ L, t.text.size ≤ 200000000000000) : ∀ n, PrdC Tryz.prog L 83 (fun q => pCmd L n q) n ∧ PrdC Tryz.prog L 48 (fun q => pBlk L n q) n
  | 0 => by
    have h1 := command_bad L 0
    refine ⟨h1, fun r h hr ks box hk nb tok nt => ?_⟩
    have hb := rem_zero h (by omega)
    have h2 := block_of L hL _ 0 h1 (p_adv L 0).1 (p_goes L 0).1 r h (by omega) ks box hk nb tok nt
    have e : blockR L (pCmd L 0) r = (zC, r) := block_bad hb _ (by simp only [pCmd])
    have e2 : pBlk L 0 r = (zC, r) := by simp only [pBlk]
    rw [e] at h2
    simp only [e2]
    exact h2
  | n + 1 => by
    obtain ⟨h1, h2⟩ := p_all L hL hT n
    have h3 := command_of L hL hT _ n h2 (p_adv L n).2 (p_goes L n).2
    have h4 := block_of L hL _ n h1 (p_adv L n).1 (p_goes L n).1
    refine ⟨fun r => ?_, fun r => ?_⟩
    · simp only [pCmd]; exact h3 r
    · simp only [pBlk]; exact h4 r
def lineAt (L : List Tk) (i : Nat) : Int := match L[i]? with
  | some t => t.line
  | none => 0
structure TS where
  r : RS
  ps : List Pr
  ls : List Int
def topS (L : List Tk) (x : TS) : TS :=
  ⟨(pBlk L (L.length + 1) (kindR L (takeR L x.r sPro) 1).2).2, x.ps ++ [⟨(kindR L (takeR L x.r sPro) 1).1, (pBlk L (L.length + 1) (kindR L (takeR L x.r sPro) 1).2).1⟩], x.ls ++ [lineAt L x.r.at']⟩
def topR (L : List Tk) : Nat → TS → TS
  | 0, x => x
  | n + 1, x => if x.r.bad < 0 ∧ (x.r.at' < L.length ∨ L.length = 0) then topR L n (topS L x) else x
def badLine (L : List Tk) (b : Int) : Int := if b < L.length then lineAt L b.toNat else lineAt L (L.length - 1)
def parseL (L : List Tk) : List Pr × Int × Int :=
  if L.length = 0 then ([], 1, 2)
  else if 0 ≤ (topR L (L.length + 1) ⟨⟨0, -1⟩, [], []⟩).r.bad then ([], badLine L (topR L (L.length + 1) ⟨⟨0, -1⟩, [], []⟩).r.bad, 2)
  else if (faultR (topR L (L.length + 1) ⟨⟨0, -1⟩, [], []⟩).ps [] false).2 ≠ 0 then
    ([], if 0 ≤ (faultR (topR L (L.length + 1) ⟨⟨0, -1⟩, [], []⟩).ps [] false).1 then ((topR L (L.length + 1) ⟨⟨0, -1⟩, [], []⟩).ls.getD (faultR (topR L (L.length + 1) ⟨⟨0, -1⟩, [], []⟩).ps [] false).1.toNat 0) else 0, (faultR (topR L (L.length + 1) ⟨⟨0, -1⟩, [], []⟩).ps [] false).2)
  else ((topR L (L.length + 1) ⟨⟨0, -1⟩, [], []⟩).ps, 0, 0)
def parseR (s : ByteArray) : List Pr × Int × Int := if (toksR s).2.2 ≠ 0 then ([], (toksR s).2.1, (toksR s).2.2) else parseL (toksR s).1
end Go.AM
namespace Go.AM
open Go Go.Proofs
theorem rem_bad {L : List Tk} {r : RS} (h : ¬ r.bad < 0) : rem L r = 0 := by unfold rem; rw [if_neg h]
theorem rem_pos {L : List Tk} {r : RS} (h : r.bad < 0) (ho : r.Ok L) : 1 ≤ rem L r := by have := ho.a; unfold rem; rw [if_pos h]; omega
structure SzF (L : List Tk) (F : RS → Cm × RS) (n : Nat) : Prop where
  go : Goes L F
  bd : ∀ r : RS, ¬ r.bad < 0 → F r = (zC, r)
  sz : ∀ r : RS, r.Ok L → rem L r ≤ n → r.bad < 0 → (F r).1.size + 5 * rem L (F r).2 ≤ 5 * rem L r + 1
  sm : ∀ r : RS, r.Ok L → rem L r ≤ n → (F r).1.Sm
theorem nil_size : (⟨#[]⟩ : ByteArray).size ≤ 200000000000000 := by decide
theorem zC_size : zC.size = 1 := rfl
theorem zC_sm : zC.Sm := .mk nil_size (by simp [zC, Cm.kids]) (by simp [zC, Cm.kids])
theorem SzF.all {L : List Tk} {F : RS → Cm × RS} {n : Nat} (h : SzF L F n) (r : RS) (ho : r.Ok L) (hr : rem L r ≤ n) : (F r).1.size + 5 * rem L (F r).2 ≤ 5 * rem L r + 1 := by
  by_cases hb : r.bad < 0
  · exact h.sz r ho hr hb
  · rw [h.bd r hb, zC_size]; simp only; omega
theorem Cm.sizeL_snoc (l : List Cm) (c : Cm) : Cm.sizeL (l ++ [c]) = Cm.sizeL l + c.size := by rw [Cm.sizeL_app]; simp [Cm.sizeL]
theorem sm_snoc {l : List Cm} {c : Cm} (hl : ∀ x ∈ l, x.Sm) (hc : c.Sm) : ∀ x ∈ l ++ [c], x.Sm := fun x hx => by
  rcases List.mem_append.1 hx with hx | hx
  · exact hl x hx
  · simp at hx; rw [hx]; exact hc
theorem blks_sz {L : List Tk} {B : RS → Cm × RS} {n : Nat} (hB : SzF L B n) : ∀ (ws : List ByteArray) (r : RS) (l : List Cm), r.Ok L → rem L r ≤ n → (∀ c ∈ l, c.Sm) → Cm.sizeL (blksR L B ws r l).1 + 5 * rem L (blksR L B ws r l).2 ≤ Cm.sizeL l + 5 * rem L r + ws.length ∧ ∀ c ∈ (blksR L B ws r l).1, c.Sm
  | [], r, l, h, _, hl => ⟨by simp [blksR], hl⟩
  | w :: ws, r, l, h, hr, hl => by
    have h1 := (AdvS.take h w).adv
    have h3 := rem_adv h1
    have h2 := hB.all _ h1.ok (by omega)
    have h5 := rem_adv (hB.go _ h1.ok)
    have h4 := blks_sz hB ws (B (takeR L r w)).2 (l ++ [(B (takeR L r w)).1]) (hB.go _ h1.ok).ok (by omega) (sm_snoc hl (hB.sm _ h1.ok (by omega)))
    rw [Cm.sizeL_snoc] at h4
    refine ⟨?_, h4.2⟩
    have := h4.1
    simp only [blksR, List.length_cons]
    omega
theorem blocks_sz {L : List Tk} {B : RS → Cm × RS} {n : Nat} (hB : SzF L B n) (r : RS) (h : r.Ok L) (hr : rem L r ≤ n) (ws : List ByteArray) : Cm.sizeL (blocksR L B r ws).1 + 5 * rem L (blocksR L B r ws).2 ≤ 5 * rem L r + 1 + ws.length ∧ ∀ c ∈ (blocksR L B r ws).1, c.Sm := by
  have h2 := hB.all r h hr
  have h5 := rem_adv (hB.go r h)
  have h4 := blks_sz hB ws (B r).2 [(B r).1] (hB.go r h).ok (by omega) (fun c hc => by simp at hc; rw [hc]; exact hB.sm r h hr)
  refine ⟨?_, h4.2⟩
  have := h4.1
  simp only [Cm.sizeL] at this
  unfold blocksR
  omega
theorem ors_sz {L : List Tk} {B : RS → Cm × RS} {k : Nat} (hB : SzF L B k) : ∀ (n : Nat) (r : RS) (l : List Cm), r.Ok L → rem L r ≤ k → (∀ c ∈ l, c.Sm) → Cm.sizeL (orsR L B n r l).1 + 5 * rem L (orsR L B n r l).2 ≤ Cm.sizeL l + 5 * rem L r ∧ ∀ c ∈ (orsR L B n r l).1, c.Sm
  | 0, r, l, h, _, hl => ⟨by simp [orsR], hl⟩
  | n + 1, r, l, h, hr, hl => by
    unfold orsR
    split
    · rename_i hp
      have h1 : AdvS L r ⟨r.at' + 1, r.bad⟩ := by
        have := AdvS.take h sOr
        unfold takeR at this
        rw [if_pos hp] at this
        exact this
      have hb : r.bad < 0 := by unfold peekB at hp; simp only [Bool.and_eq_true, decide_eq_true_eq] at hp; exact hp.1
      have h3 := rem_advS h1 hb h
      have h2 := hB.all _ h1.ok (by omega)
      have h5 := rem_adv (hB.go _ h1.ok)
      have h4 := ors_sz hB n (B ⟨r.at' + 1, r.bad⟩).2 (l ++ [(B ⟨r.at' + 1, r.bad⟩).1]) (hB.go _ h1.ok).ok (by omega) (sm_snoc hl (hB.sm _ h1.ok (by omega)))
      rw [Cm.sizeL_snoc] at h4
      refine ⟨?_, h4.2⟩
      have := h4.1
      omega
    · exact ⟨by simp, hl⟩
structure SzC (L : List Tk) (F : RS → Cm × RS) (n : Nat) : Prop where
  go : Goes L F
  bd : ∀ r : RS, ¬ r.bad < 0 → F r = (zC, r)
  sz : ∀ r : RS, r.Ok L → rem L r ≤ n → r.bad < 0 → (F r).1.size + 5 * rem L (F r).2 ≤ 5 * rem L r
  sm : ∀ r : RS, r.Ok L → rem L r ≤ n → (F r).1.Sm
theorem SzC.f {L : List Tk} {F : RS → Cm × RS} {n : Nat} (h : SzC L F n) : SzF L F n := ⟨h.go, h.bd, fun r ho hr hb => by have := h.sz r ho hr hb; omega, h.sm⟩
theorem rest_sz {L : List Tk} {C : RS → Cm × RS} {k : Nat} (hC : SzC L C k) : ∀ (n : Nat) (r : RS) (l : List Cm), r.Ok L → rem L r ≤ k → (∀ c ∈ l, c.Sm) → Cm.sizeL (restR L C n r l).1 + 5 * rem L (restR L C n r l).2 ≤ Cm.sizeL l + 5 * rem L r ∧ ∀ c ∈ (restR L C n r l).1, c.Sm
  | 0, r, l, h, _, hl => ⟨by simp [restR], hl⟩
  | n + 1, r, l, h, hr, hl => by
    unfold restR
    split
    · rename_i hp
      have h2 := hC.sz r h hr hp.1
      have h5 := rem_adv (hC.go r h)
      have h4 := rest_sz hC n (C r).2 (l ++ [(C r).1]) (hC.go r h).ok (by omega) (sm_snoc hl (hC.sm r h hr))
      rw [Cm.sizeL_snoc] at h4
      refine ⟨?_, h4.2⟩
      have := h4.1
      omega
    · exact ⟨by simp, hl⟩
theorem wrap_size (l : List Cm) : (wrapC l).size ≤ 1 + Cm.sizeL l := by
  unfold wrapC
  split
  · simp [Cm.sizeL]
  · rw [Cm.size_eq]; simp [Cm.kids]
theorem wrap_sm {l : List Cm} (hl : ∀ c ∈ l, c.Sm) (hn : l.length ≤ 200000000000000) : (wrapC l).Sm := by
  unfold wrapC
  split
  · exact hl _ (by simp)
  · exact .mk nil_size hn hl
theorem rem_le (L : List Tk) (r : RS) : rem L r ≤ L.length + 1 := by unfold rem; split <;> omega
theorem block_sz {L : List Tk} (hL : L.length ≤ 1000000) {C : RS → Cm × RS} {n : Nat} (hC : SzC L C n) : SzF L (blockR L C) (n + 1) := by
  have key : ∀ r : RS, r.Ok L → rem L r ≤ n + 1 → r.bad < 0 → (blockR L C r).1.size + 5 * rem L (blockR L C r).2 ≤ 5 * rem L r + 1 ∧ (blockR L C r).1.Sm := by
    intro r h hr hb
    have h1 := AdvS.take h sOp
    have h3 := rem_advS h1 hb h
    have h2 := hC.f.all _ h1.ok (by omega)
    have h8 := rem_adv (hC.go _ h1.ok)
    have h4 := rest_sz hC (L.length + 1) (C (takeR L r sOp)).2 [(C (takeR L r sOp)).1] (hC.go _ h1.ok).ok (by omega) (fun c hc => by simp at hc; rw [hc]; exact hC.sm _ h1.ok (by omega))
    have h5 := wrap_size (restR L C (L.length + 1) (C (takeR L r sOp)).2 [(C (takeR L r sOp)).1]).1
    have ha := rest_adv hC.go (L.length + 1) (C (takeR L r sOp)).2 [(C (takeR L r sOp)).1] (hC.go _ h1.ok).ok
    have h6 := rem_adv (AdvS.take ha.ok sCl).adv
    have hq := rem_le L (takeR L r sOp)
    have h9 := Cm.len_le (restR L C (L.length + 1) (C (takeR L r sOp)).2 [(C (takeR L r sOp)).1]).1
    have h7 := h4.1
    simp only [Cm.sizeL] at h7
    refine ⟨?_, wrap_sm h4.2 (by omega)⟩
    unfold blockR
    simp only
    omega
  refine ⟨fun r h => (block_adv hC.go h).adv, fun r hb => block_bad hb C (hC.bd r hb), fun r h hr hb => (key r h hr hb).1, fun r h hr => ?_⟩
  by_cases hb : r.bad < 0
  · exact (key r h hr hb).2
  · rw [block_bad hb C (hC.bd r hb)]; exact zC_sm
theorem mk_size (k n : Int) (s : ByteArray) (l : List Cm) : (Cm.mk k s n l).size = 1 + Cm.sizeL l := by rw [Cm.size_eq]; rfl
theorem cmd_sz {L : List Tk} (hL : L.length ≤ 1000000) (hT : ∀ t ∈ L, t.text.size ≤ 200000000000000) {B : RS → Cm × RS} {n : Nat} (hB : SzF L B n) : SzC L (cmdR L B) (n + 1) := by
  have key : ∀ r : RS, r.Ok L → rem L r ≤ n + 1 → r.bad < 0 → (cmdR L B r).1.size + 5 * rem L (cmdR L B r).2 ≤ 5 * rem L r ∧ (cmdR L B r).1.Sm := by
    intro r h hr hb
    have h1 := AdvS.kind h 1
    have h3 := rem_advS h1 hb h
    have hR : cmdR L B r = cmdS L B (kindR L r 1).1 (kindR L r 1).2 := by unfold cmdR; rw [if_pos hb]
    rw [hR]
    have ho := h1.ok
    have hba : (kindR L r 1).2.bad < 0 → 1 ≤ (kindR L r 1).2.at' := fun h2 => by have := h1.lt h2; omega
    generalize (kindR L r 1).1 = w
    generalize (kindR L r 1).2 = q at *
    have hq := rem_le L q
    have hqn : rem L q ≤ n := by omega
    have simp' : ∀ k b, (simpR L q k b).1.size + 5 * rem L (simpR L q k b).2 ≤ 5 * rem L r ∧ (simpR L q k b).1.Sm := fun k b => by
      have ha := rem_adv (AdvS.simp ho k b).adv
      refine ⟨?_, ?_⟩
      · have : (simpR L q k b).1.size = 1 := by unfold simpR; split <;> rfl
        omega
      · unfold simpR
        split
        · exact .mk (by simp only [Cm.name]; exact kind_size hT q 1) (by simp [Cm.kids]) (by simp [Cm.kids])
        · exact .mk nil_size (by simp [Cm.kids]) (by simp [Cm.kids])
    have mk' : ∀ (k n : Int) (x : List Cm × RS), Cm.sizeL x.1 + 5 * rem L x.2 ≤ 5 * rem L q + 4 → (∀ c ∈ x.1, c.Sm) → (asK k n x).1.size + 5 * rem L (asK k n x).2 ≤ 5 * rem L r ∧ (asK k n x).1.Sm := fun k n x hx hs => by
      have hl := Cm.len_le x.1
      refine ⟨?_, .mk nil_size (by simp only [asK, Cm.kids]; omega) (by simpa [asK, Cm.kids] using hs)⟩
      unfold asK
      simp only [mk_size]
      omega
    unfold cmdS
    repeat' split
    · exact simp' _ _
    · exact simp' _ _
    · exact simp' _ _
    · exact simp' _ _
    · have hb := blocks_sz hB q ho hqn []; exact mk' _ _ _ (by have := hb.1; simp only [List.length_nil] at this; omega) hb.2
    · have hb := blocks_sz hB q ho hqn []; exact mk' _ _ _ (by have := hb.1; simp only [List.length_nil] at this; omega) hb.2
    · have hb := blocks_sz hB q ho hqn [sThe, sEls]; exact mk' _ _ _ (by have := hb.1; simp only [List.length_cons, List.length_nil] at this; omega) hb.2
    · have hb := blocks_sz hB q ho hqn [sOr]
      have ha := rem_adv (blocks_adv hB.go ho [sOr])
      have hc := ors_sz hB (L.length + 1) (blocksR L B q [sOr]).2 (blocksR L B q [sOr]).1 (blocks_adv hB.go ho _).ok (by omega) hb.2
      exact mk' _ _ _ (by have := hb.1; have := hc.1; simp only [List.length_cons, List.length_nil] at *; omega) hc.2
    · have hk := AdvS.kind ho 2
      have hr := rem_adv hk.adv
      have hb := blocks_sz hB (kindR L q 2).2 hk.ok (by omega) []; exact mk' _ _ _ (by have := hb.1; simp only [List.length_nil] at this; omega) hb.2
    · rename_i hb2
      refine ⟨?_, zC_sm⟩
      rw [zC_size]
      have h4 := hba hb2
      have : rem L ⟨q.at', (q.at' : Int) - 1⟩ = 0 := rem_bad (by simp only; omega)
      simp only [this]
      omega
    · refine ⟨?_, zC_sm⟩
      rw [zC_size]
      simp only
      omega
  refine ⟨fun r h => (cmd_adv hB.go h).adv, fun r hb => by unfold cmdR; rw [if_neg hb], fun r h hr hb => (key r h hr hb).1, fun r h hr => ?_⟩
  by_cases hb : r.bad < 0
  · exact (key r h hr hb).2
  · unfold cmdR; rw [if_neg hb]; exact zC_sm
theorem p_sz {L : List Tk} (hL : L.length ≤ 1000000) (hT : ∀ t ∈ L, t.text.size ≤ 200000000000000) : ∀ n, SzC L (fun q => pCmd L n q) n ∧ SzF L (fun q => pBlk L n q) n
  | 0 => ⟨⟨(p_adv L 0).1, fun r _ => by simp only [pCmd], fun r h hr hb => absurd hb (rem_zero h (by omega)), fun r _ _ => by simp only [pCmd]; exact zC_sm⟩,
      ⟨(p_adv L 0).2, fun r _ => by simp only [pBlk], fun r h hr hb => absurd hb (rem_zero h (by omega)), fun r _ _ => by simp only [pBlk]; exact zC_sm⟩⟩
  | n + 1 => by
    obtain ⟨h1, h2⟩ := p_sz hL hT n
    have e1 : (fun q => pCmd L (n + 1) q) = cmdR L (fun q => pBlk L n q) := by funext q; simp only [pCmd]
    have e2 : (fun q => pBlk L (n + 1) q) = blockR L (fun q => pCmd L n q) := by funext q; simp only [pBlk]
    rw [e1, e2]
    exact ⟨cmd_sz hL hT h2, block_sz hL h1⟩
structure TOk (L : List Tk) (x : TS) : Prop where
  ok : x.r.Ok L
  ln : x.ps.length + rem L x.r ≤ L.length + 1
  nm : ∀ q ∈ x.ps, q.name.size ≤ 200000000000000
  sm : ∀ q ∈ x.ps, q.body.Sm
  sz : ∀ q ∈ x.ps, q.body.size ≤ 1000000
  ls : x.ls.length = x.ps.length
theorem TOk.start (L : List Tk) : TOk L ⟨⟨0, -1⟩, [], []⟩ := ⟨⟨by simp, by simp, by show (-1 : Int) ≤ L.length; omega⟩, by simp [rem], by simp, by simp, by simp, rfl⟩
theorem topS_ok {L : List Tk} (hL : L.length ≤ 100000) (hT : ∀ t ∈ L, t.text.size ≤ 200000000000000) {x : TS} (h : TOk L x) (hb : x.r.bad < 0) : TOk L (topS L x) ∧ rem L (topS L x).r < rem L x.r := by
  have h1 := AdvS.take h.ok sPro
  have h2 := AdvS.kind h1.ok 1
  have h3 := (p_sz (by omega) hT (L.length + 1)).2
  have hr := rem_le L (kindR L (takeR L x.r sPro) 1).2
  have h4 := h3.all _ h2.ok hr
  have h5 := h3.go _ h2.ok
  have h6 := rem_advS h1 hb h.ok
  have h7 := rem_adv h2.adv
  have h8 := rem_adv h5
  have hsz := kind_size hT (takeR L x.r sPro) 1
  have hln := h.ln
  have hlt : rem L (topS L x).r < rem L x.r := by unfold topS; simp only; omega
  refine ⟨⟨h5.ok, ?_, ?_, ?_, ?_, ?_⟩, hlt⟩
  · unfold topS at hlt ⊢; simp only [List.length_append, List.length_cons, List.length_nil] at hlt ⊢; omega
  · intro q hq
    rcases List.mem_append.1 hq with hq | hq
    · exact h.nm q hq
    · simp at hq; rw [hq]; exact hsz
  · intro q hq
    rcases List.mem_append.1 hq with hq | hq
    · exact h.sm q hq
    · simp at hq; rw [hq]; exact h3.sm _ h2.ok hr
  · intro q hq
    rcases List.mem_append.1 hq with hq | hq
    · exact h.sz q hq
    · simp at hq; rw [hq]; simp only; omega
  · unfold topS; simp [h.ls]
theorem TOk.prs {L : List Tk} (hL : L.length ≤ 100000) {x : TS} (h : TOk L x) : PrsOk x.ps := ⟨by have := h.ln; omega, h.nm, h.sm, h.sz⟩
theorem text_size (s : ByteArray) (h : s.size ≤ 20000) : (textR s).size ≤ 20000 := by
  unfold textR
  split
  · rw [ByteArray.size_extract]; omega
  · rw [ByteArray.size_extract]; omega
theorem toksF_ok : ∀ (f : Nat) (s : ByteArray) (line : Int) (out : List Tk), s.size ≤ 20000 → (∀ t ∈ out, t.text.size ≤ 20000) → out.length ≤ 4000 → (∀ t ∈ (toksF f s line out).1, t.text.size ≤ 20000) ∧ (toksF f s line out).1.length ≤ 4000
  | 0, s, line, out, hs, ho, hn => ⟨ho, hn⟩
  | f + 1, s, line, out, hs, ho, hn => by
    unfold toksF
    repeat' split
    · exact ⟨ho, hn⟩
    · exact toksF_ok f _ _ _ (by rw [dropB_size]; omega) ho hn
    · exact toksF_ok f _ _ _ (by rw [dropB_size]; omega) ho hn
    · exact toksF_ok f _ _ _ (by rw [dropB_size]; omega) ho hn
    · exact ⟨by simp, by simp⟩
    · exact ⟨by simp, by simp⟩
    · refine toksF_ok f _ _ _ (by rw [dropB_size]; omega) (fun t ht => ?_) (by simp; omega)
      rcases List.mem_append.1 ht with ht | ht
      · exact ho t ht
      · simp at ht; rw [ht]; exact text_size s hs
theorem toksR_ok (s : ByteArray) : (∀ t ∈ (toksR s).1, t.text.size ≤ 20000) ∧ (toksR s).1.length ≤ 4000 := by
  unfold toksR
  split
  · exact ⟨by simp, by simp⟩
  · exact toksF_ok _ _ _ _ (by omega) (by simp) (by simp)
end Go.AM
