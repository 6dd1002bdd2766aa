import Derived.Test.YtbihadcpidlfoaaGreatPSL7
/-
  The reference's bare, shape, size, large, shapes, Size.
-/
namespace Go.AM
open Go Go.Proofs
set_option linter.unusedSimpArgs false
set_option linter.unusedVariables false

def sum7 (c : Cd) : Int := IntKind.i64.wrap (IntKind.i64.wrap (IntKind.i64.wrap (IntKind.i64.wrap (IntKind.i64.wrap (IntKind.i64.wrap (↑c.m.nodes.length + ↑c.m.edges.length) + ↑c.g.nodes.length) + ↑c.g.edges.length) + ↑c.sl.length) + c.vars) + ↑c.te.length)
theorem sum7_bare {c : Cd} (hb : c.Big) : (sum7 c == 0 && c.vars == 0) = unusedC c := by
  cases hb with
  | mk hk hmn hme hgn hge hs ht h =>
    rw [bigN_eq] at hmn hme hgn hge hs ht
    by_cases hv : c.vars = 0
    · have h0 : sum7 c = ((c.m.nodes.length + c.m.edges.length + c.g.nodes.length + c.g.edges.length + c.sl.length + c.te.length : Nat) : Int) := by
        unfold sum7
        rw [hv, wrap_in (n := ↑c.m.nodes.length + ↑c.m.edges.length) (by omega) (by omega)]
        rw [wrap_in (n := ↑c.m.nodes.length + ↑c.m.edges.length + ↑c.g.nodes.length) (by omega) (by omega)]
        rw [wrap_in (n := ↑c.m.nodes.length + ↑c.m.edges.length + ↑c.g.nodes.length + ↑c.g.edges.length) (by omega) (by omega)]
        rw [wrap_in (n := ↑c.m.nodes.length + ↑c.m.edges.length + ↑c.g.nodes.length + ↑c.g.edges.length + ↑c.sl.length) (by omega) (by omega)]
        rw [wrap_in (n := ↑c.m.nodes.length + ↑c.m.edges.length + ↑c.g.nodes.length + ↑c.g.edges.length + ↑c.sl.length + 0) (by omega) (by omega)]
        rw [wrap_in (by omega) (by omega)]
        omega
      rw [Bool.eq_iff_iff, h0]
      simp only [unusedC, plainC, z0, hv, Bool.and_eq_true, beq_iff_eq]
      simp only [true_and, and_true]
      omega
    · rw [Bool.eq_iff_iff]
      simp [unusedC, plainC, z0, hv]

theorem bare_c (c : Cd) (hb : c.Big) (tok : Nat → Bool) (nt : Nat) : DCall Tryz.prog 84 [c.av] tok nt (B (unusedC c)) tok nt := by
  intro box nb
  have hs := sum7_bare hb
  have hd := show sum7 c = IntKind.i64.wrap (IntKind.i64.wrap (IntKind.i64.wrap (IntKind.i64.wrap (IntKind.i64.wrap (IntKind.i64.wrap (↑c.m.nodes.length + ↑c.m.edges.length) + ↑c.g.nodes.length) + ↑c.g.edges.length) + ↑c.sl.length) + c.vars) + ↑c.te.length) from rfl
  refine ACalls.of_body Tryz.func84 rfl (by kernel_rfl) follows_Tryz (by kernel_rfl) (by simp [Tryz.ntmps84]) ?_
  intro hbox htok
  simp only at hbox htok
  apply AL.start
  try (simp)
  repeat ((repeat (first | refine AL.seq ?_ | refine AL.block ?_ | refine AL.skip ?_ | refine AL.blk ?_)); (refine AL.region follows_Tryz (Nat.le_refl _) (by kernel_rfl) ?_); simp)
  rw [← hd]
  cases h0 : sum7 c == 0
  · rw [h0] at hs
    simp
    try (simp)
    repeat ((repeat (first | refine AL.seq ?_ | refine AL.block ?_ | refine AL.skip ?_ | refine AL.blk ?_)); (refine AL.region follows_Tryz (Nat.le_refl _) (by kernel_rfl) ?_); simp)
    repeat (first | refine AL.seq ?_ | refine AL.block ?_ | refine AL.skip ?_ | refine AL.blk ?_)
    refine AL.ret ?_
    try simp only [AU]
    refine ⟨by simp, Fin.data (by simp [resAs, resA]; rfl) hbox rfl htok (fun _ h => h) (Nat.le_refl _) ?_⟩
    simp [packA, ← hs]
  · rw [h0] at hs
    simp
    try (simp)
    repeat ((repeat (first | refine AL.seq ?_ | refine AL.block ?_ | refine AL.skip ?_ | refine AL.blk ?_)); (refine AL.region follows_Tryz (Nat.le_refl _) (by kernel_rfl) ?_); simp)
    repeat (first | refine AL.seq ?_ | refine AL.block ?_ | refine AL.skip ?_ | refine AL.blk ?_)
    refine AL.ret ?_
    try simp only [AU]
    refine ⟨by simp, Fin.data (by simp [resAs, resA]; rfl) hbox rfl htok (fun _ h => h) (Nat.le_refl _) ?_⟩
    simp [packA, ← hs]

def stSz (c : Cd) (nb : Nat) (box : Nat → Option (List (List AV))) (tok : Nat → Bool) (nt : Nat) (i : Nat) : AState :=
  ⟨tl [(4, I (measK c.kids i).1), (5, I (measK c.kids i).2), (6, I i), (1, .ptr (nb + 1) 0 0)], lb nb box [(1, [c.row])], tok, nt⟩

theorem size25_c : ∀ (n : Nat) (c : Cd), SizeOf.sizeOf c < n → c.Big → ∀ (tok : Nat → Bool) (nt : Nat), DCall Tryz.prog 22 [c.av] tok nt (.tup [I c.meas.1, I c.meas.2]) tok nt
  | 0, c, hn, _, tok, nt => absurd hn (Nat.not_lt_zero _)
  | n + 1, c, hn, hb, tok, nt => by
    intro box nb
    have ih := fun x (hx : x ∈ c.kids) => size25_c n x (by have := Cd.kid_lt hx; omega) (hb.kid x hx)
    have hkb := hb.kids
    rw [kidN_eq] at hkb
    have hR := c.meas_eq
    refine ACalls.of_body Tryz.func22 rfl (by kernel_rfl) follows_Tryz (by kernel_rfl) (by simp [Tryz.ntmps22]) ?_
    intro hbox htok
    simp only at hbox htok
    apply AL.start
    try (simp)
    repeat ((repeat (first | refine AL.seq ?_ | refine AL.block ?_ | refine AL.skip ?_ | refine AL.blk ?_)); (refine AL.region follows_Tryz (Nat.le_refl _) (by kernel_rfl) ?_); simp)
    repeat (first | refine AL.seq ?_ | refine AL.block ?_ | refine AL.skip ?_ | refine AL.blk ?_)
    refine AL.loopT (stSz c nb box tok nt) (fun i => i ≤ c.kids.length) (fun i => c.kids.length - i) 0 (Nat.zero_le _) (Weaks.mk (Nat.le_refl _) rfl (by simp [ToL, lk, measK_zero]) (by simp [BoxL, lk])) ?_
    rintro i S hi hS
    simp only [stSz] at hS
    subst hS
    have hw : IntKind.i64.wrap (↑i + 1) = ((i + 1 : Nat) : Int) := by rw [wrap_in (by omega) (by omega)]; rfl
    repeat (first | refine AL.seq ?_ | refine AL.block ?_ | refine AL.skip ?_ | refine AL.blk ?_)
    refine AL.region follows_Tryz (Nat.le_refl _) (by kernel_rfl) ?_
    simp
    repeat (first | refine AL.seq ?_ | refine AL.block ?_ | refine AL.skip ?_ | refine AL.blk ?_)
    refine AL.cond ?_
    simp
    refine ⟨fun hlt => ?_, fun hge => ?_⟩
    · have hS := measK_succ c.kids hlt
      have ihx := ih _ (List.getElem_mem hlt)
      repeat (first | refine AL.seq ?_ | refine AL.block ?_ | refine AL.skip ?_ | refine AL.blk ?_)
      refine AL.region follows_Tryz (Nat.le_refl _) (by kernel_rfl) ?_
      simp [hlt, Cd.cells_eq]
      generalize c.kids[i] = x at *
      refine Stop.of_d (ihx _ _) ?_
      simp
      try (simp [hw])
      repeat ((repeat (first | refine AL.seq ?_ | refine AL.block ?_ | refine AL.skip ?_ | refine AL.blk ?_)); (refine AL.region follows_Tryz (Nat.le_refl _) (by kernel_rfl) ?_); simp [hw])
      repeat (first | refine AL.seq ?_ | refine AL.block ?_ | refine AL.skip ?_ | refine AL.blk ?_)
      refine AL.nil ?_
      exact ⟨i + 1, hlt, by omega, Weaks.mk (Nat.le_refl _) rfl (by simp [ToL, lk, hS]) (by simp [BoxL, lk])⟩
    · repeat (first | refine AL.seq ?_ | refine AL.block ?_ | refine AL.skip ?_ | refine AL.blk ?_)
      refine AL.exit ?_
      simp only [AU, ↓reduceIte]
      have : i = c.kids.length := by omega
      subst this
      try (simp)
      repeat ((repeat (first | refine AL.seq ?_ | refine AL.block ?_ | refine AL.skip ?_ | refine AL.blk ?_)); (refine AL.region follows_Tryz (Nat.le_refl _) (by kernel_rfl) ?_); simp)
      by_cases h5 : c.kind = 5
      · have hb5 : (c.kind == 5) = true := by simp [h5]
        simp only [hb5]
        repeat (first | refine AL.seq ?_ | refine AL.block ?_ | refine AL.skip ?_ | refine AL.blk ?_)
        refine AL.cond ?_
        simp
        try (simp)
        repeat ((repeat (first | refine AL.seq ?_ | refine AL.block ?_ | refine AL.skip ?_ | refine AL.blk ?_)); (refine AL.region follows_Tryz (Nat.le_refl _) (by kernel_rfl) ?_); simp)
        repeat (first | refine AL.seq ?_ | refine AL.block ?_ | refine AL.skip ?_ | refine AL.blk ?_)
        refine AL.ret ?_
        try simp only [AU]
        refine ⟨by simp, Fin.data (by simp [resAs, resA]; rfl) hbox rfl htok (fun _ h => h) (Nat.le_refl _) ?_⟩
        simp [packA, hR, h5]
      · have hb5 : (c.kind == 5) = false := by simp [h5]
        simp only [hb5]
        repeat (first | refine AL.seq ?_ | refine AL.block ?_ | refine AL.skip ?_ | refine AL.blk ?_)
        refine AL.cond ?_
        simp
        try (simp)
        repeat ((repeat (first | refine AL.seq ?_ | refine AL.block ?_ | refine AL.skip ?_ | refine AL.blk ?_)); (refine AL.region follows_Tryz (Nat.le_refl _) (by kernel_rfl) ?_); simp)
        repeat (first | refine AL.seq ?_ | refine AL.block ?_ | refine AL.skip ?_ | refine AL.blk ?_)
        refine AL.ret ?_
        try simp only [AU]
        refine ⟨by simp, Fin.data (by simp [resAs, resA]; rfl) hbox rfl htok (fun _ h => h) (Nat.le_refl _) ?_⟩
        simp [packA, hR, h5]

theorem large32_c (c : Cd) (hb : c.Big) (tok : Nat → Bool) (nt : Nat) : DCall Tryz.prog 35 [c.av] tok nt (I (smallC c)) tok nt := by
  intro box nb
  have hm := size25_c _ c (Nat.lt_succ_self _) hb
  unfold smallC
  generalize c.meas = q at *
  refine ACalls.of_body Tryz.func35 rfl (by kernel_rfl) follows_Tryz (by kernel_rfl) (by simp [Tryz.ntmps35]) ?_
  intro hbox htok
  simp only at hbox htok
  apply AL.start
  try (simp)
  repeat ((repeat (first | refine AL.seq ?_ | refine AL.block ?_ | refine AL.skip ?_ | refine AL.blk ?_)); (refine AL.region follows_Tryz (Nat.le_refl _) (by kernel_rfl) ?_); simp)
  refine Stop.of_d (hm _ _) ?_
  simp
  try (simp)
  repeat ((repeat (first | refine AL.seq ?_ | refine AL.block ?_ | refine AL.skip ?_ | refine AL.blk ?_)); (refine AL.region follows_Tryz (Nat.le_refl _) (by kernel_rfl) ?_); simp)
  by_cases h1 : 2000 < q.1
  · simp [h1]
    try (simp)
    repeat ((repeat (first | refine AL.seq ?_ | refine AL.block ?_ | refine AL.skip ?_ | refine AL.blk ?_)); (refine AL.region follows_Tryz (Nat.le_refl _) (by kernel_rfl) ?_); simp)
    repeat (first | refine AL.seq ?_ | refine AL.block ?_ | refine AL.skip ?_ | refine AL.blk ?_)
    refine AL.cond ?_
    simp
    try (simp)
    repeat ((repeat (first | refine AL.seq ?_ | refine AL.block ?_ | refine AL.skip ?_ | refine AL.blk ?_)); (refine AL.region follows_Tryz (Nat.le_refl _) (by kernel_rfl) ?_); simp)
    repeat (first | refine AL.seq ?_ | refine AL.block ?_ | refine AL.skip ?_ | refine AL.blk ?_)
    refine AL.ret ?_
    try simp only [AU]
    refine ⟨by simp, Fin.data (by simp [resAs, resA]; rfl) hbox rfl htok (fun _ h => h) (Nat.le_refl _) ?_⟩
    simp [packA, h1]
  · by_cases h2 : 3 < q.2
    · simp [h1, h2]
      try (simp)
      repeat ((repeat (first | refine AL.seq ?_ | refine AL.block ?_ | refine AL.skip ?_ | refine AL.blk ?_)); (refine AL.region follows_Tryz (Nat.le_refl _) (by kernel_rfl) ?_); simp)
      repeat (first | refine AL.seq ?_ | refine AL.block ?_ | refine AL.skip ?_ | refine AL.blk ?_)
      refine AL.cond ?_
      simp
      try (simp)
      repeat ((repeat (first | refine AL.seq ?_ | refine AL.block ?_ | refine AL.skip ?_ | refine AL.blk ?_)); (refine AL.region follows_Tryz (Nat.le_refl _) (by kernel_rfl) ?_); simp)
      repeat (first | refine AL.seq ?_ | refine AL.block ?_ | refine AL.skip ?_ | refine AL.blk ?_)
      refine AL.ret ?_
      try simp only [AU]
      refine ⟨by simp, Fin.data (by simp [resAs, resA]; rfl) hbox rfl htok (fun _ h => h) (Nat.le_refl _) ?_⟩
      simp [packA, h1, h2]
    · simp [h1, h2]
      try (simp)
      repeat ((repeat (first | refine AL.seq ?_ | refine AL.block ?_ | refine AL.skip ?_ | refine AL.blk ?_)); (refine AL.region follows_Tryz (Nat.le_refl _) (by kernel_rfl) ?_); simp)
      repeat (first | refine AL.seq ?_ | refine AL.block ?_ | refine AL.skip ?_ | refine AL.blk ?_)
      refine AL.cond ?_
      simp
      try (simp)
      repeat ((repeat (first | refine AL.seq ?_ | refine AL.block ?_ | refine AL.skip ?_ | refine AL.blk ?_)); (refine AL.region follows_Tryz (Nat.le_refl _) (by kernel_rfl) ?_); simp)
      repeat (first | refine AL.seq ?_ | refine AL.block ?_ | refine AL.skip ?_ | refine AL.blk ?_)
      refine AL.ret ?_
      try simp only [AU]
      refine ⟨by simp, Fin.data (by simp [resAs, resA]; rfl) hbox rfl htok (fun _ h => h) (Nat.le_refl _) ?_⟩
      simp [packA, h1, h2]

theorem unused_plain {c : Cd} (h : unusedC c = true) : plainC c = true := by
  simp only [unusedC, Bool.and_eq_true] at h
  exact h.2.2.2.2

theorem shape48_c (c : Cd) (hb : c.Big) (tok : Nat → Bool) (nt : Nat) : DCall Tryz.prog 68 [c.av] tok nt (I (shapeC c)) tok nt := by
  intro box nb
  have hba := bare_c c hb
  refine ACalls.of_body Tryz.func68 rfl (by kernel_rfl) follows_Tryz (by kernel_rfl) (by simp [Tryz.ntmps68]) ?_
  intro hbox htok
  simp only at hbox htok
  apply AL.start
  try (simp)
  repeat ((repeat (first | refine AL.seq ?_ | refine AL.block ?_ | refine AL.skip ?_ | refine AL.blk ?_)); (refine AL.region follows_Tryz (Nat.le_refl _) (by kernel_rfl) ?_); simp)
  have hpl := fun h => unused_plain (c := c) h
  by_cases k1 : c.kind = 1
  · have b1 : (c.kind == 1) = true := by simp [k1]
    simp only [b1]
    repeat (first | refine AL.seq ?_ | refine AL.block ?_ | refine AL.skip ?_ | refine AL.blk ?_)
    refine AL.cond ?_
    simp
    by_cases h1 : 0 < c.kids.length
    · have hk0 : c.kids ≠ [] := by intro e; simp [e] at h1
      try (simp [h1])
      repeat ((repeat (first | refine AL.seq ?_ | refine AL.block ?_ | refine AL.skip ?_ | refine AL.blk ?_)); (refine AL.region follows_Tryz (Nat.le_refl _) (by kernel_rfl) ?_); simp [h1])
      repeat (first | refine AL.seq ?_ | refine AL.block ?_ | refine AL.skip ?_ | refine AL.blk ?_)
      refine AL.cond ?_
      simp
      try (simp)
      repeat ((repeat (first | refine AL.seq ?_ | refine AL.block ?_ | refine AL.skip ?_ | refine AL.blk ?_)); (refine AL.region follows_Tryz (Nat.le_refl _) (by kernel_rfl) ?_); simp)
      repeat (first | refine AL.seq ?_ | refine AL.block ?_ | refine AL.skip ?_ | refine AL.blk ?_)
      refine AL.ret ?_
      try simp only [AU]
      refine ⟨by simp, Fin.data (by simp [resAs, resA]; rfl) hbox rfl htok (fun _ h => h) (Nat.le_refl _) ?_⟩
      simp [packA, shapeC, okC, k1, h1, z0, hk0]
    · have hk0 : c.kids = [] := by simpa using h1
      try (simp [h1])
      repeat ((repeat (first | refine AL.seq ?_ | refine AL.block ?_ | refine AL.skip ?_ | refine AL.blk ?_)); (refine AL.region follows_Tryz (Nat.le_refl _) (by kernel_rfl) ?_); simp [h1])
      refine Stop.of_d (hba _ _) ?_
      simp
      try (simp)
      repeat ((repeat (first | refine AL.seq ?_ | refine AL.block ?_ | refine AL.skip ?_ | refine AL.blk ?_)); (refine AL.region follows_Tryz (Nat.le_refl _) (by kernel_rfl) ?_); simp)
      cases hu : unusedC c
      · repeat (first | refine AL.seq ?_ | refine AL.block ?_ | refine AL.skip ?_ | refine AL.blk ?_)
        refine AL.cond ?_
        simp
        try (simp)
        repeat ((repeat (first | refine AL.seq ?_ | refine AL.block ?_ | refine AL.skip ?_ | refine AL.blk ?_)); (refine AL.region follows_Tryz (Nat.le_refl _) (by kernel_rfl) ?_); simp)
        repeat (first | refine AL.seq ?_ | refine AL.block ?_ | refine AL.skip ?_ | refine AL.blk ?_)
        refine AL.ret ?_
        try simp only [AU]
        refine ⟨by simp, Fin.data (by simp [resAs, resA]; rfl) hbox rfl htok (fun _ h => h) (Nat.le_refl _) ?_⟩
        simp [packA, shapeC, okC, k1, h1, z0, hk0, hu]
      · repeat (first | refine AL.seq ?_ | refine AL.block ?_ | refine AL.skip ?_ | refine AL.blk ?_)
        refine AL.cond ?_
        simp
        try (simp)
        repeat ((repeat (first | refine AL.seq ?_ | refine AL.block ?_ | refine AL.skip ?_ | refine AL.blk ?_)); (refine AL.region follows_Tryz (Nat.le_refl _) (by kernel_rfl) ?_); simp)
        repeat (first | refine AL.seq ?_ | refine AL.block ?_ | refine AL.skip ?_ | refine AL.blk ?_)
        refine AL.ret ?_
        try simp only [AU]
        refine ⟨by simp, Fin.data (by simp [resAs, resA]; rfl) hbox rfl htok (fun _ h => h) (Nat.le_refl _) ?_⟩
        simp [packA, shapeC, okC, k1, h1, z0, hk0, hu, hpl hu]
  · have b1 : (c.kind == 1) = false := by simp [k1]
    simp only [b1]
    repeat (first | refine AL.seq ?_ | refine AL.block ?_ | refine AL.skip ?_ | refine AL.blk ?_)
    refine AL.cond ?_
    simp
    try (simp)
    repeat ((repeat (first | refine AL.seq ?_ | refine AL.block ?_ | refine AL.skip ?_ | refine AL.blk ?_)); (refine AL.region follows_Tryz (Nat.le_refl _) (by kernel_rfl) ?_); simp)
    by_cases k2 : c.kind = 2
    · have b2 : (c.kind == 2) = true := by simp [k2]
      simp only [b2]
      repeat (first | refine AL.seq ?_ | refine AL.block ?_ | refine AL.skip ?_ | refine AL.blk ?_)
      refine AL.cond ?_
      simp
      by_cases h1 : (c.kids.length : Int) = 1
      · have n1 : ((c.kids.length : Int) != 1) = false := by simp [h1]
        try (simp [n1])
        repeat ((repeat (first | refine AL.seq ?_ | refine AL.block ?_ | refine AL.skip ?_ | refine AL.blk ?_)); (refine AL.region follows_Tryz (Nat.le_refl _) (by kernel_rfl) ?_); simp [n1])
        refine Stop.of_d (hba _ _) ?_
        simp
        try (simp)
        repeat ((repeat (first | refine AL.seq ?_ | refine AL.block ?_ | refine AL.skip ?_ | refine AL.blk ?_)); (refine AL.region follows_Tryz (Nat.le_refl _) (by kernel_rfl) ?_); simp)
        cases hu : unusedC c
        · repeat (first | refine AL.seq ?_ | refine AL.block ?_ | refine AL.skip ?_ | refine AL.blk ?_)
          refine AL.cond ?_
          simp
          try (simp)
          repeat ((repeat (first | refine AL.seq ?_ | refine AL.block ?_ | refine AL.skip ?_ | refine AL.blk ?_)); (refine AL.region follows_Tryz (Nat.le_refl _) (by kernel_rfl) ?_); simp)
          repeat (first | refine AL.seq ?_ | refine AL.block ?_ | refine AL.skip ?_ | refine AL.blk ?_)
          refine AL.ret ?_
          try simp only [AU]
          refine ⟨by simp, Fin.data (by simp [resAs, resA]; rfl) hbox rfl htok (fun _ h => h) (Nat.le_refl _) ?_⟩
          simp [packA, shapeC, okC, k2, h1, z0, hu]
        · repeat (first | refine AL.seq ?_ | refine AL.block ?_ | refine AL.skip ?_ | refine AL.blk ?_)
          refine AL.cond ?_
          simp
          try (simp)
          repeat ((repeat (first | refine AL.seq ?_ | refine AL.block ?_ | refine AL.skip ?_ | refine AL.blk ?_)); (refine AL.region follows_Tryz (Nat.le_refl _) (by kernel_rfl) ?_); simp)
          repeat (first | refine AL.seq ?_ | refine AL.block ?_ | refine AL.skip ?_ | refine AL.blk ?_)
          refine AL.ret ?_
          try simp only [AU]
          refine ⟨by simp, Fin.data (by simp [resAs, resA]; rfl) hbox rfl htok (fun _ h => h) (Nat.le_refl _) ?_⟩
          simp [packA, shapeC, okC, k2, h1, z0, hu, hpl hu]
      · have n1 : ((c.kids.length : Int) != 1) = true := by simp [h1]
        try (simp [n1])
        repeat ((repeat (first | refine AL.seq ?_ | refine AL.block ?_ | refine AL.skip ?_ | refine AL.blk ?_)); (refine AL.region follows_Tryz (Nat.le_refl _) (by kernel_rfl) ?_); simp [n1])
        repeat (first | refine AL.seq ?_ | refine AL.block ?_ | refine AL.skip ?_ | refine AL.blk ?_)
        refine AL.cond ?_
        simp
        try (simp)
        repeat ((repeat (first | refine AL.seq ?_ | refine AL.block ?_ | refine AL.skip ?_ | refine AL.blk ?_)); (refine AL.region follows_Tryz (Nat.le_refl _) (by kernel_rfl) ?_); simp)
        repeat (first | refine AL.seq ?_ | refine AL.block ?_ | refine AL.skip ?_ | refine AL.blk ?_)
        refine AL.ret ?_
        try simp only [AU]
        refine ⟨by simp, Fin.data (by simp [resAs, resA]; rfl) hbox rfl htok (fun _ h => h) (Nat.le_refl _) ?_⟩
        simp [packA, shapeC, okC, k2, h1, z0]
    · have b2 : (c.kind == 2) = false := by simp [k2]
      simp only [b2]
      repeat (first | refine AL.seq ?_ | refine AL.block ?_ | refine AL.skip ?_ | refine AL.blk ?_)
      refine AL.cond ?_
      simp
      try (simp)
      repeat ((repeat (first | refine AL.seq ?_ | refine AL.block ?_ | refine AL.skip ?_ | refine AL.blk ?_)); (refine AL.region follows_Tryz (Nat.le_refl _) (by kernel_rfl) ?_); simp)
      refine AL.mid ⟨tl [(27, B (decide (c.kind = 3 ∨ c.kind = 4))), (8, I c.kind), (3, I c.kids.length), (1, .ptr (nb + 1) 0 0), (2, I 0)], lb nb box [(1, [c.row])], tok, nt⟩ ?_ ?_
      · by_cases k3 : c.kind = 3
        · have b3 : (c.kind == 3) = true := by simp [k3]
          simp only [b3]
          repeat (first | refine AL.seq ?_ | refine AL.block ?_ | refine AL.skip ?_ | refine AL.blk ?_)
          refine AL.cond ?_
          simp
          try (simp)
          repeat ((repeat (first | refine AL.seq ?_ | refine AL.block ?_ | refine AL.skip ?_ | refine AL.blk ?_)); (refine AL.region follows_Tryz (Nat.le_refl _) (by kernel_rfl) ?_); simp)
          repeat (first | refine AL.seq ?_ | refine AL.block ?_ | refine AL.skip ?_ | refine AL.blk ?_)
          refine AL.nil ?_
          exact Weaks.mk (Nat.le_refl _) rfl (by simp [ToL, lk, k3]) (by simp [BoxL, lk])
        · have b3 : (c.kind == 3) = false := by simp [k3]
          simp only [b3]
          repeat (first | refine AL.seq ?_ | refine AL.block ?_ | refine AL.skip ?_ | refine AL.blk ?_)
          refine AL.cond ?_
          simp
          try (simp)
          repeat ((repeat (first | refine AL.seq ?_ | refine AL.block ?_ | refine AL.skip ?_ | refine AL.blk ?_)); (refine AL.region follows_Tryz (Nat.le_refl _) (by kernel_rfl) ?_); simp)
          by_cases k4 : c.kind = 4
          · try (simp)
            repeat ((repeat (first | refine AL.seq ?_ | refine AL.block ?_ | refine AL.skip ?_ | refine AL.blk ?_)); (refine AL.region follows_Tryz (Nat.le_refl _) (by kernel_rfl) ?_); simp)
            repeat (first | refine AL.seq ?_ | refine AL.block ?_ | refine AL.skip ?_ | refine AL.blk ?_)
            refine AL.nil ?_
            exact Weaks.mk (Nat.le_refl _) rfl (by simp [ToL, lk, k4]) (by simp [BoxL, lk])
          · have n4 : (c.kind == 4) = false := by simp [k4]
            try (simp)
            repeat ((repeat (first | refine AL.seq ?_ | refine AL.block ?_ | refine AL.skip ?_ | refine AL.blk ?_)); (refine AL.region follows_Tryz (Nat.le_refl _) (by kernel_rfl) ?_); simp)
            repeat (first | refine AL.seq ?_ | refine AL.block ?_ | refine AL.skip ?_ | refine AL.blk ?_)
            refine AL.nil ?_
            exact Weaks.mk (Nat.le_refl _) rfl (by simp [ToL, lk, k3, k4, n4]) (by simp [BoxL, lk])
      · by_cases k34 : c.kind = 3 ∨ c.kind = 4
        · have d34 : decide (c.kind = 3 ∨ c.kind = 4) = true := decide_eq_true k34
          simp only [d34]
          repeat (first | refine AL.seq ?_ | refine AL.block ?_ | refine AL.skip ?_ | refine AL.blk ?_)
          refine AL.cond ?_
          simp
          by_cases h1 : c.kids.length = 0
          · have n1 : ((c.kids.length : Int) == 0) = true := by simp [h1]
            have hk0 : c.kids = [] := by simpa using h1
            try (simp [n1, h1])
            repeat ((repeat (first | refine AL.seq ?_ | refine AL.block ?_ | refine AL.skip ?_ | refine AL.blk ?_)); (refine AL.region follows_Tryz (Nat.le_refl _) (by kernel_rfl) ?_); simp [n1, h1])
            repeat (first | refine AL.seq ?_ | refine AL.block ?_ | refine AL.skip ?_ | refine AL.blk ?_)
            refine AL.cond ?_
            simp
            try (simp)
            repeat ((repeat (first | refine AL.seq ?_ | refine AL.block ?_ | refine AL.skip ?_ | refine AL.blk ?_)); (refine AL.region follows_Tryz (Nat.le_refl _) (by kernel_rfl) ?_); simp)
            repeat (first | refine AL.seq ?_ | refine AL.block ?_ | refine AL.skip ?_ | refine AL.blk ?_)
            refine AL.ret ?_
            try simp only [AU]
            refine ⟨by simp, Fin.data (by simp [resAs, resA]; rfl) hbox rfl htok (fun _ h => h) (Nat.le_refl _) ?_⟩
            simp [packA, shapeC, okC, k1, k2, k34, h1]
          · have n1 : ((c.kids.length : Int) == 0) = false := by simp [h1]
            have hk0 : c.kids ≠ [] := by intro e; simp [e] at h1
            have hk1 : 0 < c.kids.length := by omega
            try (simp [n1, hk0])
            repeat ((repeat (first | refine AL.seq ?_ | refine AL.block ?_ | refine AL.skip ?_ | refine AL.blk ?_)); (refine AL.region follows_Tryz (Nat.le_refl _) (by kernel_rfl) ?_); simp [n1, hk0])
            refine Stop.of_d (hba _ _) ?_
            simp
            try (simp)
            repeat ((repeat (first | refine AL.seq ?_ | refine AL.block ?_ | refine AL.skip ?_ | refine AL.blk ?_)); (refine AL.region follows_Tryz (Nat.le_refl _) (by kernel_rfl) ?_); simp)
            cases hu : unusedC c
            · repeat (first | refine AL.seq ?_ | refine AL.block ?_ | refine AL.skip ?_ | refine AL.blk ?_)
              refine AL.cond ?_
              simp
              try (simp)
              repeat ((repeat (first | refine AL.seq ?_ | refine AL.block ?_ | refine AL.skip ?_ | refine AL.blk ?_)); (refine AL.region follows_Tryz (Nat.le_refl _) (by kernel_rfl) ?_); simp)
              repeat (first | refine AL.seq ?_ | refine AL.block ?_ | refine AL.skip ?_ | refine AL.blk ?_)
              refine AL.ret ?_
              try simp only [AU]
              refine ⟨by simp, Fin.data (by simp [resAs, resA]; rfl) hbox rfl htok (fun _ h => h) (Nat.le_refl _) ?_⟩
              simp [packA, shapeC, okC, k1, k2, k34, hk1, hu]
            · repeat (first | refine AL.seq ?_ | refine AL.block ?_ | refine AL.skip ?_ | refine AL.blk ?_)
              refine AL.cond ?_
              simp
              try (simp)
              repeat ((repeat (first | refine AL.seq ?_ | refine AL.block ?_ | refine AL.skip ?_ | refine AL.blk ?_)); (refine AL.region follows_Tryz (Nat.le_refl _) (by kernel_rfl) ?_); simp)
              repeat (first | refine AL.seq ?_ | refine AL.block ?_ | refine AL.skip ?_ | refine AL.blk ?_)
              refine AL.ret ?_
              try simp only [AU]
              refine ⟨by simp, Fin.data (by simp [resAs, resA]; rfl) hbox rfl htok (fun _ h => h) (Nat.le_refl _) ?_⟩
              simp [packA, shapeC, okC, k1, k2, k34, hk1, hu, hpl hu]
        · have d34 : decide (c.kind = 3 ∨ c.kind = 4) = false := decide_eq_false k34
          simp only [d34]
          repeat (first | refine AL.seq ?_ | refine AL.block ?_ | refine AL.skip ?_ | refine AL.blk ?_)
          refine AL.cond ?_
          simp
          try (simp)
          repeat ((repeat (first | refine AL.seq ?_ | refine AL.block ?_ | refine AL.skip ?_ | refine AL.blk ?_)); (refine AL.region follows_Tryz (Nat.le_refl _) (by kernel_rfl) ?_); simp)
          by_cases k5 : c.kind = 5
          · have n5 : (c.kind == 5) = true := by simp [k5]
            have h3 : ¬ ((5 : Int) = 3 ∨ (5 : Int) = 4) := by decide
            simp only [n5]
            repeat (first | refine AL.seq ?_ | refine AL.block ?_ | refine AL.skip ?_ | refine AL.blk ?_)
            refine AL.cond ?_
            simp
            try (simp)
            repeat ((repeat (first | refine AL.seq ?_ | refine AL.block ?_ | refine AL.skip ?_ | refine AL.blk ?_)); (refine AL.region follows_Tryz (Nat.le_refl _) (by kernel_rfl) ?_); simp)
            by_cases h1 : (c.kids.length : Int) = 1
            · have n1 : ((c.kids.length : Int) != 1) = false := by simp [h1]
              simp only [n1]
              repeat (first | refine AL.seq ?_ | refine AL.block ?_ | refine AL.skip ?_ | refine AL.blk ?_)
              refine AL.cond ?_
              simp
              by_cases h4 : 0 < c.sl.length
              · have hp : plainC c = false := by simp [plainC, z0]; intro e; simp [e] at h4
                try (simp [h4])
                repeat ((repeat (first | refine AL.seq ?_ | refine AL.block ?_ | refine AL.skip ?_ | refine AL.blk ?_)); (refine AL.region follows_Tryz (Nat.le_refl _) (by kernel_rfl) ?_); simp [h4])
                repeat (first | refine AL.seq ?_ | refine AL.block ?_ | refine AL.skip ?_ | refine AL.blk ?_)
                refine AL.cond ?_
                simp
                try (simp)
                repeat ((repeat (first | refine AL.seq ?_ | refine AL.block ?_ | refine AL.skip ?_ | refine AL.blk ?_)); (refine AL.region follows_Tryz (Nat.le_refl _) (by kernel_rfl) ?_); simp)
                repeat (first | refine AL.seq ?_ | refine AL.block ?_ | refine AL.skip ?_ | refine AL.blk ?_)
                refine AL.ret ?_
                try simp only [AU]
                refine ⟨by simp, Fin.data (by simp [resAs, resA]; rfl) hbox rfl htok (fun _ h => h) (Nat.le_refl _) ?_⟩
                simp [packA, shapeC, okC, k5, h1, hp]
              · have h4' : c.sl = [] := by simpa using h4
                by_cases h5 : c.vars = 0
                · by_cases h6 : 0 < c.te.length
                  · have hp : plainC c = false := by simp [plainC, z0]; intro _ _ e; simp [e] at h6
                    try (simp [h4, h5, h6])
                    repeat ((repeat (first | refine AL.seq ?_ | refine AL.block ?_ | refine AL.skip ?_ | refine AL.blk ?_)); (refine AL.region follows_Tryz (Nat.le_refl _) (by kernel_rfl) ?_); simp [h4, h5, h6])
                    repeat (first | refine AL.seq ?_ | refine AL.block ?_ | refine AL.skip ?_ | refine AL.blk ?_)
                    refine AL.cond ?_
                    simp
                    try (simp)
                    repeat ((repeat (first | refine AL.seq ?_ | refine AL.block ?_ | refine AL.skip ?_ | refine AL.blk ?_)); (refine AL.region follows_Tryz (Nat.le_refl _) (by kernel_rfl) ?_); simp)
                    repeat (first | refine AL.seq ?_ | refine AL.block ?_ | refine AL.skip ?_ | refine AL.blk ?_)
                    refine AL.ret ?_
                    try simp only [AU]
                    refine ⟨by simp, Fin.data (by simp [resAs, resA]; rfl) hbox rfl htok (fun _ h => h) (Nat.le_refl _) ?_⟩
                    simp [packA, shapeC, okC, k5, h1, hp]
                  · have h6' : c.te = [] := by simpa using h6
                    have hp : plainC c = true := by simp [plainC, z0, h4', h5, h6']
                    try (simp [h4, h5, h6])
                    repeat ((repeat (first | refine AL.seq ?_ | refine AL.block ?_ | refine AL.skip ?_ | refine AL.blk ?_)); (refine AL.region follows_Tryz (Nat.le_refl _) (by kernel_rfl) ?_); simp [h4, h5, h6])
                    repeat (first | refine AL.seq ?_ | refine AL.block ?_ | refine AL.skip ?_ | refine AL.blk ?_)
                    refine AL.cond ?_
                    simp
                    try (simp)
                    repeat ((repeat (first | refine AL.seq ?_ | refine AL.block ?_ | refine AL.skip ?_ | refine AL.blk ?_)); (refine AL.region follows_Tryz (Nat.le_refl _) (by kernel_rfl) ?_); simp)
                    repeat (first | refine AL.seq ?_ | refine AL.block ?_ | refine AL.skip ?_ | refine AL.blk ?_)
                    refine AL.ret ?_
                    try simp only [AU]
                    refine ⟨by simp, Fin.data (by simp [resAs, resA]; rfl) hbox rfl htok (fun _ h => h) (Nat.le_refl _) ?_⟩
                    simp [packA, shapeC, okC, k5, h1, hp]
                · have hp : plainC c = false := by simp [plainC, z0, h5]
                  have n7 : (c.vars != 0) = true := by simp [h5]
                  try (simp [h4, n7])
                  repeat ((repeat (first | refine AL.seq ?_ | refine AL.block ?_ | refine AL.skip ?_ | refine AL.blk ?_)); (refine AL.region follows_Tryz (Nat.le_refl _) (by kernel_rfl) ?_); simp [h4, n7])
                  repeat (first | refine AL.seq ?_ | refine AL.block ?_ | refine AL.skip ?_ | refine AL.blk ?_)
                  refine AL.cond ?_
                  simp
                  try (simp)
                  repeat ((repeat (first | refine AL.seq ?_ | refine AL.block ?_ | refine AL.skip ?_ | refine AL.blk ?_)); (refine AL.region follows_Tryz (Nat.le_refl _) (by kernel_rfl) ?_); simp)
                  repeat (first | refine AL.seq ?_ | refine AL.block ?_ | refine AL.skip ?_ | refine AL.blk ?_)
                  refine AL.ret ?_
                  try simp only [AU]
                  refine ⟨by simp, Fin.data (by simp [resAs, resA]; rfl) hbox rfl htok (fun _ h => h) (Nat.le_refl _) ?_⟩
                  simp [packA, shapeC, okC, k5, h1, hp]
            · have n1 : ((c.kids.length : Int) != 1) = true := by simp [h1]
              simp only [n1]
              repeat (first | refine AL.seq ?_ | refine AL.block ?_ | refine AL.skip ?_ | refine AL.blk ?_)
              refine AL.cond ?_
              simp
              try (simp)
              repeat ((repeat (first | refine AL.seq ?_ | refine AL.block ?_ | refine AL.skip ?_ | refine AL.blk ?_)); (refine AL.region follows_Tryz (Nat.le_refl _) (by kernel_rfl) ?_); simp)
              repeat (first | refine AL.seq ?_ | refine AL.block ?_ | refine AL.skip ?_ | refine AL.blk ?_)
              refine AL.ret ?_
              try simp only [AU]
              refine ⟨by simp, Fin.data (by simp [resAs, resA]; rfl) hbox rfl htok (fun _ h => h) (Nat.le_refl _) ?_⟩
              simp [packA, shapeC, okC, k5, h1]
          · have n5 : (c.kind == 5) = false := by simp [k5]
            simp only [n5]
            repeat (first | refine AL.seq ?_ | refine AL.block ?_ | refine AL.skip ?_ | refine AL.blk ?_)
            refine AL.cond ?_
            simp
            try (simp)
            repeat ((repeat (first | refine AL.seq ?_ | refine AL.block ?_ | refine AL.skip ?_ | refine AL.blk ?_)); (refine AL.region follows_Tryz (Nat.le_refl _) (by kernel_rfl) ?_); simp)
            repeat (first | refine AL.seq ?_ | refine AL.block ?_ | refine AL.skip ?_ | refine AL.blk ?_)
            refine AL.ret ?_
            try simp only [AU]
            refine ⟨by simp, Fin.data (by simp [resAs, resA]; rfl) hbox rfl htok (fun _ h => h) (Nat.le_refl _) ?_⟩
            simp [packA, shapeC, okC, k1, k2, k34, k5]

end Go.AM
/-
  The reference's over, Valid, fits, Light.
-/
namespace Go.AM
open Go Go.Proofs
set_option linter.unusedSimpArgs false
set_option linter.unusedVariables false

def stO6 (a : Gr) (c : Cd) (nb : Nat) (box : Nat → Option (List (List AV))) (tok : Nat → Bool) (nt : Nat) (i : Nat) : AState :=
  ⟨tl [(7, I i), (2, .ptr (nb + 2) 0 0), (3, .ptr (nb + 3) 0 0)], lb nb box [(2, [a.cells2]), (3, [c.row])], tok, nt⟩

theorem shape_kind {c : Cd} (h : shapeC c = 0) (h5 : c.kind = 5) : c.kids.length = 1 := by
  unfold shapeC at h
  split at h
  · rename_i hk
    simp [okC, h5] at hk
    omega
  · omega
theorem errL_one {f : Cd → Int} {l : List Cd} (h : l.length = 1) : errL f l = f (l[0]'(by omega)) := by
  match l, h with
  | [x], _ => simp only [errL]; split <;> simp_all

theorem over36_c : ∀ (n : Nat) (c : Cd), SizeOf.sizeOf c < n → c.Fit → ∀ (a : Gr), a.Fit → ∀ (tok : Nat → Bool) (nt : Nat), DCall Tryz.prog 43 [a.av, c.av] tok nt (I (c.ovr a)) tok nt
  | 0, c, hn, _, a, _, tok, nt => absurd hn (Nat.not_lt_zero _)
  | n + 1, c, hn, hb, a, ha, tok, nt => by
    intro box nb
    have ih := fun x (hx : x ∈ c.kids) => over36_c n x (by have := Cd.kid_lt hx; omega) (hb.kid x hx)
    have hkb := hb.kids
    rw [kidN_eq] at hkb
    have hR := c.ovr_eq a
    have hsh := shape48_c c hb.big
    have hva := valid53_c a c.g c.m ha hb.g
    have hin := injective26_c a c.g c.m ha hb.g hb.m
    have hg := hb.g
    refine ACalls.of_body Tryz.func43 rfl (by kernel_rfl) follows_Tryz (by kernel_rfl) (by simp [Tryz.ntmps43]) ?_
    intro hbox htok
    simp only at hbox htok
    apply AL.start
    try (simp)
    repeat ((repeat (first | refine AL.seq ?_ | refine AL.block ?_ | refine AL.skip ?_ | refine AL.blk ?_)); (refine AL.region follows_Tryz (Nat.le_refl _) (by kernel_rfl) ?_); simp)
    refine Stop.of_d (hsh _ _) ?_
    simp
    try (simp)
    repeat ((repeat (first | refine AL.seq ?_ | refine AL.block ?_ | refine AL.skip ?_ | refine AL.blk ?_)); (refine AL.region follows_Tryz (Nat.le_refl _) (by kernel_rfl) ?_); simp)
    by_cases h0 : shapeC c = 0
    · simp [h0]
      repeat (first | refine AL.seq ?_ | refine AL.block ?_ | refine AL.skip ?_ | refine AL.blk ?_)
      refine AL.cond ?_
      simp
      try (simp)
      repeat ((repeat (first | refine AL.seq ?_ | refine AL.block ?_ | refine AL.skip ?_ | refine AL.blk ?_)); (refine AL.region follows_Tryz (Nat.le_refl _) (by kernel_rfl) ?_); simp)
      have hst : ovrStep a c.kind c.m c.g = if c.kind = 5 then (if validM a c.g c.m ≠ 0 then validM a c.g c.m else if injM a c.g c.m = true then 0 else 1) else 0 := rfl
      by_cases k5 : c.kind = 5
      · have hii : c.inn a = c.g := if_pos k5
        have h1k := shape_kind h0 k5
        have hlt : 0 < c.kids.length := by omega
        rw [if_pos k5] at hst
        rw [hii, errL_one h1k] at hR
        have n5 : (c.kind == 5) = true := by simp [k5]
        simp only [n5]
        repeat (first | refine AL.seq ?_ | refine AL.block ?_ | refine AL.skip ?_ | refine AL.blk ?_)
        refine AL.cond ?_
        simp
        try (simp)
        repeat ((repeat (first | refine AL.seq ?_ | refine AL.block ?_ | refine AL.skip ?_ | refine AL.blk ?_)); (refine AL.region follows_Tryz (Nat.le_refl _) (by kernel_rfl) ?_); simp)
        refine Stop.of_d (hva _ _) ?_
        simp
        try (simp)
        repeat ((repeat (first | refine AL.seq ?_ | refine AL.block ?_ | refine AL.skip ?_ | refine AL.blk ?_)); (refine AL.region follows_Tryz (Nat.le_refl _) (by kernel_rfl) ?_); simp)
        by_cases h1 : validM a c.g c.m = 0
        · rw [if_neg (by simp [h1])] at hst
          simp [h1]
          repeat (first | refine AL.seq ?_ | refine AL.block ?_ | refine AL.skip ?_ | refine AL.blk ?_)
          refine AL.cond ?_
          simp
          try (simp)
          repeat ((repeat (first | refine AL.seq ?_ | refine AL.block ?_ | refine AL.skip ?_ | refine AL.blk ?_)); (refine AL.region follows_Tryz (Nat.le_refl _) (by kernel_rfl) ?_); simp)
          refine Stop.of_d (hin _ _) ?_
          simp
          try (simp)
          repeat ((repeat (first | refine AL.seq ?_ | refine AL.block ?_ | refine AL.skip ?_ | refine AL.blk ?_)); (refine AL.region follows_Tryz (Nat.le_refl _) (by kernel_rfl) ?_); simp)
          cases h2 : injM a c.g c.m
          · simp [h2] at hst
            repeat (first | refine AL.seq ?_ | refine AL.block ?_ | refine AL.skip ?_ | refine AL.blk ?_)
            refine AL.cond ?_
            simp
            try (simp)
            repeat ((repeat (first | refine AL.seq ?_ | refine AL.block ?_ | refine AL.skip ?_ | refine AL.blk ?_)); (refine AL.region follows_Tryz (Nat.le_refl _) (by kernel_rfl) ?_); simp)
            repeat (first | refine AL.seq ?_ | refine AL.block ?_ | refine AL.skip ?_ | refine AL.blk ?_)
            refine AL.ret ?_
            try simp only [AU]
            refine ⟨by simp, Fin.data (by simp [resAs, resA]; rfl) hbox rfl htok (fun _ h => h) (Nat.le_refl _) ?_⟩
            simp [packA, hR, h0, hst]
          · simp [h2] at hst
            have ihx := ih _ (List.getElem_mem hlt)
            repeat (first | refine AL.seq ?_ | refine AL.block ?_ | refine AL.skip ?_ | refine AL.blk ?_)
            refine AL.cond ?_
            simp
            try (simp [hlt, Cd.cells_eq])
            repeat ((repeat (first | refine AL.seq ?_ | refine AL.block ?_ | refine AL.skip ?_ | refine AL.blk ?_)); (refine AL.region follows_Tryz (Nat.le_refl _) (by kernel_rfl) ?_); simp [hlt, Cd.cells_eq])
            generalize c.kids[0] = x at *
            refine Stop.of_d (ihx _ hg _ _) ?_
            simp
            repeat (first | refine AL.seq ?_ | refine AL.block ?_ | refine AL.skip ?_ | refine AL.blk ?_)
            refine AL.ret ?_
            try simp only [AU]
            refine ⟨by simp, Fin.data (by simp [resAs, resA]; rfl) hbox rfl htok (fun _ h => h) (Nat.le_refl _) ?_⟩
            simp [packA, hR, h0, hst]
        · rw [if_pos (by simpa using h1)] at hst
          have b1 : (validM a c.g c.m != 0) = true := by simp [h1]
          simp only [b1]
          repeat (first | refine AL.seq ?_ | refine AL.block ?_ | refine AL.skip ?_ | refine AL.blk ?_)
          refine AL.cond ?_
          simp
          try (simp)
          repeat ((repeat (first | refine AL.seq ?_ | refine AL.block ?_ | refine AL.skip ?_ | refine AL.blk ?_)); (refine AL.region follows_Tryz (Nat.le_refl _) (by kernel_rfl) ?_); simp)
          repeat (first | refine AL.seq ?_ | refine AL.block ?_ | refine AL.skip ?_ | refine AL.blk ?_)
          refine AL.ret ?_
          try simp only [AU]
          refine ⟨by simp, Fin.data (by simp [resAs, resA]; rfl) hbox rfl htok (fun _ h => h) (Nat.le_refl _) ?_⟩
          simp [packA, hR, h0, hst, h1]
      · have hii : c.inn a = a := if_neg k5
        have n5 : (c.kind == 5) = false := by simp [k5]
        rw [if_neg k5] at hst
        rw [if_pos h0, if_pos hst, hii] at hR
        simp only [n5]
        repeat (first | refine AL.seq ?_ | refine AL.block ?_ | refine AL.skip ?_ | refine AL.blk ?_)
        refine AL.cond ?_
        simp
        try (simp)
        repeat ((repeat (first | refine AL.seq ?_ | refine AL.block ?_ | refine AL.skip ?_ | refine AL.blk ?_)); (refine AL.region follows_Tryz (Nat.le_refl _) (by kernel_rfl) ?_); simp)
        repeat (first | refine AL.seq ?_ | refine AL.block ?_ | refine AL.skip ?_ | refine AL.blk ?_)
        refine AL.loopT (stO6 a c nb box tok nt) (fun i => i ≤ c.kids.length ∧ ∀ x ∈ c.kids.take i, Cd.ovr x a = 0) (fun i => c.kids.length - i) 0 ⟨Nat.zero_le _, by simp⟩ (Weaks.mk (Nat.le_refl _) rfl (by simp [ToL, lk]) (by simp [BoxL, lk])) ?_
        rintro i S ⟨hi, hz⟩ hS
        simp only [stO6] at hS
        subst hS
        have hw : IntKind.i64.wrap (↑i + 1) = ((i + 1 : Nat) : Int) := by rw [wrap_in (by omega) (by omega)]; rfl
        try (simp)
        repeat ((repeat (first | refine AL.seq ?_ | refine AL.block ?_ | refine AL.skip ?_ | refine AL.blk ?_)); (refine AL.region follows_Tryz (Nat.le_refl _) (by kernel_rfl) ?_); simp)
        repeat (first | refine AL.seq ?_ | refine AL.block ?_ | refine AL.skip ?_ | refine AL.blk ?_)
        refine AL.cond ?_
        simp
        refine ⟨fun hlt => ?_, fun hge => ?_⟩
        · have ihx := ih _ (List.getElem_mem hlt)
          have hyes := errL_more (f := fun x => Cd.ovr x a) hlt hz
          have hno := errL_at (f := fun x => Cd.ovr x a) hlt hz
          try (simp [hlt, Cd.cells_eq])
          repeat ((repeat (first | refine AL.seq ?_ | refine AL.block ?_ | refine AL.skip ?_ | refine AL.blk ?_)); (refine AL.region follows_Tryz (Nat.le_refl _) (by kernel_rfl) ?_); simp [hlt, Cd.cells_eq])
          generalize c.kids[i] = x at *
          refine Stop.of_d (ihx _ ha _ _) ?_
          simp
          try (simp)
          repeat ((repeat (first | refine AL.seq ?_ | refine AL.block ?_ | refine AL.skip ?_ | refine AL.blk ?_)); (refine AL.region follows_Tryz (Nat.le_refl _) (by kernel_rfl) ?_); simp)
          by_cases h1 : x.ovr a = 0
          · simp only [h1]
            repeat (first | refine AL.seq ?_ | refine AL.block ?_ | refine AL.skip ?_ | refine AL.blk ?_)
            refine AL.cond ?_
            simp
            try (simp [hw])
            repeat ((repeat (first | refine AL.seq ?_ | refine AL.block ?_ | refine AL.skip ?_ | refine AL.blk ?_)); (refine AL.region follows_Tryz (Nat.le_refl _) (by kernel_rfl) ?_); simp [hw])
            repeat (first | refine AL.seq ?_ | refine AL.block ?_ | refine AL.skip ?_ | refine AL.blk ?_)
            refine AL.nil ?_
            exact ⟨i + 1, ⟨hlt, hyes h1⟩, by omega, Weaks.mk (Nat.le_refl _) rfl (by simp [ToL, lk]) (by simp [BoxL, lk])⟩
          · have b1 : (x.ovr a != 0) = true := by simp [h1]
            simp only [b1]
            repeat (first | refine AL.seq ?_ | refine AL.block ?_ | refine AL.skip ?_ | refine AL.blk ?_)
            refine AL.cond ?_
            simp
            try (simp)
            repeat ((repeat (first | refine AL.seq ?_ | refine AL.block ?_ | refine AL.skip ?_ | refine AL.blk ?_)); (refine AL.region follows_Tryz (Nat.le_refl _) (by kernel_rfl) ?_); simp)
            repeat (first | refine AL.seq ?_ | refine AL.block ?_ | refine AL.skip ?_ | refine AL.blk ?_)
            refine AL.ret ?_
            try simp only [AU]
            refine ⟨by simp, Fin.data (by simp [resAs, resA]; rfl) hbox rfl htok (fun _ h => h) (Nat.le_refl _) ?_⟩
            simp [packA, hR, hno h1]
        · repeat (first | refine AL.seq ?_ | refine AL.block ?_ | refine AL.skip ?_ | refine AL.blk ?_)
          refine AL.exit ?_
          simp only [AU, ↓reduceIte]
          rw [List.take_of_length_le hge] at hz
          try (simp)
          repeat ((repeat (first | refine AL.seq ?_ | refine AL.block ?_ | refine AL.skip ?_ | refine AL.blk ?_)); (refine AL.region follows_Tryz (Nat.le_refl _) (by kernel_rfl) ?_); simp)
          repeat (first | refine AL.seq ?_ | refine AL.block ?_ | refine AL.skip ?_ | refine AL.blk ?_)
          refine AL.ret ?_
          try simp only [AU]
          refine ⟨by simp, Fin.data (by simp [resAs, resA]; rfl) hbox rfl htok (fun _ h => h) (Nat.le_refl _) ?_⟩
          simp [packA, hR, errL_all (f := fun x => Cd.ovr x a) hz]
    · rw [if_neg h0] at hR
      have b0 : (shapeC c != 0) = true := by simp [h0]
      simp only [b0]
      repeat (first | refine AL.seq ?_ | refine AL.block ?_ | refine AL.skip ?_ | refine AL.blk ?_)
      refine AL.cond ?_
      simp
      try (simp)
      repeat ((repeat (first | refine AL.seq ?_ | refine AL.block ?_ | refine AL.skip ?_ | refine AL.blk ?_)); (refine AL.region follows_Tryz (Nat.le_refl _) (by kernel_rfl) ?_); simp)
      repeat (first | refine AL.seq ?_ | refine AL.block ?_ | refine AL.skip ?_ | refine AL.blk ?_)
      refine AL.ret ?_
      try simp only [AU]
      refine ⟨by simp, Fin.data (by simp [resAs, resA]; rfl) hbox rfl htok (fun _ h => h) (Nat.le_refl _) ?_⟩
      simp [packA, hR]

theorem validR_c (a : Gr) (c : Cd) (ha : a.Fit) (hb : c.Fit) (tok : Nat → Bool) (nt : Nat) : DCall Tryz.prog 24 [a.av, c.av] tok nt (I (validC a c)) tok nt := by
  intro box nb
  have hg := valid05_c a ha
  have ho := over36_c _ c (Nat.lt_succ_self _) hb a ha
  have hs := large32_c c hb.big
  refine ACalls.of_body Tryz.func24 rfl (by kernel_rfl) follows_Tryz (by kernel_rfl) (by simp [Tryz.ntmps24]) ?_
  intro hbox htok
  simp only at hbox htok
  apply AL.start
  try (simp)
  repeat ((repeat (first | refine AL.seq ?_ | refine AL.block ?_ | refine AL.skip ?_ | refine AL.blk ?_)); (refine AL.region follows_Tryz (Nat.le_refl _) (by kernel_rfl) ?_); simp)
  refine Stop.of_d (hg _ _) ?_
  simp
  try (simp)
  repeat ((repeat (first | refine AL.seq ?_ | refine AL.block ?_ | refine AL.skip ?_ | refine AL.blk ?_)); (refine AL.region follows_Tryz (Nat.le_refl _) (by kernel_rfl) ?_); simp)
  by_cases h0 : validG a = 0
  · simp only [h0]
    repeat (first | refine AL.seq ?_ | refine AL.block ?_ | refine AL.skip ?_ | refine AL.blk ?_)
    refine AL.cond ?_
    simp
    try (simp)
    repeat ((repeat (first | refine AL.seq ?_ | refine AL.block ?_ | refine AL.skip ?_ | refine AL.blk ?_)); (refine AL.region follows_Tryz (Nat.le_refl _) (by kernel_rfl) ?_); simp)
    refine Stop.of_d (ho _ _) ?_
    simp
    try (simp)
    repeat ((repeat (first | refine AL.seq ?_ | refine AL.block ?_ | refine AL.skip ?_ | refine AL.blk ?_)); (refine AL.region follows_Tryz (Nat.le_refl _) (by kernel_rfl) ?_); simp)
    by_cases h1 : c.ovr a = 0
    · simp only [h1]
      repeat (first | refine AL.seq ?_ | refine AL.block ?_ | refine AL.skip ?_ | refine AL.blk ?_)
      refine AL.cond ?_
      simp
      try (simp)
      repeat ((repeat (first | refine AL.seq ?_ | refine AL.block ?_ | refine AL.skip ?_ | refine AL.blk ?_)); (refine AL.region follows_Tryz (Nat.le_refl _) (by kernel_rfl) ?_); simp)
      refine Stop.of_d (hs _ _) ?_
      simp
      try (simp)
      repeat ((repeat (first | refine AL.seq ?_ | refine AL.block ?_ | refine AL.skip ?_ | refine AL.blk ?_)); (refine AL.region follows_Tryz (Nat.le_refl _) (by kernel_rfl) ?_); simp)
      repeat (first | refine AL.seq ?_ | refine AL.block ?_ | refine AL.skip ?_ | refine AL.blk ?_)
      refine AL.ret ?_
      try simp only [AU]
      refine ⟨by simp, Fin.data (by simp [resAs, resA]; rfl) hbox rfl htok (fun _ h => h) (Nat.le_refl _) ?_⟩
      simp [packA, validC, h0, h1]
    · have b1 : (c.ovr a != 0) = true := by simp [h1]
      simp only [b1]
      repeat (first | refine AL.seq ?_ | refine AL.block ?_ | refine AL.skip ?_ | refine AL.blk ?_)
      refine AL.cond ?_
      simp
      try (simp)
      repeat ((repeat (first | refine AL.seq ?_ | refine AL.block ?_ | refine AL.skip ?_ | refine AL.blk ?_)); (refine AL.region follows_Tryz (Nat.le_refl _) (by kernel_rfl) ?_); simp)
      repeat (first | refine AL.seq ?_ | refine AL.block ?_ | refine AL.skip ?_ | refine AL.blk ?_)
      refine AL.ret ?_
      try simp only [AU]
      refine ⟨by simp, Fin.data (by simp [resAs, resA]; rfl) hbox rfl htok (fun _ h => h) (Nat.le_refl _) ?_⟩
      simp [packA, validC, h0, h1]
  · have b0 : (validG a != 0) = true := by simp [h0]
    simp only [b0]
    repeat (first | refine AL.seq ?_ | refine AL.block ?_ | refine AL.skip ?_ | refine AL.blk ?_)
    refine AL.cond ?_
    simp
    try (simp)
    repeat ((repeat (first | refine AL.seq ?_ | refine AL.block ?_ | refine AL.skip ?_ | refine AL.blk ?_)); (refine AL.region follows_Tryz (Nat.le_refl _) (by kernel_rfl) ?_); simp)
    repeat (first | refine AL.seq ?_ | refine AL.block ?_ | refine AL.skip ?_ | refine AL.blk ?_)
    refine AL.ret ?_
    try simp only [AU]
    refine ⟨by simp, Fin.data (by simp [resAs, resA]; rfl) hbox rfl htok (fun _ h => h) (Nat.le_refl _) ?_⟩
    simp [packA, validC, h0]

def fitHere (c : Cd) (n m : Int) : Bool := decide ((c.g.nodes.length : Int) ≤ n) && (decide ((c.g.edges.length : Int) ≤ m) && (decide (c.m.nodes.length ≤ 100) && (decide (c.m.edges.length ≤ 100) && (decide (c.sl.length ≤ 20) && decide (c.te.length ≤ 20)))))
mutual
def Cd.fits : Cd → Int → Int → Bool
  | .mk k c m g s v t, x, y => fitHere (.mk k c m g s v t) x y && Cd.fitsL c x y
def Cd.fitsL : List Cd → Int → Int → Bool
  | [], _, _ => true
  | x :: r, n, m => Cd.fits x n m && Cd.fitsL r n m
end
theorem Cd.fitsL_eq (n m : Int) : ∀ l : List Cd, Cd.fitsL l n m = l.all fun x => Cd.fits x n m
  | [] => by simp [Cd.fitsL]
  | x :: r => by simp [Cd.fitsL, Cd.fitsL_eq n m r]
theorem Cd.fits_eq (c : Cd) (n m : Int) : c.fits n m = (fitHere c n m && c.kids.all fun x => Cd.fits x n m) := by
  cases c
  rw [Cd.fits, Cd.fitsL_eq]
  rfl

def stFi (n m : Int) (c : Cd) (nb : Nat) (box : Nat → Option (List (List AV))) (tok : Nat → Bool) (nt : Nat) (i : Nat) : AState :=
  ⟨tl [(7, I i), (3, .ptr (nb + 3) 0 0), (1, I n), (2, I m)], lb nb box [(3, [c.row])], tok, nt⟩

set_option maxRecDepth 100000 in
theorem fits26_c : ∀ (k : Nat) (c : Cd), SizeOf.sizeOf c < k → c.Big → ∀ (n m : Int) (tok : Nat → Bool) (nt : Nat), DCall Tryz.prog 23 [c.av, I n, I m] tok nt (B (c.fits n m)) tok nt
  | 0, c, hn, _, n, m, tok, nt => absurd hn (Nat.not_lt_zero _)
  | k + 1, c, hn, hb, n, m, tok, nt => by
    intro box nb
    have ih := fun x (hx : x ∈ c.kids) => fits26_c k x (by have := Cd.kid_lt hx; omega) (hb.kid x hx)
    have hkb := hb.kids
    rw [kidN_eq] at hkb
    have hR := c.fits_eq n m
    refine ACalls.of_body Tryz.func23 rfl (by kernel_rfl) follows_Tryz (by kernel_rfl) (by simp [Tryz.ntmps23]) ?_
    intro hbox htok
    simp only at hbox htok
    apply AL.start
    by_cases h1 : n < (c.g.nodes.length : Int)
    · have hf : fitHere c n m = false := by simp [fitHere]; intros; omega
      try (simp [h1])
      repeat ((repeat (first | refine AL.seq ?_ | refine AL.block ?_ | refine AL.skip ?_ | refine AL.blk ?_)); (refine AL.region follows_Tryz (Nat.le_refl _) (by kernel_rfl) ?_); simp [h1])
      repeat (first | refine AL.seq ?_ | refine AL.block ?_ | refine AL.skip ?_ | refine AL.blk ?_)
      refine AL.cond ?_
      simp
      try (simp)
      repeat ((repeat (first | refine AL.seq ?_ | refine AL.block ?_ | refine AL.skip ?_ | refine AL.blk ?_)); (refine AL.region follows_Tryz (Nat.le_refl _) (by kernel_rfl) ?_); simp)
      repeat (first | refine AL.seq ?_ | refine AL.block ?_ | refine AL.skip ?_ | refine AL.blk ?_)
      refine AL.ret ?_
      try simp only [AU]
      refine ⟨by simp, Fin.data (by simp [resAs, resA]; rfl) hbox rfl htok (fun _ h => h) (Nat.le_refl _) ?_⟩
      simp [packA, hR, hf]
    · skip
      by_cases h2 : m < (c.g.edges.length : Int)
      · have hf : fitHere c n m = false := by simp [fitHere]; intros; omega
        try (simp [h1, h2])
        repeat ((repeat (first | refine AL.seq ?_ | refine AL.block ?_ | refine AL.skip ?_ | refine AL.blk ?_)); (refine AL.region follows_Tryz (Nat.le_refl _) (by kernel_rfl) ?_); simp [h1, h2])
        repeat (first | refine AL.seq ?_ | refine AL.block ?_ | refine AL.skip ?_ | refine AL.blk ?_)
        refine AL.cond ?_
        simp
        try (simp)
        repeat ((repeat (first | refine AL.seq ?_ | refine AL.block ?_ | refine AL.skip ?_ | refine AL.blk ?_)); (refine AL.region follows_Tryz (Nat.le_refl _) (by kernel_rfl) ?_); simp)
        repeat (first | refine AL.seq ?_ | refine AL.block ?_ | refine AL.skip ?_ | refine AL.blk ?_)
        refine AL.ret ?_
        try simp only [AU]
        refine ⟨by simp, Fin.data (by simp [resAs, resA]; rfl) hbox rfl htok (fun _ h => h) (Nat.le_refl _) ?_⟩
        simp [packA, hR, hf]
      · skip
        by_cases h3 : (100 : Int) < (c.m.nodes.length : Int)
        · have hf : fitHere c n m = false := by simp [fitHere]; intros; omega
          try (simp [h1, h2, h3])
          repeat ((repeat (first | refine AL.seq ?_ | refine AL.block ?_ | refine AL.skip ?_ | refine AL.blk ?_)); (refine AL.region follows_Tryz (Nat.le_refl _) (by kernel_rfl) ?_); simp [h1, h2, h3])
          repeat (first | refine AL.seq ?_ | refine AL.block ?_ | refine AL.skip ?_ | refine AL.blk ?_)
          refine AL.cond ?_
          simp
          try (simp)
          repeat ((repeat (first | refine AL.seq ?_ | refine AL.block ?_ | refine AL.skip ?_ | refine AL.blk ?_)); (refine AL.region follows_Tryz (Nat.le_refl _) (by kernel_rfl) ?_); simp)
          repeat (first | refine AL.seq ?_ | refine AL.block ?_ | refine AL.skip ?_ | refine AL.blk ?_)
          refine AL.ret ?_
          try simp only [AU]
          refine ⟨by simp, Fin.data (by simp [resAs, resA]; rfl) hbox rfl htok (fun _ h => h) (Nat.le_refl _) ?_⟩
          simp [packA, hR, hf]
        · skip
          by_cases h4 : (100 : Int) < (c.m.edges.length : Int)
          · have hf : fitHere c n m = false := by simp [fitHere]; intros; omega
            try (simp [h1, h2, h3, h4])
            repeat ((repeat (first | refine AL.seq ?_ | refine AL.block ?_ | refine AL.skip ?_ | refine AL.blk ?_)); (refine AL.region follows_Tryz (Nat.le_refl _) (by kernel_rfl) ?_); simp [h1, h2, h3, h4])
            repeat (first | refine AL.seq ?_ | refine AL.block ?_ | refine AL.skip ?_ | refine AL.blk ?_)
            refine AL.cond ?_
            simp
            try (simp)
            repeat ((repeat (first | refine AL.seq ?_ | refine AL.block ?_ | refine AL.skip ?_ | refine AL.blk ?_)); (refine AL.region follows_Tryz (Nat.le_refl _) (by kernel_rfl) ?_); simp)
            repeat (first | refine AL.seq ?_ | refine AL.block ?_ | refine AL.skip ?_ | refine AL.blk ?_)
            refine AL.ret ?_
            try simp only [AU]
            refine ⟨by simp, Fin.data (by simp [resAs, resA]; rfl) hbox rfl htok (fun _ h => h) (Nat.le_refl _) ?_⟩
            simp [packA, hR, hf]
          · skip
            by_cases h5 : (20 : Int) < (c.sl.length : Int)
            · have hf : fitHere c n m = false := by simp [fitHere]; intros; omega
              try (simp [h1, h2, h3, h4, h5])
              repeat ((repeat (first | refine AL.seq ?_ | refine AL.block ?_ | refine AL.skip ?_ | refine AL.blk ?_)); (refine AL.region follows_Tryz (Nat.le_refl _) (by kernel_rfl) ?_); simp [h1, h2, h3, h4, h5])
              repeat (first | refine AL.seq ?_ | refine AL.block ?_ | refine AL.skip ?_ | refine AL.blk ?_)
              refine AL.cond ?_
              simp
              try (simp)
              repeat ((repeat (first | refine AL.seq ?_ | refine AL.block ?_ | refine AL.skip ?_ | refine AL.blk ?_)); (refine AL.region follows_Tryz (Nat.le_refl _) (by kernel_rfl) ?_); simp)
              repeat (first | refine AL.seq ?_ | refine AL.block ?_ | refine AL.skip ?_ | refine AL.blk ?_)
              refine AL.ret ?_
              try simp only [AU]
              refine ⟨by simp, Fin.data (by simp [resAs, resA]; rfl) hbox rfl htok (fun _ h => h) (Nat.le_refl _) ?_⟩
              simp [packA, hR, hf]
            · skip
              by_cases h6 : (20 : Int) < (c.te.length : Int)
              · have hf : fitHere c n m = false := by simp [fitHere]; intros; omega
                try (simp [h1, h2, h3, h4, h5, h6])
                repeat ((repeat (first | refine AL.seq ?_ | refine AL.block ?_ | refine AL.skip ?_ | refine AL.blk ?_)); (refine AL.region follows_Tryz (Nat.le_refl _) (by kernel_rfl) ?_); simp [h1, h2, h3, h4, h5, h6])
                repeat (first | refine AL.seq ?_ | refine AL.block ?_ | refine AL.skip ?_ | refine AL.blk ?_)
                refine AL.cond ?_
                simp
                try (simp)
                repeat ((repeat (first | refine AL.seq ?_ | refine AL.block ?_ | refine AL.skip ?_ | refine AL.blk ?_)); (refine AL.region follows_Tryz (Nat.le_refl _) (by kernel_rfl) ?_); simp)
                repeat (first | refine AL.seq ?_ | refine AL.block ?_ | refine AL.skip ?_ | refine AL.blk ?_)
                refine AL.ret ?_
                try simp only [AU]
                refine ⟨by simp, Fin.data (by simp [resAs, resA]; rfl) hbox rfl htok (fun _ h => h) (Nat.le_refl _) ?_⟩
                simp [packA, hR, hf]
              · have hf : fitHere c n m = true := by simp [fitHere]; omega
                try (simp [h1, h2, h3, h4, h5, h6])
                repeat ((repeat (first | refine AL.seq ?_ | refine AL.block ?_ | refine AL.skip ?_ | refine AL.blk ?_)); (refine AL.region follows_Tryz (Nat.le_refl _) (by kernel_rfl) ?_); simp [h1, h2, h3, h4, h5, h6])
                repeat (first | refine AL.seq ?_ | refine AL.block ?_ | refine AL.skip ?_ | refine AL.blk ?_)
                refine AL.cond ?_
                simp
                try (simp)
                repeat ((repeat (first | refine AL.seq ?_ | refine AL.block ?_ | refine AL.skip ?_ | refine AL.blk ?_)); (refine AL.region follows_Tryz (Nat.le_refl _) (by kernel_rfl) ?_); simp)
                repeat (first | refine AL.seq ?_ | refine AL.block ?_ | refine AL.skip ?_ | refine AL.blk ?_)
                refine AL.loopT (stFi n m c nb box tok nt) (fun i => i ≤ c.kids.length ∧ ∀ x ∈ c.kids.take i, Cd.fits x n m = true) (fun i => c.kids.length - i) 0 ⟨Nat.zero_le _, by simp⟩ (Weaks.mk (Nat.le_refl _) rfl (by simp [ToL, lk]) (by simp [BoxL, lk])) ?_
                rintro i S ⟨hi, hz⟩ hS
                simp only [stFi] at hS
                subst hS
                have hw : IntKind.i64.wrap (↑i + 1) = ((i + 1 : Nat) : Int) := by rw [wrap_in (by omega) (by omega)]; rfl
                try (simp)
                repeat ((repeat (first | refine AL.seq ?_ | refine AL.block ?_ | refine AL.skip ?_ | refine AL.blk ?_)); (refine AL.region follows_Tryz (Nat.le_refl _) (by kernel_rfl) ?_); simp)
                repeat (first | refine AL.seq ?_ | refine AL.block ?_ | refine AL.skip ?_ | refine AL.blk ?_)
                refine AL.cond ?_
                simp
                refine ⟨fun hlt => ?_, fun hge => ?_⟩
                · have ihx := ih _ (List.getElem_mem hlt)
                  have hyes : Cd.fits c.kids[i] n m = true → ∀ x ∈ c.kids.take (i + 1), Cd.fits x n m = true := fun h x hx => by
                    rw [List.take_succ_eq_append_getElem hlt] at hx
                    rcases List.mem_append.1 hx with hx | hx
                    · exact hz x hx
                    · rw [List.mem_singleton] at hx; subst hx; exact h
                  have hno : Cd.fits c.kids[i] n m = false → (c.kids.all fun x => Cd.fits x n m) = false := fun h => by
                    rw [List.all_eq_false]
                    exact ⟨_, List.getElem_mem hlt, by simp [h]⟩
                  try (simp [hlt, Cd.cells_eq])
                  repeat ((repeat (first | refine AL.seq ?_ | refine AL.block ?_ | refine AL.skip ?_ | refine AL.blk ?_)); (refine AL.region follows_Tryz (Nat.le_refl _) (by kernel_rfl) ?_); simp [hlt, Cd.cells_eq])
                  generalize c.kids[i] = x at *
                  refine Stop.of_d (ihx _ _ _ _) ?_
                  simp
                  try (simp)
                  repeat ((repeat (first | refine AL.seq ?_ | refine AL.block ?_ | refine AL.skip ?_ | refine AL.blk ?_)); (refine AL.region follows_Tryz (Nat.le_refl _) (by kernel_rfl) ?_); simp)
                  cases h7 : x.fits n m
                  · have hno' := hno h7
                    repeat (first | refine AL.seq ?_ | refine AL.block ?_ | refine AL.skip ?_ | refine AL.blk ?_)
                    refine AL.cond ?_
                    simp
                    try (simp)
                    repeat ((repeat (first | refine AL.seq ?_ | refine AL.block ?_ | refine AL.skip ?_ | refine AL.blk ?_)); (refine AL.region follows_Tryz (Nat.le_refl _) (by kernel_rfl) ?_); simp)
                    repeat (first | refine AL.seq ?_ | refine AL.block ?_ | refine AL.skip ?_ | refine AL.blk ?_)
                    refine AL.ret ?_
                    try simp only [AU]
                    refine ⟨by simp, Fin.data (by simp [resAs, resA]; rfl) hbox rfl htok (fun _ h => h) (Nat.le_refl _) ?_⟩
                    simp [packA, hR, hf, hno']
                  · repeat (first | refine AL.seq ?_ | refine AL.block ?_ | refine AL.skip ?_ | refine AL.blk ?_)
                    refine AL.cond ?_
                    simp
                    try (simp [hw])
                    repeat ((repeat (first | refine AL.seq ?_ | refine AL.block ?_ | refine AL.skip ?_ | refine AL.blk ?_)); (refine AL.region follows_Tryz (Nat.le_refl _) (by kernel_rfl) ?_); simp [hw])
                    repeat (first | refine AL.seq ?_ | refine AL.block ?_ | refine AL.skip ?_ | refine AL.blk ?_)
                    refine AL.nil ?_
                    exact ⟨i + 1, ⟨hlt, hyes h7⟩, by omega, Weaks.mk (Nat.le_refl _) rfl (by simp [ToL, lk]) (by simp [BoxL, lk])⟩
                · repeat (first | refine AL.seq ?_ | refine AL.block ?_ | refine AL.skip ?_ | refine AL.blk ?_)
                  refine AL.exit ?_
                  simp only [AU, ↓reduceIte]
                  rw [List.take_of_length_le hge] at hz
                  have hal : (c.kids.all fun x => Cd.fits x n m) = true := by rw [List.all_eq_true]; exact hz
                  try (simp)
                  repeat ((repeat (first | refine AL.seq ?_ | refine AL.block ?_ | refine AL.skip ?_ | refine AL.blk ?_)); (refine AL.region follows_Tryz (Nat.le_refl _) (by kernel_rfl) ?_); simp)
                  repeat (first | refine AL.seq ?_ | refine AL.block ?_ | refine AL.skip ?_ | refine AL.blk ?_)
                  refine AL.ret ?_
                  try simp only [AU]
                  refine ⟨by simp, Fin.data (by simp [resAs, resA]; rfl) hbox rfl htok (fun _ h => h) (Nat.le_refl _) ?_⟩
                  simp [packA, hR, hf, hal]

/-! ### Light -/
theorem Cd.fits_fit {n m : Int} (hn : n ≤ 1000000) (hm : m ≤ 1000000) : ∀ (k : Nat) (c : Cd), SizeOf.sizeOf c < k → c.Big → c.fits n m = true → c.Fit
  | 0, c, hk, _, _ => absurd hk (Nat.not_lt_zero _)
  | k + 1, c, hk, hb, hf => by
    rw [c.fits_eq, Bool.and_eq_true, List.all_eq_true] at hf
    obtain ⟨h1, h2⟩ := hf
    simp only [fitHere, Bool.and_eq_true, decide_eq_true_eq] at h1
    exact ⟨hb.kids, ⟨by omega, by omega⟩, ⟨by omega, by omega⟩, by rw [bigN_eq]; omega, by rw [bigN_eq]; omega, fun x hx => Cd.fits_fit hn hm k x (by have := Cd.kid_lt hx; omega) (hb.kid x hx) (h2 x hx)⟩
def lightB (a : Gr) (c : Cd) : Bool :=
  if 60 < c.meas.1 then false else if c.fits 45 90 = false then false else if fewG a = false then false
  else if validC a c ≠ 0 then true else if 8 < c.meas.1 then false
  else if c.meas.2 ≤ 1 then (if c.fits 4 3 = true then true else c.fits 2 2)
  else if c.meas.2 ≤ 2 then c.fits 2 2 else false

set_option maxRecDepth 100000 in
theorem light9_c (a : Gr) (c : Cd) (hb : c.Big) (hv : 60 < c.meas.1 ∨ c.fits 45 90 = false ∨ fewG a = false ∨ ∀ tok nt, DCall Tryz.prog 24 [a.av, c.av] tok nt (I (validC a c)) tok nt) (tok : Nat → Bool) (nt : Nat) : DCall Tryz.prog 7 [a.av, c.av] tok nt (B (lightB a c)) tok nt := by
  intro box nb
  have hs := size25_c _ c (Nat.lt_succ_self _) hb
  have hf := fits26_c _ c (Nat.lt_succ_self _) hb
  have hw := few05_c a
  refine ACalls.of_body Tryz.func7 rfl (by kernel_rfl) follows_Tryz (by kernel_rfl) (by simp [Tryz.ntmps7]) ?_
  intro hbox htok
  simp only at hbox htok
  apply AL.start
  try (simp)
  repeat ((repeat (first | refine AL.seq ?_ | refine AL.block ?_ | refine AL.skip ?_ | refine AL.blk ?_)); (refine AL.region follows_Tryz (Nat.le_refl _) (by kernel_rfl) ?_); simp)
  refine Stop.of_d (hs _ _) ?_
  simp
  by_cases h1 : 60 < c.meas.1
  · try (simp [h1])
    repeat ((repeat (first | refine AL.seq ?_ | refine AL.block ?_ | refine AL.skip ?_ | refine AL.blk ?_)); (refine AL.region follows_Tryz (Nat.le_refl _) (by kernel_rfl) ?_); simp [h1])
    repeat (first | refine AL.seq ?_ | refine AL.block ?_ | refine AL.skip ?_ | refine AL.blk ?_)
    refine AL.cond ?_
    simp
    try (simp)
    repeat ((repeat (first | refine AL.seq ?_ | refine AL.block ?_ | refine AL.skip ?_ | refine AL.blk ?_)); (refine AL.region follows_Tryz (Nat.le_refl _) (by kernel_rfl) ?_); simp)
    repeat (first | refine AL.seq ?_ | refine AL.block ?_ | refine AL.skip ?_ | refine AL.blk ?_)
    refine AL.ret ?_
    try simp only [AU]
    refine ⟨by simp, Fin.data (by simp [resAs, resA]; rfl) hbox rfl htok (fun _ h => h) (Nat.le_refl _) ?_⟩
    simp [packA, lightB, h1]
  · try (simp [h1])
    repeat ((repeat (first | refine AL.seq ?_ | refine AL.block ?_ | refine AL.skip ?_ | refine AL.blk ?_)); (refine AL.region follows_Tryz (Nat.le_refl _) (by kernel_rfl) ?_); simp [h1])
    refine Stop.of_d (hf _ _ _ _) ?_
    simp
    cases h2 : c.fits 45 90
    · try (simp)
      repeat ((repeat (first | refine AL.seq ?_ | refine AL.block ?_ | refine AL.skip ?_ | refine AL.blk ?_)); (refine AL.region follows_Tryz (Nat.le_refl _) (by kernel_rfl) ?_); simp)
      repeat (first | refine AL.seq ?_ | refine AL.block ?_ | refine AL.skip ?_ | refine AL.blk ?_)
      refine AL.cond ?_
      simp
      try (simp)
      repeat ((repeat (first | refine AL.seq ?_ | refine AL.block ?_ | refine AL.skip ?_ | refine AL.blk ?_)); (refine AL.region follows_Tryz (Nat.le_refl _) (by kernel_rfl) ?_); simp)
      repeat (first | refine AL.seq ?_ | refine AL.block ?_ | refine AL.skip ?_ | refine AL.blk ?_)
      refine AL.ret ?_
      try simp only [AU]
      refine ⟨by simp, Fin.data (by simp [resAs, resA]; rfl) hbox rfl htok (fun _ h => h) (Nat.le_refl _) ?_⟩
      simp [packA, lightB, h1, h2]
    · try (simp)
      repeat ((repeat (first | refine AL.seq ?_ | refine AL.block ?_ | refine AL.skip ?_ | refine AL.blk ?_)); (refine AL.region follows_Tryz (Nat.le_refl _) (by kernel_rfl) ?_); simp)
      refine Stop.of_d (hw _ _) ?_
      simp
      cases h3 : fewG a
      · try (simp)
        repeat ((repeat (first | refine AL.seq ?_ | refine AL.block ?_ | refine AL.skip ?_ | refine AL.blk ?_)); (refine AL.region follows_Tryz (Nat.le_refl _) (by kernel_rfl) ?_); simp)
        repeat (first | refine AL.seq ?_ | refine AL.block ?_ | refine AL.skip ?_ | refine AL.blk ?_)
        refine AL.cond ?_
        simp
        try (simp)
        repeat ((repeat (first | refine AL.seq ?_ | refine AL.block ?_ | refine AL.skip ?_ | refine AL.blk ?_)); (refine AL.region follows_Tryz (Nat.le_refl _) (by kernel_rfl) ?_); simp)
        repeat (first | refine AL.seq ?_ | refine AL.block ?_ | refine AL.skip ?_ | refine AL.blk ?_)
        refine AL.ret ?_
        try simp only [AU]
        refine ⟨by simp, Fin.data (by simp [resAs, resA]; rfl) hbox rfl htok (fun _ h => h) (Nat.le_refl _) ?_⟩
        simp [packA, lightB, h1, h2, h3]
      · have hv := (((hv.resolve_left h1).resolve_left (by simp [h2])).resolve_left (by simp [h3]))
        try (simp)
        repeat ((repeat (first | refine AL.seq ?_ | refine AL.block ?_ | refine AL.skip ?_ | refine AL.blk ?_)); (refine AL.region follows_Tryz (Nat.le_refl _) (by kernel_rfl) ?_); simp)
        repeat (first | refine AL.seq ?_ | refine AL.block ?_ | refine AL.skip ?_ | refine AL.blk ?_)
        refine AL.cond ?_
        simp
        try (simp)
        repeat ((repeat (first | refine AL.seq ?_ | refine AL.block ?_ | refine AL.skip ?_ | refine AL.blk ?_)); (refine AL.region follows_Tryz (Nat.le_refl _) (by kernel_rfl) ?_); simp)
        refine Stop.of_d (hv _ _) ?_
        simp
        by_cases h4 : validC a c = 0
        · have n4 : (validC a c != 0) = false := by simp [h4]
          by_cases h5 : c.meas.1 ≤ 8
          · have h5' : ¬ 8 < c.meas.1 := by omega
            try (simp [h5, n4])
            repeat ((repeat (first | refine AL.seq ?_ | refine AL.block ?_ | refine AL.skip ?_ | refine AL.blk ?_)); (refine AL.region follows_Tryz (Nat.le_refl _) (by kernel_rfl) ?_); simp [h5, n4])
            by_cases h6 : c.meas.2 ≤ 1
            · have h6' : c.meas.2 ≤ 2 := by omega
              try (simp [h6, h6'])
              repeat ((repeat (first | refine AL.seq ?_ | refine AL.block ?_ | refine AL.skip ?_ | refine AL.blk ?_)); (refine AL.region follows_Tryz (Nat.le_refl _) (by kernel_rfl) ?_); simp [h6, h6'])
              refine Stop.of_d (hf _ _ _ _) ?_
              simp
              cases h7 : c.fits 4 3
              · try (simp [h6'])
                repeat ((repeat (first | refine AL.seq ?_ | refine AL.block ?_ | refine AL.skip ?_ | refine AL.blk ?_)); (refine AL.region follows_Tryz (Nat.le_refl _) (by kernel_rfl) ?_); simp [h6'])
                refine Stop.of_d (hf _ _ _ _) ?_
                simp
                try (simp)
                repeat ((repeat (first | refine AL.seq ?_ | refine AL.block ?_ | refine AL.skip ?_ | refine AL.blk ?_)); (refine AL.region follows_Tryz (Nat.le_refl _) (by kernel_rfl) ?_); simp)
                repeat (first | refine AL.seq ?_ | refine AL.block ?_ | refine AL.skip ?_ | refine AL.blk ?_)
                refine AL.ret ?_
                try simp only [AU]
                refine ⟨by simp, Fin.data (by simp [resAs, resA]; rfl) hbox rfl htok (fun _ h => h) (Nat.le_refl _) ?_⟩
                simp [packA, lightB, h1, h2, h3, h4, h5', h6, h7]
              · try (simp)
                repeat ((repeat (first | refine AL.seq ?_ | refine AL.block ?_ | refine AL.skip ?_ | refine AL.blk ?_)); (refine AL.region follows_Tryz (Nat.le_refl _) (by kernel_rfl) ?_); simp)
                repeat (first | refine AL.seq ?_ | refine AL.block ?_ | refine AL.skip ?_ | refine AL.blk ?_)
                refine AL.ret ?_
                try simp only [AU]
                refine ⟨by simp, Fin.data (by simp [resAs, resA]; rfl) hbox rfl htok (fun _ h => h) (Nat.le_refl _) ?_⟩
                simp [packA, lightB, h1, h2, h3, h4, h5', h6, h7]
            · try (simp [h6])
              repeat ((repeat (first | refine AL.seq ?_ | refine AL.block ?_ | refine AL.skip ?_ | refine AL.blk ?_)); (refine AL.region follows_Tryz (Nat.le_refl _) (by kernel_rfl) ?_); simp [h6])
              by_cases h8 : c.meas.2 ≤ 2
              · try (simp [h8])
                repeat ((repeat (first | refine AL.seq ?_ | refine AL.block ?_ | refine AL.skip ?_ | refine AL.blk ?_)); (refine AL.region follows_Tryz (Nat.le_refl _) (by kernel_rfl) ?_); simp [h8])
                refine Stop.of_d (hf _ _ _ _) ?_
                simp
                try (simp)
                repeat ((repeat (first | refine AL.seq ?_ | refine AL.block ?_ | refine AL.skip ?_ | refine AL.blk ?_)); (refine AL.region follows_Tryz (Nat.le_refl _) (by kernel_rfl) ?_); simp)
                repeat (first | refine AL.seq ?_ | refine AL.block ?_ | refine AL.skip ?_ | refine AL.blk ?_)
                refine AL.ret ?_
                try simp only [AU]
                refine ⟨by simp, Fin.data (by simp [resAs, resA]; rfl) hbox rfl htok (fun _ h => h) (Nat.le_refl _) ?_⟩
                simp [packA, lightB, h1, h2, h3, h4, h5', h6, h8]
              · try (simp [h8])
                repeat ((repeat (first | refine AL.seq ?_ | refine AL.block ?_ | refine AL.skip ?_ | refine AL.blk ?_)); (refine AL.region follows_Tryz (Nat.le_refl _) (by kernel_rfl) ?_); simp [h8])
                repeat (first | refine AL.seq ?_ | refine AL.block ?_ | refine AL.skip ?_ | refine AL.blk ?_)
                refine AL.ret ?_
                try simp only [AU]
                refine ⟨by simp, Fin.data (by simp [resAs, resA]; rfl) hbox rfl htok (fun _ h => h) (Nat.le_refl _) ?_⟩
                simp [packA, lightB, h1, h2, h3, h4, h5', h6, h8]
          · have h5' : 8 < c.meas.1 := by omega
            try (simp [h5, n4])
            repeat ((repeat (first | refine AL.seq ?_ | refine AL.block ?_ | refine AL.skip ?_ | refine AL.blk ?_)); (refine AL.region follows_Tryz (Nat.le_refl _) (by kernel_rfl) ?_); simp [h5, n4])
            repeat (first | refine AL.seq ?_ | refine AL.block ?_ | refine AL.skip ?_ | refine AL.blk ?_)
            refine AL.ret ?_
            try simp only [AU]
            refine ⟨by simp, Fin.data (by simp [resAs, resA]; rfl) hbox rfl htok (fun _ h => h) (Nat.le_refl _) ?_⟩
            simp [packA, lightB, h1, h2, h3, h4, h5']
        · have n4 : (validC a c != 0) = true := by simp [h4]
          try (simp [n4])
          repeat ((repeat (first | refine AL.seq ?_ | refine AL.block ?_ | refine AL.skip ?_ | refine AL.blk ?_)); (refine AL.region follows_Tryz (Nat.le_refl _) (by kernel_rfl) ?_); simp [n4])
          repeat (first | refine AL.seq ?_ | refine AL.block ?_ | refine AL.skip ?_ | refine AL.blk ?_)
          refine AL.ret ?_
          try simp only [AU]
          refine ⟨by simp, Fin.data (by simp [resAs, resA]; rfl) hbox rfl htok (fun _ h => h) (Nat.le_refl _) ?_⟩
          simp [packA, lightB, h1, h2, h3, h4]
end Go.AM
namespace Go.AM
open Go Go.Proofs
set_option linter.unusedSimpArgs false
set_option linter.unusedVariables false

/-! ### places, index, Through, Then, Compose -/
def placesK (l h : List Int) (i : Nat) : List Int := (l.take i).map (indexI h)
@[simp] theorem placesK_len (l h : List Int) (i : Nat) : (placesK l h i).length = min i l.length := by simp [placesK]
def byK (l by' : List Int) (i : Nat) : List Int := (l.take i).map fun x => by'.getD x.toNat 0
theorem byK_zero (l h : List Int) : byK l h 0 = [] := by simp [byK]
@[simp] theorem byK_len (l h : List Int) (i : Nat) : (byK l h i).length = min i l.length := by simp [byK]
theorem byK_succ (l h : List Int) {i : Nat} (hi : i < l.length) : byK l h (i + 1) = byK l h i ++ [h.getD l[i].toNat 0] := by simp only [byK, List.take_add_one, List.getElem?_eq_getElem hi, Option.toList, List.map_append, List.map_cons, List.map_nil]

def st68 (l h : List Int) (nb : Nat) (box : Nat → Option (List (List AV))) (a : Acc) : AState := ⟨tl [(0, .d (ints l)), (1, .d (ints h)), (5, .osl 1 (rI (byK l h a.i)) a.own), (6, I a.i)], lb nb box [], a.tok, a.nt⟩

theorem through68_c (l h : List Int) (hl : l.length ≤ 1000000) (hr : ∀ x ∈ l, 0 ≤ x ∧ x < h.length) (tok : Nat → Bool) (nt : Nat) : DCall Tryz.prog 79 [.d (ints l), .d (ints h)] tok nt (.d (ints (byK l h l.length))) tok nt := by
  intro box nb
  refine ACalls.of_body Tryz.func79 rfl (by kernel_rfl) follows_Tryz (by kernel_rfl) (by simp [Tryz.ntmps79]) ?_
  intro hbox htok
  simp only at hbox htok
  apply AL.start
  repeat (first | refine AL.seq ?_ | refine AL.block ?_ | refine AL.skip ?_ | refine AL.blk ?_)
  refine AL.region follows_Tryz (Nat.le_refl _) (by kernel_rfl) ?_
  simp
  repeat (first | refine AL.seq ?_ | refine AL.block ?_ | refine AL.skip ?_ | refine AL.blk ?_)
  refine AL.region follows_Tryz (Nat.le_refl _) (by kernel_rfl) ?_
  simp
  repeat (first | refine AL.seq ?_ | refine AL.block ?_ | refine AL.skip ?_ | refine AL.blk ?_)
  refine AL.region follows_Tryz (Nat.le_refl _) (by kernel_rfl) ?_
  simp
  repeat (first | refine AL.seq ?_ | refine AL.block ?_ | refine AL.skip ?_ | refine AL.blk ?_)
  refine AL.loopT (st68 l h nb box) (fun a => a.i ≤ l.length ∧ TK tok nt a.tok a.nt [a.own]) (fun a => l.length - a.i) ⟨0, .full, tok, nt⟩ ⟨Nat.zero_le _, (TK.start htok).full⟩ (Weaks.mk (Nat.le_refl _) rfl (by simp [ToL, byK_zero]) trivial) ?_
  rintro ⟨i, own, tok', nt'⟩ S ⟨hi, htk⟩ hS
  simp only [st68] at hS hi htk
  subst hS
  have hw : IntKind.i64.wrap (↑i + 1) = ((i + 1 : Nat) : Int) := by rw [wrap_in (by omega) (by omega)]; rfl
  repeat (first | refine AL.seq ?_ | refine AL.block ?_ | refine AL.skip ?_ | refine AL.blk ?_)
  refine AL.region follows_Tryz (Nat.le_refl _) (by kernel_rfl) ?_
  simp
  repeat (first | refine AL.seq ?_ | refine AL.block ?_ | refine AL.skip ?_ | refine AL.blk ?_)
  refine AL.cond ?_
  simp
  refine ⟨fun hlt => ?_, fun hge => ?_⟩
  · obtain ⟨x0, x1⟩ := hr _ (List.getElem_mem hlt)
    have x2 : l[i].toNat < h.length := by omega
    repeat (first | refine AL.seq ?_ | refine AL.block ?_ | refine AL.skip ?_ | refine AL.blk ?_)
    refine AL.region follows_Tryz (Nat.le_refl _) (by kernel_rfl) ?_
    simp [hlt, x0, x1, x2]
    refine ⟨⟨by omega, htk.live⟩, ?_⟩
    repeat (first | refine AL.seq ?_ | refine AL.block ?_ | refine AL.skip ?_ | refine AL.blk ?_)
    refine AL.region follows_Tryz (Nat.le_refl _) (by kernel_rfl) ?_
    simp [hw]
    repeat (first | refine AL.seq ?_ | refine AL.block ?_ | refine AL.skip ?_ | refine AL.blk ?_)
    refine AL.nil ?_
    refine ⟨⟨i + 1, _, _, _⟩, ⟨hlt, htk.app⟩, by simp; omega, Weaks.mk htk.app.le rfl (by simp [ToL, byK_succ l h hlt, x2]) trivial⟩
  · repeat (first | refine AL.seq ?_ | refine AL.block ?_ | refine AL.skip ?_ | refine AL.blk ?_)
    refine AL.exit ?_
    simp only [AU, ↓reduceIte]
    repeat (first | refine AL.seq ?_ | refine AL.block ?_ | refine AL.skip ?_ | refine AL.blk ?_)
    refine AL.region follows_Tryz (Nat.le_refl _) (by kernel_rfl) ?_
    simp
    have : i = l.length := by omega
    subst this
    repeat (first | refine AL.seq ?_ | refine AL.block ?_ | refine AL.skip ?_ | refine AL.blk ?_)
    refine AL.ret ?_
    try simp only [AU]
    refine ⟨by simp, Fin.data (by simp [resAs, resA]; rfl) hbox rfl htok htk.old htk.le ?_⟩
    simp [packA, ]

def thenM (m n : Mo) : Mo := ⟨byK m.nodes n.nodes m.nodes.length, byK m.edges n.edges m.edges.length⟩
/-- What a valid morphism holds lies within. -/
theorem firstE_all {f : Nat → Int} : ∀ n, firstE f n = 0 → ∀ i, i < n → f i = 0
  | 0, _, i, hi => absurd hi (Nat.not_lt_zero _)
  | n + 1, h, i, hi => by
    simp only [firstE] at h
    split at h
    · rename_i h0
      by_cases e : i = n
      · subst e; exact h
      · exact firstE_all n h0 i (by omega)
    · contradiction

structure VM (a b : Gr) (m : Mo) : Prop where
  va : validG a = 0
  vb : validG b = 0
  ln : m.nodes.length = a.nodes.length
  le : m.edges.length = a.edges.length
  n : ∀ x ∈ m.nodes, 0 ≤ x ∧ x < b.nodes.length
  e : ∀ x ∈ m.edges, 0 ≤ x ∧ x < b.edges.length
  nt : ∀ i, i < a.nodes.length → b.nodes.getD (m.nodes.getD i 0).toNat 0 = a.nodes.getD i 0
  et : ∀ i, i < a.edges.length → b.edges.getD (m.edges.getD i 0).toNat default = ⟨(a.edges.getD i default).ty, m.nodes.getD (a.edges.getD i default).fr.toNat 0, m.nodes.getD (a.edges.getD i default).to.toNat 0⟩

theorem validM_VM {a b : Gr} {m : Mo} (h : validM a b m = 0) : VM a b m := by
  unfold validM at h
  split at h
  · omega
  · rename_i h1
    split at h
    · omega
    · rename_i h2
      split at h
      · cases h
      · rename_i h3
        have hl1 : m.nodes.length = a.nodes.length := by omega
        have hl2 : m.edges.length = a.edges.length := by omega
        split at h
        · contradiction
        · rename_i h4
          have h4' : firstE (nodeE a b m) a.nodes.length = 0 := Decidable.not_not.1 h4
          have n1 := firstE_all _ h4'
          have n2 := firstE_all _ h
          refine ⟨by omega, by omega, hl1, hl2, fun x hx => ?_, fun x hx => ?_, fun i hi => ?_, fun i hi => ?_⟩
          · obtain ⟨i, hi, rfl⟩ := List.getElem_of_mem hx
            have := n1 i (by omega)
            have e : m.nodes.getD i 0 = m.nodes[i] := by simp [hi]
            unfold nodeE at this
            rw [e] at this
            split at this
            · cases this
            · omega
          · obtain ⟨i, hi, rfl⟩ := List.getElem_of_mem hx
            have := n2 i (by omega)
            have e : m.edges.getD i 0 = m.edges[i] := by simp [hi]
            unfold edgeE at this
            rw [e] at this
            split at this
            · cases this
            · omega
          · have := n1 i hi
            unfold nodeE at this
            split at this
            · cases this
            · split at this
              · assumption
              · cases this
          · have := n2 i hi
            unfold edgeE at this
            split at this
            · cases this
            · simp only at this
              split at this
              · cases this
              · rename_i t1
                split at this
                · cases this
                · rename_i t2
                  have t1' := Decidable.not_not.1 t1
                  simp only [ne_eq, not_or, Decidable.not_not] at t2
                  rw [t1', t2.1, t2.2]

end Go.AM
/-
  shift.holds.
-/
namespace Go.AM
open Go Go.Proofs
set_option linter.unusedSimpArgs false
set_option linter.unusedVariables false

def stIC (xs : List Cd) (f : FuncId) (caps : List AV) (nb : Nat) (box : Nat → Option (List (List AV))) (tok : Nat → Bool) (nt : Nat) (i : Nat) : AState := ⟨tl [(0, .d (conds xs)), (1, .fn (.func f) caps), (7, I xs.length), (8, I i)], lb nb box [], tok, nt⟩
def anyC (p : Cd → Bool) (xs : List Cd) : Bool := xs.any p

theorem indexFuncC_c (xs : List Cd) (f : FuncId) (caps : List AV) (p : Cd → Bool) (hx : xs.length ≤ kidN) (box : Nat → Option (List (List AV))) (nb : Nat) (tok : Nat → Bool) (nt : Nat) (hc : ∀ c ∈ caps, OkIn (fun k => box k ≠ none) (fun _ => True) c)
    (hf : ∀ x ∈ xs, ∀ box' nb', Ext box box' → ACalls Tryz.prog f (x.av :: caps) ⟨box', nb', tok, nt⟩ fun v m => v = B (p x) ∧ m = ⟨box', nb', tok, nt⟩) :
    ACalls Tryz.prog 70 [.d (conds xs), .fn (.func f) caps] ⟨box, nb, tok, nt⟩ fun v m => v = I (if anyC p xs = true then (xs.findIdx p : Nat) else -1) ∧ m = ⟨box, nb, tok, nt⟩ := by
  rw [kidN_eq] at hx
  refine ACalls.of_body Tryz.func70 rfl (by kernel_rfl) follows_Tryz (by kernel_rfl) (by simp [Tryz.ntmps70]) ?_
  intro hbox htok
  simp only at hbox htok
  apply AL.start
  try (simp)
  repeat ((repeat (first | refine AL.seq ?_ | refine AL.block ?_ | refine AL.skip ?_ | refine AL.blk ?_)); (refine AL.region follows_Tryz (Nat.le_refl _) (by kernel_rfl) ?_); simp)
  repeat (first | refine AL.seq ?_ | refine AL.block ?_ | refine AL.skip ?_ | refine AL.blk ?_)
  refine AL.loopT (stIC xs f caps nb box tok nt) (fun i => i ≤ xs.length ∧ ∀ x ∈ xs.take i, p x = false) (fun i => xs.length - i) 0 ⟨Nat.zero_le _, by simp⟩ (Weaks.mk (Nat.le_refl _) rfl (by simp [ToL]; exact .same (okFn hc hbox [] (by simp) rfl _)) trivial) ?_
  rintro i S ⟨hi, htk⟩ hS
  simp only [stIC] at hS
  subst hS
  have hw : IntKind.i64.wrap (↑i + 1) = ((i + 1 : Nat) : Int) := by rw [wrap_in (by omega) (by omega)]; rfl
  try (simp)
  repeat ((repeat (first | refine AL.seq ?_ | refine AL.block ?_ | refine AL.skip ?_ | refine AL.blk ?_)); (refine AL.region follows_Tryz (Nat.le_refl _) (by kernel_rfl) ?_); simp)
  repeat (first | refine AL.seq ?_ | refine AL.block ?_ | refine AL.skip ?_ | refine AL.blk ?_)
  refine AL.cond ?_
  simp
  refine ⟨fun hlt => ?_, fun hge => ?_⟩
  · have hfx := hf xs[i] (List.getElem_mem _)
    have hpx : p xs[i] = true → anyC p xs = true ∧ (xs.findIdx p = i) := fun he => any_take hlt htk he
    have hmore : p xs[i] = false → ∀ x ∈ xs.take (i + 1), p x = false := fun he x hx => by
      rw [List.take_succ_eq_append_getElem hlt] at hx
      rcases List.mem_append.1 hx with hx | hx
      · exact htk x hx
      · simp at hx; rw [hx]; exact he
    try (simp [hlt, Cd.cells_eq])
    repeat ((repeat (first | refine AL.seq ?_ | refine AL.block ?_ | refine AL.skip ?_ | refine AL.blk ?_)); (refine AL.region follows_Tryz (Nat.le_refl _) (by kernel_rfl) ?_); simp [hlt, Cd.cells_eq])
    generalize xs[i] = x at *
    refine Stop.of_b (hfx _ _ ((Ext.refl box).lb hbox [])) ?_
    simp
    cases he : p x
    · repeat (first | refine AL.seq ?_ | refine AL.block ?_ | refine AL.skip ?_ | refine AL.blk ?_)
      refine AL.cond ?_
      simp
      try (simp [hw])
      repeat ((repeat (first | refine AL.seq ?_ | refine AL.block ?_ | refine AL.skip ?_ | refine AL.blk ?_)); (refine AL.region follows_Tryz (Nat.le_refl _) (by kernel_rfl) ?_); simp [hw])
      repeat (first | refine AL.seq ?_ | refine AL.block ?_ | refine AL.skip ?_ | refine AL.blk ?_)
      refine AL.nil ?_
      refine ⟨i + 1, ⟨hlt, ?_⟩, by omega, Weaks.mk (Nat.le_refl _) rfl (by simp [ToL]; exact .same (okFn hc hbox [] (by simp) rfl _)) trivial⟩
      exact hmore he
    · obtain ⟨h1, h2⟩ := hpx he
      repeat (first | refine AL.seq ?_ | refine AL.block ?_ | refine AL.skip ?_ | refine AL.blk ?_)
      refine AL.cond ?_
      simp
      try (simp)
      repeat ((repeat (first | refine AL.seq ?_ | refine AL.block ?_ | refine AL.skip ?_ | refine AL.blk ?_)); (refine AL.region follows_Tryz (Nat.le_refl _) (by kernel_rfl) ?_); simp)
      repeat (first | refine AL.seq ?_ | refine AL.block ?_ | refine AL.skip ?_ | refine AL.blk ?_)
      refine AL.ret ?_
      try simp only [AU]
      refine ⟨by simp, Fin.data (by simp [resAs, resA]; rfl) hbox rfl htok (fun _ h => h) (Nat.le_refl _) ?_⟩
      simp [packA, h1, h2]
  · repeat (first | refine AL.seq ?_ | refine AL.block ?_ | refine AL.skip ?_ | refine AL.blk ?_)
    refine AL.exit ?_
    simp only [AU, ↓reduceIte]
    try (simp)
    repeat ((repeat (first | refine AL.seq ?_ | refine AL.block ?_ | refine AL.skip ?_ | refine AL.blk ?_)); (refine AL.region follows_Tryz (Nat.le_refl _) (by kernel_rfl) ?_); simp)
    have hn : anyC p xs = false := by
      rw [List.take_of_length_le hge] at htk
      simpa [anyC] using htk
    repeat (first | refine AL.seq ?_ | refine AL.block ?_ | refine AL.skip ?_ | refine AL.blk ?_)
    refine AL.ret ?_
    try simp only [AU]
    refine ⟨by simp, Fin.data (by simp [resAs, resA]; rfl) hbox rfl htok (fun _ h => h) (Nat.le_refl _) ?_⟩
    simp [packA, hn]

theorem containsFuncC_c (xs : List Cd) (f : FuncId) (caps : List AV) (p : Cd → Bool) (hx : xs.length ≤ kidN) (box : Nat → Option (List (List AV))) (nb : Nat) (tok : Nat → Bool) (nt : Nat) (hc : ∀ c ∈ caps, OkIn (fun k => box k ≠ none) (fun _ => True) c)
    (hf : ∀ x ∈ xs, ∀ box' nb', Ext box box' → ACalls Tryz.prog f (x.av :: caps) ⟨box', nb', tok, nt⟩ fun v m => v = B (p x) ∧ m = ⟨box', nb', tok, nt⟩) :
    ACalls Tryz.prog 49 [.d (conds xs), .fn (.func f) caps] ⟨box, nb, tok, nt⟩ fun v m => v = B (anyC p xs) ∧ m = ⟨box, nb, tok, nt⟩ := by
  refine ACalls.of_body Tryz.func49 rfl (by kernel_rfl) follows_Tryz (by kernel_rfl) (by simp [Tryz.ntmps49]) ?_
  intro hbox htok
  simp only at hbox htok
  apply AL.start
  try (simp)
  repeat ((repeat (first | refine AL.seq ?_ | refine AL.block ?_ | refine AL.skip ?_ | refine AL.blk ?_)); (refine AL.region follows_Tryz (Nat.le_refl _) (by kernel_rfl) ?_); simp)
  refine Stop.of_b (indexFuncC_c xs f caps p hx (lb nb box []) _ _ _ (fun c h => (hc c h).mono (fun k hk => by rw [hbox]; exact hk) fun _ h => h) (fun x hx' box' nb' he => hf x hx' box' nb' (by rw [hbox] at he; exact he))) ?_
  simp
  cases hany : anyC p xs
  · try (simp)
    repeat ((repeat (first | refine AL.seq ?_ | refine AL.block ?_ | refine AL.skip ?_ | refine AL.blk ?_)); (refine AL.region follows_Tryz (Nat.le_refl _) (by kernel_rfl) ?_); simp)
    repeat (first | refine AL.seq ?_ | refine AL.block ?_ | refine AL.skip ?_ | refine AL.blk ?_)
    refine AL.ret ?_
    try simp only [AU]
    refine ⟨by simp, Fin.data (by simp [resAs, resA]; rfl) hbox rfl htok (fun _ h => h) (Nat.le_refl _) ?_⟩
    simp [packA]
  · have h0 : (0 : Int) ≤ (xs.findIdx p : Nat) := by omega
    try (simp)
    repeat ((repeat (first | refine AL.seq ?_ | refine AL.block ?_ | refine AL.skip ?_ | refine AL.blk ?_)); (refine AL.region follows_Tryz (Nat.le_refl _) (by kernel_rfl) ?_); simp)
    repeat (first | refine AL.seq ?_ | refine AL.block ?_ | refine AL.skip ?_ | refine AL.blk ?_)
    refine AL.ret ?_
    try simp only [AU]
    refine ⟨by simp, Fin.data (by simp [resAs, resA]; rfl) hbox rfl htok (fun _ h => h) (Nat.le_refl _) ?_⟩
    simp [packA, h0]

abbrev Mo.cells2 (m : Mo) : List AV := [.d (ints m.nodes), .d (ints m.edges)]
theorem yes66_c (k : Cd) (g : Gr) (m : Mo) (r : Bool) (hd : ∀ tok nt, DCall Tryz.prog 30 [k.av, g.av, m.av] tok nt (B r) tok nt) (box : Nat → Option (List (List AV))) (nb k1 k2 : Nat) (tok : Nat → Bool) (nt : Nat) (h1 : box k1 = some [g.cells2]) (h2 : box k2 = some [m.cells2]) :
    ACalls Tryz.prog 47 [k.av, .ptr k1 0 0, .ptr k2 0 0] ⟨box, nb, tok, nt⟩ fun v m => v = B r ∧ m = ⟨box, nb, tok, nt⟩ := by
  refine ACalls.of_body Tryz.func47 rfl (by kernel_rfl) follows_Tryz (by kernel_rfl) (by simp [Tryz.ntmps47]) ?_
  intro hbox htok
  simp only at hbox htok
  apply AL.start
  have k1n := key_lt hbox h1
  have k2n := key_lt hbox h2
  try (simp [lb_out k1n, h1, lb_out k2n, h2])
  repeat ((repeat (first | refine AL.seq ?_ | refine AL.block ?_ | refine AL.skip ?_ | refine AL.blk ?_)); (refine AL.region follows_Tryz (Nat.le_refl _) (by kernel_rfl) ?_); simp [lb_out k1n, h1, lb_out k2n, h2])
  refine Stop.of_d (hd _ _) ?_
  simp
  try (simp)
  repeat ((repeat (first | refine AL.seq ?_ | refine AL.block ?_ | refine AL.skip ?_ | refine AL.blk ?_)); (refine AL.region follows_Tryz (Nat.le_refl _) (by kernel_rfl) ?_); simp)
  repeat (first | refine AL.seq ?_ | refine AL.block ?_ | refine AL.skip ?_ | refine AL.blk ?_)
  refine AL.ret ?_
  try simp only [AU]
  refine ⟨by simp, Fin.data (by simp [resAs, resA]; rfl) hbox rfl htok (fun _ h => h) (Nat.le_refl _) ?_⟩
  simp [packA]
theorem no67_c (k : Cd) (g : Gr) (m : Mo) (r : Bool) (hd : ∀ tok nt, DCall Tryz.prog 30 [k.av, g.av, m.av] tok nt (B r) tok nt) (box : Nat → Option (List (List AV))) (nb k1 k2 : Nat) (tok : Nat → Bool) (nt : Nat) (h1 : box k1 = some [g.cells2]) (h2 : box k2 = some [m.cells2]) :
    ACalls Tryz.prog 48 [k.av, .ptr k1 0 0, .ptr k2 0 0] ⟨box, nb, tok, nt⟩ fun v m => v = B (!r) ∧ m = ⟨box, nb, tok, nt⟩ := by
  refine ACalls.of_body Tryz.func48 rfl (by kernel_rfl) follows_Tryz (by kernel_rfl) (by simp [Tryz.ntmps48]) ?_
  intro hbox htok
  simp only at hbox htok
  apply AL.start
  have k1n := key_lt hbox h1
  have k2n := key_lt hbox h2
  try (simp [lb_out k1n, h1, lb_out k2n, h2])
  repeat ((repeat (first | refine AL.seq ?_ | refine AL.block ?_ | refine AL.skip ?_ | refine AL.blk ?_)); (refine AL.region follows_Tryz (Nat.le_refl _) (by kernel_rfl) ?_); simp [lb_out k1n, h1, lb_out k2n, h2])
  refine Stop.of_d (hd _ _) ?_
  simp
  try (simp)
  repeat ((repeat (first | refine AL.seq ?_ | refine AL.block ?_ | refine AL.skip ?_ | refine AL.blk ?_)); (refine AL.region follows_Tryz (Nat.le_refl _) (by kernel_rfl) ?_); simp)
  repeat (first | refine AL.seq ?_ | refine AL.block ?_ | refine AL.skip ?_ | refine AL.blk ?_)
  refine AL.ret ?_
  try simp only [AU]
  refine ⟨by simp, Fin.data (by simp [resAs, resA]; rfl) hbox rfl htok (fun _ h => h) (Nat.le_refl _) ?_⟩
  simp [packA]
theorem acc70_c (c k : Cd) (g : Gr) (m : Mo) (r : Bool) (hl0 : 0 < c.kids.length) (hk : c.kids[0] = k) (hd : ∀ tok nt, DCall Tryz.prog 30 [k.av, g.av, m.av] tok nt (B r) tok nt) (box : Nat → Option (List (List AV))) (nb k1 k2 : Nat) (tok : Nat → Bool) (nt : Nat) (h1 : box k1 = some [c.row]) (h2 : box k2 = some [g.cells2]) :
    ACalls Tryz.prog 51 [m.av, .ptr k1 0 0, .ptr k2 0 0] ⟨box, nb, tok, nt⟩ fun v m => v = B r ∧ m = ⟨box, nb, tok, nt⟩ := by
  refine ACalls.of_body Tryz.func51 rfl (by kernel_rfl) follows_Tryz (by kernel_rfl) (by simp [Tryz.ntmps51]) ?_
  intro hbox htok
  simp only at hbox htok
  apply AL.start
  have k1n := key_lt hbox h1
  have k2n := key_lt hbox h2
  try (simp [lb_out k1n, h1, lb_out k2n, h2, hk, hl0, Cd.cells_eq])
  repeat ((repeat (first | refine AL.seq ?_ | refine AL.block ?_ | refine AL.skip ?_ | refine AL.blk ?_)); (refine AL.region follows_Tryz (Nat.le_refl _) (by kernel_rfl) ?_); simp [lb_out k1n, h1, lb_out k2n, h2, hk, hl0, Cd.cells_eq])
  refine Stop.of_d (hd _ _) ?_
  simp
  try (simp)
  repeat ((repeat (first | refine AL.seq ?_ | refine AL.block ?_ | refine AL.skip ?_ | refine AL.blk ?_)); (refine AL.region follows_Tryz (Nat.le_refl _) (by kernel_rfl) ?_); simp)
  repeat (first | refine AL.seq ?_ | refine AL.block ?_ | refine AL.skip ?_ | refine AL.blk ?_)
  refine AL.ret ?_
  try simp only [AU]
  refine ⟨by simp, Fin.data (by simp [resAs, resA]; rfl) hbox rfl htok (fun _ h => h) (Nat.le_refl _) ?_⟩
  simp [packA]

def holStep (k : Int) (mm : Mo) (p g : Gr) (m : Mo) (bs : Mo → List Bool) : Bool :=
  if k = 2 then !((bs m).headD false) else if k = 3 then (bs m).all id else if k = 4 then (bs m).any id
  else if k = 5 then nodeB p g (fun q => (bs q).headD false) (imgK p.edges.length mm.edges m.edges mm.edges.length) p.nodes.length (imgK p.nodes.length mm.nodes m.nodes mm.nodes.length)
  else true
mutual
def Cd.hol : Cd → Gr → Mo → Bool
  | .mk k c mm p s v t, g, m => holStep k mm p g m (fun q => Cd.holL c g q)
def Cd.holL : List Cd → Gr → Mo → List Bool
  | [], _, _ => []
  | x :: r, g, m => Cd.hol x g m :: Cd.holL r g m
end
theorem Cd.holL_eq (g : Gr) (m : Mo) : ∀ l : List Cd, Cd.holL l g m = l.map fun x => Cd.hol x g m
  | [] => by simp [Cd.holL]
  | x :: r => by simp [Cd.holL, Cd.holL_eq g m r]
theorem Cd.hol_eq (c : Cd) (g : Gr) (m : Mo) : c.hol g m = holStep c.kind c.m c.g g m (fun q => c.kids.map fun x => Cd.hol x g q) := by
  cases c
  simp only [Cd.hol, Cd.holL_eq]
  rfl

theorem Ext.of_lk {base : Nat} {out : Nat → Option (List (List AV))} {L L' : List (Nat × List (List AV))} (h : ∀ s r, lk L s = some r → lk L' s = some r) : Ext (AM.lb base out L) (AM.lb base out L') := fun k rows hk => by
  by_cases hb : k < base
  · rw [lb_out hb] at hk ⊢; exact hk
  · have hkk : k = base + (k - base) := by omega
    rw [hkk, lb_at] at hk ⊢
    exact h _ _ hk
structure Flm (a : Gr) (m : Mo) : Prop where
  n : m.nodes.length = a.nodes.length
  e : m.edges.length = a.edges.length
  nn : ∀ x ∈ m.nodes, 0 ≤ x
  ne : ∀ x ∈ m.edges, 0 ≤ x
theorem errL_zero {f : Cd → Int} : ∀ {l : List Cd}, errL f l = 0 → ∀ x ∈ l, f x = 0
  | [], _, x, hx => by cases hx
  | y :: r, h, x, hx => by
    simp only [errL] at h
    split at h
    · rename_i h0
      rcases List.mem_cons.1 hx with rfl | hx
      · exact h0
      · exact errL_zero h x hx
    · contradiction
theorem Cd.ovr_zero {c : Cd} {a : Gr} (h : c.ovr a = 0) : shapeC c = 0 ∧ ovrStep a c.kind c.m c.g = 0 ∧ ∀ x ∈ c.kids, x.ovr (c.inn a) = 0 := by
  rw [c.ovr_eq] at h
  split at h
  · rename_i h0
    split at h
    · rename_i h1
      exact ⟨h0, h1, errL_zero h⟩
    · contradiction
  · contradiction
theorem shape_one {c : Cd} (h : shapeC c = 0) (h5 : c.kind = 2 ∨ c.kind = 5) : 0 < c.kids.length := by
  unfold shapeC at h
  split at h
  · rename_i hk
    rcases h5 with h5 | h5 <;> simp [okC, h5] at hk <;> omega
  · omega
theorem all_any {l : List Bool} : l.all id = !(l.any not) := by
  induction l with
  | nil => rfl
  | cons x r ih => cases x <;> simp [ih]

theorem ThR.nil {t k sz : Nat} {es : List (List D)} : ThR t k sz es [] [] := ⟨rfl, fun i h => by simp at h⟩
theorem ThR.cons {t k sz : Nat} {es : List (List D)} {x y : AV} {r r' : List AV} (h : ThTo t k sz es x y) (hr : ThR t k sz es r r') : ThR t k sz es (x :: r) (y :: r') := by
  refine ⟨by simp [hr.1], fun i h1 h2 => ?_⟩
  match i with
  | 0 => exact h
  | i + 1 => exact hr.2 i (by simpa using h1) (by simpa using h2)
theorem ThRs.one {t k sz : Nat} {es : List (List D)} {r r' : List AV} (h : ThR t k sz es r r') : ThRs t k sz es [r] [r'] := by
  refine ⟨rfl, fun i h1 h2 => ?_⟩
  match i with
  | 0 => exact h
  | i + 1 => simp at h1
theorem ThRs.same {t k sz : Nat} {es : List (List D)} {r : List (List AV)} : ThRs t k sz es r r := ⟨rfl, fun i h1 h2 => ⟨rfl, fun j g1 g2 => .same⟩⟩
theorem imgK_neg {n : Nat} {by' m : List Int} (hm : ∀ x ∈ m, 0 ≤ x) (h : by'.length ≤ m.length) : ∀ i, i ≤ by'.length → ∀ x ∈ imgK n by' m i, x < 0 → x = -1
  | 0, _, x, hx, _ => (List.mem_replicate.1 hx).2
  | i + 1, hi, x, hx, hneg => by
    rcases List.mem_or_eq_of_mem_set hx with h1 | h1
    · exact imgK_neg hm h i (by omega) x h1 hneg
    · have him : i < m.length := by omega
      have := hm m[i] (List.getElem_mem him)
      simp [him] at h1
      omega

set_option maxRecDepth 100000 in
theorem holds43_c : ∀ (n : Nat) (c : Cd), SizeOf.sizeOf c < n → c.Fit → ∀ a, c.ovr a = 0 → ∀ g : Gr, g.Fit → ∀ m : Mo, Flm a m → ∀ (tok : Nat → Bool) (nt : Nat), DCall Tryz.prog 30 [c.av, g.av, m.av] tok nt (B (c.hol g m)) tok nt
  | 0, c, hn, _, _, _, _, _, _, _, tok, nt => absurd hn (Nat.not_lt_zero _)
  | n + 1, c, hn, hb, a, hv, g, hg, m, hm, tok, nt => by
    intro box nb
    have ih := fun x (hx : x ∈ c.kids) => holds43_c n x (by have := Cd.kid_lt hx; omega) (hb.kid x hx) (c.inn a) ((Cd.ovr_zero hv).2.2 x hx) g hg
    obtain ⟨hs0, hst, _⟩ := Cd.ovr_zero hv
    have hkb := hb.kids
    have hR := c.hol_eq g m
    have hsk := shape_one hs0
    have hcap : ∀ c1 ∈ [AV.ptr (nb + 4) 0 0, .ptr (nb + 5) 0 0], OkIn (fun k => lb nb box [(5, [m.cells2]), (4, [g.cells2]), (3, [c.row])] k ≠ none) (fun _ => True) c1 := by
      intro c1 hc1
      simp only [List.mem_cons, List.not_mem_nil, or_false] at hc1
      rcases hc1 with rfl | rfl
      · exact .ptr (by simp [lb_at])
      · exact .ptr (by simp [lb_at])
    refine ACalls.of_body Tryz.func30 rfl (by kernel_rfl) follows_Tryz (by kernel_rfl) (by simp [Tryz.ntmps30]) ?_
    intro hbox htok
    simp only at hbox htok
    apply AL.start
    try (simp)
    repeat ((repeat (first | refine AL.seq ?_ | refine AL.block ?_ | refine AL.skip ?_ | refine AL.blk ?_)); (refine AL.region follows_Tryz (Nat.le_refl _) (by kernel_rfl) ?_); simp)
    by_cases k2 : c.kind = 2
    · have b2 : (c.kind == 2) = true := by simp [k2]
      have hlt : 0 < c.kids.length := hsk (.inl k2)
      have hii : c.inn a = a := if_neg (by rw [k2]; decide)
      rw [hii] at ih
      have ihx := ih _ (List.getElem_mem hlt) m hm
      have hR2 : c.hol g m = !(Cd.hol c.kids[0] g m) := by
        rw [hR, holStep, if_pos k2]
        congr 1
        match c.kids, hlt with
        | y :: r, _ => rfl
      simp only [b2]
      repeat (first | refine AL.seq ?_ | refine AL.block ?_ | refine AL.skip ?_ | refine AL.blk ?_)
      refine AL.cond ?_
      simp
      try (simp [hlt, Cd.cells_eq])
      repeat ((repeat (first | refine AL.seq ?_ | refine AL.block ?_ | refine AL.skip ?_ | refine AL.blk ?_)); (refine AL.region follows_Tryz (Nat.le_refl _) (by kernel_rfl) ?_); simp [hlt, Cd.cells_eq])
      generalize c.kids[0] = x at *
      refine Stop.of_b (no67_c x g m _ ihx _ _ _ _ _ _ (by simp [lb_at]) (by simp [lb_at])) ?_
      simp
      try (simp)
      repeat ((repeat (first | refine AL.seq ?_ | refine AL.block ?_ | refine AL.skip ?_ | refine AL.blk ?_)); (refine AL.region follows_Tryz (Nat.le_refl _) (by kernel_rfl) ?_); simp)
      repeat (first | refine AL.seq ?_ | refine AL.block ?_ | refine AL.skip ?_ | refine AL.blk ?_)
      refine AL.ret ?_
      try simp only [AU]
      refine ⟨by simp, Fin.data (by simp [resAs, resA]; rfl) hbox rfl htok (fun _ h => h) (Nat.le_refl _) ?_⟩
      simp [packA, hR2]
    · have b2 : (c.kind == 2) = false := by simp [k2]
      simp only [b2]
      repeat (first | refine AL.seq ?_ | refine AL.block ?_ | refine AL.skip ?_ | refine AL.blk ?_)
      refine AL.cond ?_
      simp
      try (simp)
      repeat ((repeat (first | refine AL.seq ?_ | refine AL.block ?_ | refine AL.skip ?_ | refine AL.blk ?_)); (refine AL.region follows_Tryz (Nat.le_refl _) (by kernel_rfl) ?_); simp)
      by_cases k3 : c.kind = 3
      · have b3 : (c.kind == 3) = true := by simp [k3]
        have hii : c.inn a = a := if_neg (by rw [k3]; decide)
        rw [hii] at ih
        have hR3 : c.hol g m = !(anyC (fun x => !(x.hol g m)) c.kids) := by
          rw [hR, holStep, if_neg k2, if_pos k3, all_any, anyC, List.any_map]
          rfl
        simp only [b3]
        repeat (first | refine AL.seq ?_ | refine AL.block ?_ | refine AL.skip ?_ | refine AL.blk ?_)
        refine AL.cond ?_
        simp
        try (simp)
        repeat ((repeat (first | refine AL.seq ?_ | refine AL.block ?_ | refine AL.skip ?_ | refine AL.blk ?_)); (refine AL.region follows_Tryz (Nat.le_refl _) (by kernel_rfl) ?_); simp)
        refine Stop.of_b (containsFuncC_c c.kids 48 [.ptr (nb + 4) 0 0, .ptr (nb + 5) 0 0] (fun x => !(x.hol g m)) hkb _ _ _ _ hcap (fun x hx box' nb' he => no67_c x g m _ (ih x hx m hm) _ _ _ _ _ _ (he _ _ (by simp [lb_at])) (he _ _ (by simp [lb_at])))) ?_
        simp
        try (simp)
        repeat ((repeat (first | refine AL.seq ?_ | refine AL.block ?_ | refine AL.skip ?_ | refine AL.blk ?_)); (refine AL.region follows_Tryz (Nat.le_refl _) (by kernel_rfl) ?_); simp)
        repeat (first | refine AL.seq ?_ | refine AL.block ?_ | refine AL.skip ?_ | refine AL.blk ?_)
        refine AL.ret ?_
        try simp only [AU]
        refine ⟨by simp, Fin.data (by simp [resAs, resA]; rfl) hbox rfl htok (fun _ h => h) (Nat.le_refl _) ?_⟩
        simp [packA, hR3]
      · have b3 : (c.kind == 3) = false := by simp [k3]
        simp only [b3]
        repeat (first | refine AL.seq ?_ | refine AL.block ?_ | refine AL.skip ?_ | refine AL.blk ?_)
        refine AL.cond ?_
        simp
        try (simp)
        repeat ((repeat (first | refine AL.seq ?_ | refine AL.block ?_ | refine AL.skip ?_ | refine AL.blk ?_)); (refine AL.region follows_Tryz (Nat.le_refl _) (by kernel_rfl) ?_); simp)
        by_cases k4 : c.kind = 4
        · have b4 : (c.kind == 4) = true := by simp [k4]
          have hii : c.inn a = a := if_neg (by rw [k4]; decide)
          rw [hii] at ih
          have hR4 : c.hol g m = anyC (fun x => x.hol g m) c.kids := by
            rw [hR, holStep, if_neg k2, if_neg k3, if_pos k4, anyC, List.any_map]
            rfl
          simp only [b4]
          repeat (first | refine AL.seq ?_ | refine AL.block ?_ | refine AL.skip ?_ | refine AL.blk ?_)
          refine AL.cond ?_
          simp
          try (simp)
          repeat ((repeat (first | refine AL.seq ?_ | refine AL.block ?_ | refine AL.skip ?_ | refine AL.blk ?_)); (refine AL.region follows_Tryz (Nat.le_refl _) (by kernel_rfl) ?_); simp)
          refine Stop.of_b (containsFuncC_c c.kids 47 [.ptr (nb + 4) 0 0, .ptr (nb + 5) 0 0] (fun x => x.hol g m) hkb _ _ _ _ hcap (fun x hx box' nb' he => yes66_c x g m _ (ih x hx m hm) _ _ _ _ _ _ (he _ _ (by simp [lb_at])) (he _ _ (by simp [lb_at])))) ?_
          simp
          try (simp)
          repeat ((repeat (first | refine AL.seq ?_ | refine AL.block ?_ | refine AL.skip ?_ | refine AL.blk ?_)); (refine AL.region follows_Tryz (Nat.le_refl _) (by kernel_rfl) ?_); simp)
          repeat (first | refine AL.seq ?_ | refine AL.block ?_ | refine AL.skip ?_ | refine AL.blk ?_)
          refine AL.ret ?_
          try simp only [AU]
          refine ⟨by simp, Fin.data (by simp [resAs, resA]; rfl) hbox rfl htok (fun _ h => h) (Nat.le_refl _) ?_⟩
          simp [packA, hR4]
        · have b4 : (c.kind == 4) = false := by simp [k4]
          simp only [b4]
          repeat (first | refine AL.seq ?_ | refine AL.block ?_ | refine AL.skip ?_ | refine AL.blk ?_)
          refine AL.cond ?_
          simp
          try (simp)
          repeat ((repeat (first | refine AL.seq ?_ | refine AL.block ?_ | refine AL.skip ?_ | refine AL.blk ?_)); (refine AL.region follows_Tryz (Nat.le_refl _) (by kernel_rfl) ?_); simp)
          by_cases k5 : c.kind = 5
          · have b5 : (c.kind == 5) = true := by simp [k5]
            simp only [b5]
            repeat (first | refine AL.seq ?_ | refine AL.block ?_ | refine AL.skip ?_ | refine AL.blk ?_)
            refine AL.cond ?_
            simp
            try (simp)
            repeat ((repeat (first | refine AL.seq ?_ | refine AL.block ?_ | refine AL.skip ?_ | refine AL.blk ?_)); (refine AL.region follows_Tryz (Nat.le_refl _) (by kernel_rfl) ?_); simp)
            have hii : c.inn a = c.g := if_pos k5
            rw [hii] at ih
            have hlt : 0 < c.kids.length := hsk (.inr k5)
            have hvm : validM a c.g c.m = 0 := by
              have h := hst
              unfold ovrStep at h
              rw [if_pos k5] at h
              split at h
              · contradiction
              · rename_i h1; simpa using h1
            have V := validM_VM hvm
            have hgc := hb.g
            have c1 : c.m.nodes.length = m.nodes.length := V.ln.trans hm.n.symm
            have c2 : c.m.edges.length = m.edges.length := V.le.trans hm.e.symm
            have c3 := hb.m.n
            have c4 := hb.m.e
            refine Stop.of_d (images69_c c.g.nodes.length c.m.nodes m.nodes hgc.n c3 (by omega) V.n _ _) ?_
            simp
            try (simp)
            repeat ((repeat (first | refine AL.seq ?_ | refine AL.block ?_ | refine AL.skip ?_ | refine AL.blk ?_)); (refine AL.region follows_Tryz (Nat.le_refl _) (by kernel_rfl) ?_); simp)
            refine Stop.of_d (images69_c c.g.edges.length c.m.edges m.edges hgc.e c4 (by omega) V.e _ _) ?_
            simp
            have l1 : (imgK c.g.nodes.length c.m.nodes m.nodes c.m.nodes.length).length = c.g.nodes.length := imgK_len _ _ _ _
            have l2 : (imgK c.g.edges.length c.m.edges m.edges c.m.edges.length).length = c.g.edges.length := imgK_len _ _ _ _
            have n1 := imgK_neg (n := c.g.nodes.length) (by' := c.m.nodes) hm.nn (by omega) c.m.nodes.length (Nat.le_refl _)
            have n2 := imgK_neg (n := c.g.edges.length) (by' := c.m.edges) hm.ne (by omega) c.m.edges.length (Nat.le_refl _)
            have hR5 : c.hol g m = nodeB c.g g (fun q => Cd.hol c.kids[0] g q) (imgK c.g.edges.length c.m.edges m.edges c.m.edges.length) c.g.nodes.length (imgK c.g.nodes.length c.m.nodes m.nodes c.m.nodes.length) := by
              rw [hR, holStep, if_neg k2, if_neg k3, if_neg k4, if_pos k5]
              congr 1
              funext q
              match c.kids, hlt with
              | y :: r, _ => rfl
            generalize imgK c.g.nodes.length c.m.nodes m.nodes c.m.nodes.length = N0 at *
            generalize imgK c.g.edges.length c.m.edges m.edges c.m.edges.length = E0 at *
            repeat (first | refine AL.seq ?_ | refine AL.block ?_ | refine AL.skip ?_ | refine AL.blk ?_)
            refine AL.weak (Weaks.mk (l' := [(10, .ptr (nb + 62) 0 0), (3, .ptr (nb + 3) 0 0), (4, .ptr (nb + 4) 0 0), (51, .ex (nt + 1) 1 (rI N0)), (60, .ex (nt + 2 + 1) 1 (rI E0))])
              (loc' := [(62, [[.d (ints c.g.nodes), .d (AM.edges c.g.edges), .d (ints g.nodes), .d (AM.edges g.edges), .ex (nt + 1) 1 (rI N0), .ex (nt + 2 + 1) 1 (rI E0), .d (.raw .nilFunc)]]), (4, [g.cells2]), (3, [c.row])]) (by omega) rfl (by simp [ToL]) (by simp [BoxL])) ?_
            refine AL.trans (Trans.thawI (l' := [(10, .ptr (nb + 62) 0 0), (3, .ptr (nb + 3) 0 0), (4, .ptr (nb + 4) 0 0), (51, .msl (nb + 51) 0 c.g.nodes.length 1), (60, .ex (nt + 2 + 1) 1 (rI E0))])
              (loc' := [(62, [[.d (ints c.g.nodes), .d (AM.edges c.g.edges), .d (ints g.nodes), .d (AM.edges g.edges), .msl (nb + 51) 0 c.g.nodes.length 1, .ex (nt + 2 + 1) 1 (rI E0), .d (.raw .nilFunc)]]), (4, [g.cells2]), (3, [c.row])])
              (nt + 1) 51 N0 51 rfl (by show 51 < 69; decide) rfl (by rw [upd_other _ _ (by omega)]; exact upd_same _ _ _) rfl
              ⟨rfl, .same, rfl, .same, rfl, .same, rfl, thTo_exI l1.symm, rfl, .same, trivial⟩
              ⟨rfl, .one (.cons .same (.cons .same (.cons .same (.cons .same (.cons (thTo_exI l1.symm) (.cons .same (.cons .same .nil))))))), rfl, .same, rfl, .same, trivial⟩) ?_
            refine AL.trans (Trans.thawI (l' := [(10, .ptr (nb + 62) 0 0), (3, .ptr (nb + 3) 0 0), (4, .ptr (nb + 4) 0 0), (51, .msl (nb + 51) 0 c.g.nodes.length 1), (60, .msl (nb + 60) 0 c.g.edges.length 1)])
              (loc' := [(51, rowsI N0), (62, [[.d (ints c.g.nodes), .d (AM.edges c.g.edges), .d (ints g.nodes), .d (AM.edges g.edges), .msl (nb + 51) 0 c.g.nodes.length 1, .msl (nb + 60) 0 c.g.edges.length 1, .d (.raw .nilFunc)]]), (4, [g.cells2]), (3, [c.row])])
              (nt + 2 + 1) 60 E0 60 rfl (by show 60 < 69; decide) rfl (by rw [upd_other _ _ (by omega)]; exact upd_same _ _ _) rfl
              ⟨rfl, .same, rfl, .same, rfl, .same, rfl, .same, rfl, thTo_exI l2.symm, trivial⟩
              ⟨rfl, .same, rfl, .one (.cons .same (.cons .same (.cons .same (.cons .same (.cons .same (.cons (thTo_exI l2.symm) (.cons .same .nil))))))), rfl, .same, rfl, .same, trivial⟩) ?_
            have htt : ∀ t, tok t = true → upd (upd (upd (upd tok (nt + 1) true) (nt + 2 + 1) true) (nt + 1) false) (nt + 2 + 1) false t = true := fun t ht => by
              have := htok t ht
              rw [upd_other _ _ (by omega), upd_other _ _ (by omega), upd_other _ _ (by omega), upd_other _ _ (by omega)]; exact ht
            generalize upd (upd (upd (upd tok (nt + 1) true) (nt + 2 + 1) true) (nt + 1) false) (nt + 2 + 1) false = tok1 at *
            try (simp)
            repeat ((repeat (first | refine AL.seq ?_ | refine AL.block ?_ | refine AL.skip ?_ | refine AL.blk ?_)); (refine AL.region follows_Tryz (Nat.le_refl _) (by kernel_rfl) ?_); simp)
            have hF : ExF c.g g (nb + 62) (nb + 51) (nb + 60) (lb nb box [(4, [g.cells2]), (3, [c.row])]) :=
              ⟨hgc, hg, fun e he => validG_edges V.vb e he, by omega, by omega, by omega, by simp [lb_at, lk], by simp [lb_at, lk]⟩
            refine Stop.of_a (node71_c c.g g (fun q => Cd.hol c.kids[0] g q) 51 [.ptr (nb + 3) 0 0, .ptr (nb + 4) 0 0] (nb + 62) (nb + 51) (nb + 60) (lb nb box [(4, [g.cells2]), (3, [c.row])]) hF ?_ ?_ c.g.nodes.length 0 (by omega) N0 E0 _ _ _ _ ?_ n1 n2 (fun j hj => absurd hj (Nat.not_lt_zero _))) ?_
            · intro c1 hc1
              simp only [List.mem_cons, List.not_mem_nil, or_false] at hc1
              rcases hc1 with rfl | rfl
              · exact .ptr (by simp [lb_at])
              · exact .ptr (by simp [lb_at])
            · intro q box' nb' tok' nt' he q1 q2 q3 q4
              exact acc70_c c _ g q _ hlt rfl (ih _ (List.getElem_mem hlt) q ⟨q1, q2, q3, q4⟩) box' nb' _ _ _ _ (he _ _ (by simp [lb_at])) (he _ _ (by simp [lb_at]))
            · refine ⟨?_, by simp [lb_at], by simp [lb_at], by simp [lb_at], l1, l2⟩
              refine Ext.of_lk fun s r hs => ?_
              rw [lk_cons, lk_cons] at hs
              by_cases e4 : s = 4
              · subst e4; simpa [lk_cons] using hs
              · rw [if_neg (by omega)] at hs
                by_cases e3 : s = 3
                · subst e3; simpa [lk_cons] using hs
                · rw [if_neg (by omega)] at hs; simp [lk] at hs
            rintro v m1 ⟨rfl, N', E', hl, hl2, hE', rfl⟩
            try (simp)
            repeat ((repeat (first | refine AL.seq ?_ | refine AL.block ?_ | refine AL.skip ?_ | refine AL.blk ?_)); (refine AL.region follows_Tryz (Nat.le_refl _) (by kernel_rfl) ?_); simp)
            repeat (first | refine AL.seq ?_ | refine AL.block ?_ | refine AL.skip ?_ | refine AL.blk ?_)
            refine AL.ret ?_
            try simp only [AU]
            refine ⟨by simp, Fin.gen (by simp [resAs, resA]; rfl) hbox (Nat.le_refl _) (by omega) (fun t ht => ⟨htt t ht, .inr (htok t ht)⟩) (fun k rows _ h => .inl h) (by simp [packA, hR5])⟩
          · have b5 : (c.kind == 5) = false := by simp [k5]
            simp only [b5]
            repeat (first | refine AL.seq ?_ | refine AL.block ?_ | refine AL.skip ?_ | refine AL.blk ?_)
            refine AL.cond ?_
            simp
            try (simp)
            repeat ((repeat (first | refine AL.seq ?_ | refine AL.block ?_ | refine AL.skip ?_ | refine AL.blk ?_)); (refine AL.region follows_Tryz (Nat.le_refl _) (by kernel_rfl) ?_); simp)
            repeat (first | refine AL.seq ?_ | refine AL.block ?_ | refine AL.skip ?_ | refine AL.blk ?_)
            refine AL.ret ?_
            try simp only [AU]
            refine ⟨by simp, Fin.data (by simp [resAs, resA]; rfl) hbox rfl htok (fun _ h => h) (Nat.le_refl _) ?_⟩
            simp [packA, hR, holStep, k2, k3, k4, k5]
end Go.AM
/-
  shift.Satisfies, agree.
-/
namespace Go.AM
open Go Go.Proofs
set_option linter.unusedSimpArgs false
set_option linter.unusedVariables false

def satR (a : Gr) (c : Cd) (g : Gr) (m : Mo) : Bool × Int := if arrR a g m ≠ 0 then (false, arrR a g m) else if validC a c ≠ 0 then (false, validC a c) else (c.hol g m, 0)
theorem arrR_valid {a b : Gr} {m : Mo} (h : arrR a b m = 0) : validM a b m = 0 ∧ injM a b m = true := by
  unfold arrR at h
  split at h
  · contradiction
  · rename_i h1
    split at h
    · rename_i h2; exact ⟨by simpa using h1, h2⟩
    · contradiction
theorem arrR_flm {a b : Gr} {m : Mo} (h : arrR a b m = 0) : Flm a m :=
  have V := validM_VM (arrR_valid h).1
  ⟨V.ln, V.le, fun x hx => (V.n x hx).1, fun x hx => (V.e x hx).1⟩
theorem validC_ovr {a : Gr} {c : Cd} (h : validC a c = 0) : validG a = 0 ∧ c.ovr a = 0 ∧ smallC c = 0 := by
  unfold validC at h
  split at h
  · contradiction
  · rename_i h1
    split at h
    · contradiction
    · rename_i h2; exact ⟨by simpa using h1, by simpa using h2, h⟩

theorem satisfies_c (a : Gr) (c : Cd) (g : Gr) (m : Mo) (ha : a.Fit) (hc : c.Fit) (hg : g.Fit) (hm : m.Fit) (tok : Nat → Bool) (nt : Nat) : DCall Tryz.prog 10 [a.av, c.av, g.av, m.av] tok nt (.tup [B (satR a c g m).1, I (satR a c g m).2]) tok nt := by
  intro box nb
  have hi := cdInj_c a g m ha hg hm
  have hv := validC_c a c ha hc
  have hh := fun (h1 : arrR a g m = 0) (h2 : validC a c = 0) => holds43_c _ c (Nat.lt_succ_self _) hc a (validC_ovr h2).2.1 g hg m (arrR_flm h1)
  refine ACalls.of_body Tryz.func10 rfl (by kernel_rfl) follows_Tryz (by kernel_rfl) (by simp [Tryz.ntmps10]) ?_
  intro hbox htok
  simp only at hbox htok
  apply AL.start
  try (simp)
  repeat ((repeat (first | refine AL.seq ?_ | refine AL.block ?_ | refine AL.skip ?_ | refine AL.blk ?_)); (refine AL.region follows_Tryz (Nat.le_refl _) (by kernel_rfl) ?_); simp)
  refine Stop.of_d (hi _ _) ?_
  simp
  try (simp)
  repeat ((repeat (first | refine AL.seq ?_ | refine AL.block ?_ | refine AL.skip ?_ | refine AL.blk ?_)); (refine AL.region follows_Tryz (Nat.le_refl _) (by kernel_rfl) ?_); simp)
  by_cases h0 : arrR a g m = 0
  · simp only [h0]
    repeat (first | refine AL.seq ?_ | refine AL.block ?_ | refine AL.skip ?_ | refine AL.blk ?_)
    refine AL.cond ?_
    simp
    try (simp)
    repeat ((repeat (first | refine AL.seq ?_ | refine AL.block ?_ | refine AL.skip ?_ | refine AL.blk ?_)); (refine AL.region follows_Tryz (Nat.le_refl _) (by kernel_rfl) ?_); simp)
    refine Stop.of_d (hv _ _) ?_
    simp
    try (simp)
    repeat ((repeat (first | refine AL.seq ?_ | refine AL.block ?_ | refine AL.skip ?_ | refine AL.blk ?_)); (refine AL.region follows_Tryz (Nat.le_refl _) (by kernel_rfl) ?_); simp)
    by_cases h1 : validC a c = 0
    · have hh' := hh h0 h1
      simp only [h1]
      repeat (first | refine AL.seq ?_ | refine AL.block ?_ | refine AL.skip ?_ | refine AL.blk ?_)
      refine AL.cond ?_
      simp
      try (simp)
      repeat ((repeat (first | refine AL.seq ?_ | refine AL.block ?_ | refine AL.skip ?_ | refine AL.blk ?_)); (refine AL.region follows_Tryz (Nat.le_refl _) (by kernel_rfl) ?_); simp)
      refine Stop.of_d (hh' _ _) ?_
      simp
      try (simp)
      repeat ((repeat (first | refine AL.seq ?_ | refine AL.block ?_ | refine AL.skip ?_ | refine AL.blk ?_)); (refine AL.region follows_Tryz (Nat.le_refl _) (by kernel_rfl) ?_); simp)
      repeat (first | refine AL.seq ?_ | refine AL.block ?_ | refine AL.skip ?_ | refine AL.blk ?_)
      refine AL.ret ?_
      try simp only [AU]
      refine ⟨by simp, Fin.data (by simp [resAs, resA]; rfl) hbox rfl htok (fun _ h => h) (Nat.le_refl _) ?_⟩
      simp [packA, satR, h0, h1]
    · have b1 : (validC a c != 0) = true := by simp [h1]
      simp only [b1]
      repeat (first | refine AL.seq ?_ | refine AL.block ?_ | refine AL.skip ?_ | refine AL.blk ?_)
      refine AL.cond ?_
      simp
      try (simp)
      repeat ((repeat (first | refine AL.seq ?_ | refine AL.block ?_ | refine AL.skip ?_ | refine AL.blk ?_)); (refine AL.region follows_Tryz (Nat.le_refl _) (by kernel_rfl) ?_); simp)
      repeat (first | refine AL.seq ?_ | refine AL.block ?_ | refine AL.skip ?_ | refine AL.blk ?_)
      refine AL.ret ?_
      try simp only [AU]
      refine ⟨by simp, Fin.data (by simp [resAs, resA]; rfl) hbox rfl htok (fun _ h => h) (Nat.le_refl _) ?_⟩
      simp [packA, satR, h0, h1]
  · have b0 : (arrR a g m != 0) = true := by simp [h0]
    simp only [b0]
    repeat (first | refine AL.seq ?_ | refine AL.block ?_ | refine AL.skip ?_ | refine AL.blk ?_)
    refine AL.cond ?_
    simp
    try (simp)
    repeat ((repeat (first | refine AL.seq ?_ | refine AL.block ?_ | refine AL.skip ?_ | refine AL.blk ?_)); (refine AL.region follows_Tryz (Nat.le_refl _) (by kernel_rfl) ?_); simp)
    repeat (first | refine AL.seq ?_ | refine AL.block ?_ | refine AL.skip ?_ | refine AL.blk ?_)
    refine AL.ret ?_
    try simp only [AU]
    refine ⟨by simp, Fin.data (by simp [resAs, resA]; rfl) hbox rfl htok (fun _ h => h) (Nat.le_refl _) ?_⟩
    simp [packA, satR, h0]

/-- Two ways that lead to the same. -/
def agrK (a b c d : List Int) (i : Nat) : Bool := decide (∀ j, j < i → b.getD (a.getD j 0).toNat 0 = d.getD (c.getD j 0).toNat 0)
def stAg (a b c d : List Int) (nb : Nat) (box : Nat → Option (List (List AV))) (tok : Nat → Bool) (nt : Nat) (i : Nat) : AState :=
  ⟨tl [(11, I a.length), (12, I i), (0, .d (ints a)), (1, .d (ints b)), (2, .d (ints c)), (3, .d (ints d))], lb nb box [], tok, nt⟩
theorem agree_c (a b c d : List Int) (hl : a.length ≤ 1000000) (h1 : ∀ x ∈ a, 0 ≤ x ∧ x < b.length) (hc : a.length ≤ c.length) (h2 : ∀ x ∈ c, 0 ≤ x ∧ x < d.length) (tok : Nat → Bool) (nt : Nat) :
    DCall Tryz.prog 77 [.d (ints a), .d (ints b), .d (ints c), .d (ints d)] tok nt (B (agrK a b c d a.length)) tok nt := by
  intro box nb
  refine ACalls.of_body Tryz.func77 rfl (by kernel_rfl) follows_Tryz (by kernel_rfl) (by simp [Tryz.ntmps77]) ?_
  intro hbox htok
  simp only at hbox htok
  apply AL.start
  try (simp)
  repeat ((repeat (first | refine AL.seq ?_ | refine AL.block ?_ | refine AL.skip ?_ | refine AL.blk ?_)); (refine AL.region follows_Tryz (Nat.le_refl _) (by kernel_rfl) ?_); simp)
  repeat (first | refine AL.seq ?_ | refine AL.block ?_ | refine AL.skip ?_ | refine AL.blk ?_)
  refine AL.loopT (stAg a b c d nb box tok nt) (fun i => i ≤ a.length ∧ agrK a b c d i = true) (fun i => a.length - i) 0 ⟨Nat.zero_le _, by simp [agrK]⟩ (Weaks.mk (Nat.le_refl _) rfl (by simp [ToL, lk]) (by simp [BoxL, lk])) ?_
  rintro i S ⟨hi, hz⟩ hS
  simp only [stAg] at hS
  subst hS
  have hw : IntKind.i64.wrap (↑i + 1) = ((i + 1 : Nat) : Int) := by rw [wrap_in (by omega) (by omega)]; rfl
  try (simp)
  repeat ((repeat (first | refine AL.seq ?_ | refine AL.block ?_ | refine AL.skip ?_ | refine AL.blk ?_)); (refine AL.region follows_Tryz (Nat.le_refl _) (by kernel_rfl) ?_); simp)
  repeat (first | refine AL.seq ?_ | refine AL.block ?_ | refine AL.skip ?_ | refine AL.blk ?_)
  refine AL.cond ?_
  simp
  refine ⟨fun hlt => ?_, fun hge => ?_⟩
  · have hic : i < c.length := by omega
    obtain ⟨x1, x2⟩ := h1 _ (List.getElem_mem hlt)
    obtain ⟨y1, y2⟩ := h2 _ (List.getElem_mem hic)
    have x3 : a[i].toNat < b.length := by omega
    have y3 : c[i].toNat < d.length := by omega
    have hyes : b[a[i].toNat] = d[c[i].toNat] → agrK a b c d (i + 1) = true := fun he => by
      simp only [agrK, decide_eq_true_eq] at hz ⊢
      intro j hj
      by_cases e : j = i
      · subst e; simpa [hlt, hic, x3, y3] using he
      · exact hz j (by omega)
    have hno : b[a[i].toNat] ≠ d[c[i].toNat] → agrK a b c d a.length = false := fun he => by
      simp only [agrK, decide_eq_false_iff_not]
      intro h
      have := h i hlt
      simp [hlt, hic, x3, y3] at this
      exact he this
    try (simp [hlt, hic, x1, x3, y1, y3, x2, y2])
    repeat ((repeat (first | refine AL.seq ?_ | refine AL.block ?_ | refine AL.skip ?_ | refine AL.blk ?_)); (refine AL.region follows_Tryz (Nat.le_refl _) (by kernel_rfl) ?_); simp [hlt, hic, x1, x3, y1, y3, x2, y2])
    by_cases he : b[a[i].toNat] = d[c[i].toNat]
    · have hy := hyes he
      simp only [he]
      repeat (first | refine AL.seq ?_ | refine AL.block ?_ | refine AL.skip ?_ | refine AL.blk ?_)
      refine AL.cond ?_
      simp
      try (simp [hw])
      repeat ((repeat (first | refine AL.seq ?_ | refine AL.block ?_ | refine AL.skip ?_ | refine AL.blk ?_)); (refine AL.region follows_Tryz (Nat.le_refl _) (by kernel_rfl) ?_); simp [hw])
      repeat (first | refine AL.seq ?_ | refine AL.block ?_ | refine AL.skip ?_ | refine AL.blk ?_)
      refine AL.nil ?_
      exact ⟨i + 1, ⟨hlt, hy⟩, by omega, Weaks.mk (Nat.le_refl _) rfl (by simp [ToL, lk]) (by simp [BoxL, lk])⟩
    · have hn := hno he
      have bn : (b[a[i].toNat] != d[c[i].toNat]) = true := by simp [he]
      simp only [bn]
      repeat (first | refine AL.seq ?_ | refine AL.block ?_ | refine AL.skip ?_ | refine AL.blk ?_)
      refine AL.cond ?_
      simp
      try (simp)
      repeat ((repeat (first | refine AL.seq ?_ | refine AL.block ?_ | refine AL.skip ?_ | refine AL.blk ?_)); (refine AL.region follows_Tryz (Nat.le_refl _) (by kernel_rfl) ?_); simp)
      repeat (first | refine AL.seq ?_ | refine AL.block ?_ | refine AL.skip ?_ | refine AL.blk ?_)
      refine AL.ret ?_
      try simp only [AU]
      refine ⟨by simp, Fin.data (by simp [resAs, resA]; rfl) hbox rfl htok (fun _ h => h) (Nat.le_refl _) ?_⟩
      simp [packA, hn]
  · repeat (first | refine AL.seq ?_ | refine AL.block ?_ | refine AL.skip ?_ | refine AL.blk ?_)
    refine AL.exit ?_
    simp only [AU, ↓reduceIte]
    have : i = a.length := by omega
    subst this
    try (simp)
    repeat ((repeat (first | refine AL.seq ?_ | refine AL.block ?_ | refine AL.skip ?_ | refine AL.blk ?_)); (refine AL.region follows_Tryz (Nat.le_refl _) (by kernel_rfl) ?_); simp)
    repeat (first | refine AL.seq ?_ | refine AL.block ?_ | refine AL.skip ?_ | refine AL.blk ?_)
    refine AL.ret ?_
    try simp only [AU]
    refine ⟨by simp, Fin.data (by simp [resAs, resA]; rfl) hbox rfl htok (fun _ h => h) (Nat.le_refl _) ?_⟩
    simp [packA, hz]
end Go.AM
/-
  What all standard overlaps are, and what shifting computes.
-/
namespace Go.AM
open Go Go.Proofs
set_option linter.unusedSimpArgs false
set_option linter.unusedVariables false

/-- A morphism that stays within. -/
structure Inn (m : Mo) (a b : Gr) : Prop where
  ln : m.nodes.length = a.nodes.length
  le : m.edges.length = a.edges.length
  n : ∀ x ∈ m.nodes, 0 ≤ x ∧ x < b.nodes.length
  e : ∀ x ∈ m.edges, 0 ≤ x ∧ x < b.edges.length
theorem Inn.of {a b : Gr} {m : Mo} (h : validM a b m = 0) : Inn m a b := have V := validM_VM h; ⟨V.ln, V.le, V.n, V.e⟩

structure OvOk (b p : Gr) (o : Ov) : Prop where
  l : validM b o.g o.l = 0
  r : validM p o.g o.r = 0
  il : injM b o.g o.l = true
  ir : injM p o.g o.r = true

theorem overlapsR_ok {b p : Gr} {o : Ov} (ho : o ∈ (overlapsR b p).1) : OvOk b p o := by
  by_cases hb : validG b = 0
  · by_cases hp : validG p = 0
    · by_cases hs : 40 < b.nodes.length + p.nodes.length ∨ 80 < b.edges.length + p.edges.length
      · simp [overlapsR, hb, hp, hs] at ho
      · rw [overlapsR_list b p hb hp hs] at ho
        split at ho
        · simp at ho
        · simp only [listO, List.mem_map] at ho
          obtain ⟨⟨x, es⟩, h1, rfl⟩ := ho
          have hp1 := (pairsM_mem b p _).1 h1
          have g1 := glue_law hb hp (by omega) hp1
          have g2 := glue_law2 hb hp (by omega) hp1
          exact ⟨g1.2.1, g1.2.2, g2.1, g2.2.1⟩
    · simp [overlapsR, hb, hp] at ho
  · simp [overlapsR, hb] at ho
theorem overlapsR_err {b p : Gr} (hb : validG b = 0) (hp : validG p = 0) : (overlapsR b p).2 = 0 ∨ (overlapsR b p).2 = 3 := by
  unfold overlapsR
  rw [if_neg (by simp [hb]), if_neg (by simp [hp])]
  split
  · exact .inr rfl
  · split
    · exact .inr rfl
    · exact .inl rfl

/-! ### Shifting -/
abbrev St2 := Int × Int
def seqL {α : Type} (f : α → St2 → List Cd × St2) : List α → St2 → List Cd × St2
  | [], st => ([], st)
  | x :: r, st => ((f x st).1 ++ (seqL f r (f x st).2).1, (seqL f r (f x st).2).2)
theorem seqL_append {α : Type} (f : α → St2 → List Cd × St2) (x : α) : ∀ (l : List α) (st : St2), seqL f (l ++ [x]) st = ((seqL f l st).1 ++ (f x (seqL f l st).2).1, (f x (seqL f l st).2).2)
  | [], st => by simp [seqL]
  | y :: r, st => by simp [seqL, seqL_append f x r]
theorem seqL_take {α : Type} (f : α → St2 → List Cd × St2) (l : List α) (st : St2) {i : Nat} (h : i < l.length) :
    seqL f (l.take (i + 1)) st = ((seqL f (l.take i) st).1 ++ (f l[i] (seqL f (l.take i) st).2).1, (f l[i] (seqL f (l.take i) st).2).2) := by
  rw [List.take_succ_eq_append_getElem h, seqL_append]

def cdOf (k : Int) (kids : List Cd) : Cd := .mk k kids ⟨[], []⟩ ⟨[], []⟩ [] 0 []
def exOf (o : Ov) (kid : Cd) : Cd := .mk 5 [kid] o.l o.g [] 0 []
def agrO (m mm : Mo) (o : Ov) : Bool := agrK m.nodes o.l.nodes mm.nodes o.r.nodes m.nodes.length && agrK m.edges o.l.edges mm.edges o.r.edges m.edges.length
def inc (n : Int) : Int := IntKind.i64.wrap (n + 1)
def ovF (m mm : Mo) (H : Gr → Mo → St2 → Cd × St2) (o : Ov) (st : St2) : List Cd × St2 :=
  if agrO m mm o = true then ([exOf o (H o.g o.r (inc st.1, st.2)).1], (H o.g o.r (inc st.1, st.2)).2) else ([], st)
def st1 (st : St2) : St2 := (inc st.1, if 2000 < inc st.1 then 3 else st.2)
def shStep (k : Int) (mm : Mo) (p b : Gr) (m : Mo) (st : St2) (L : St2 → List Cd × St2) (H : Gr → Mo → St2 → Cd × St2) : Cd × St2 :=
  if (st1 st).2 ≠ 0 then (cdOf k [], st1 st)
  else if k ≠ 5 then (cdOf k (L (st1 st)).1, (L (st1 st)).2)
  else if (overlapsR b p).2 ≠ 0 then (cdOf 4 [], ((st1 st).1, (overlapsR b p).2))
  else (cdOf 4 (seqL (ovF m mm H) (overlapsR b p).1 (st1 st)).1, (seqL (ovF m mm H) (overlapsR b p).1 (st1 st)).2)
mutual
def Cd.shf : Cd → Gr → Mo → St2 → Cd × St2
  | .mk k c mm p s v t, b, m, st => shStep k mm p b m st (fun st => Cd.shfL c b m st) (fun b m st => Cd.shfH c b m st)
def Cd.shfL : List Cd → Gr → Mo → St2 → List Cd × St2
  | [], _, _, st => ([], st)
  | x :: r, b, m, st => ([(Cd.shf x b m st).1] ++ (Cd.shfL r b m (Cd.shf x b m st).2).1, (Cd.shfL r b m (Cd.shf x b m st).2).2)
def Cd.shfH : List Cd → Gr → Mo → St2 → Cd × St2
  | [], _, _, st => (cdOf 0 [], st)
  | x :: _, b, m, st => Cd.shf x b m st
end
def shF (b : Gr) (m : Mo) (x : Cd) (st : St2) : List Cd × St2 := ([(Cd.shf x b m st).1], (Cd.shf x b m st).2)
theorem Cd.shfL_eq (b : Gr) (m : Mo) : ∀ (l : List Cd) (st : St2), Cd.shfL l b m st = seqL (shF b m) l st
  | [], st => by simp [Cd.shfL, seqL]
  | x :: r, st => by simp [Cd.shfL, seqL, shF, Cd.shfL_eq b m r]
theorem Cd.shf_eq (c : Cd) (b : Gr) (m : Mo) (st : St2) : c.shf b m st = shStep c.kind c.m c.g b m st (fun st => seqL (shF b m) c.kids st) (fun b m st => Cd.shfH c.kids b m st) := by
  cases c
  simp only [Cd.shf, Cd.shfL_eq]
  rfl
end Go.AM
/-
  The abstract machine: regions whose order is open, and in which a call writes a box.
-/
namespace Go.AM
open Go
set_option linter.unusedSimpArgs false
set_option linter.unusedVariables false

variable {P : Program}

theorem EffV.val {o : Oper} {ρ : Operand → AV} {box box' : Nat → Option (List (List AV))} {tok tok' : Nat → Bool} {nt nt' : Nat} {v : AV} (h : EffV P o ρ box tok nt v box' tok' nt') : isVal o.op = true := by
  unfold EffV at h
  split at h
  · rename_i c ho
    split at h
    · rename_i f hf
      rw [ho]
      obtain ⟨cal, args, tys⟩ := c
      simp only at hf
      subst hf
      rfl
    · exact h.elim
  · exact h.elim
theorem EffV.spec {o : Oper} {ρ : Operand → AV} {box box' : Nat → Option (List (List AV))} {tok tok' : Nat → Bool} {nt nt' : Nat} {v : AV} (h : EffV P o ρ box tok nt v box' tok' nt') :
    ∃ x k i off rows, callPtr o.op = some x ∧ ρ x = .ptr k i off ∧ box' = upd box k (some rows) := by
  unfold EffV at h
  split at h
  · split at h
    · split at h
      · obtain ⟨x, k, i, off, rows, g1, g2, g3, g4, g5⟩ := h
        exact ⟨x, k, i, off, rows, g1, g2, g4⟩
      · exact h.elim
    · exact h.elim
  · exact h.elim

theorem Eff.up {wr : Bool} {base : Nat} {o : Oper} {ρ : Operand → AV} {box box' : Nat → Option (List (List AV))} {tok tok' : Nat → Bool} {nt nt' : Nat} {v : AV} (h : Eff P false base o ρ box tok nt v box' tok' nt') : Eff P wr base o ρ box tok nt v box' tok' nt' := by
  unfold Eff at h ⊢
  cases hc : cls o.op <;> simp only [hc] at h ⊢ <;> first | exact h | exact .inl (t_false h)
theorem Eff.down {wr : Bool} {base : Nat} {o : Oper} {ρ : Operand → AV} {box box' : Nat → Option (List (List AV))} {tok tok' : Nat → Bool} {nt nt' : Nat} {v : AV} (hv : isVal o.op = false) (h : Eff P wr base o ρ box tok nt v box' tok' nt') : Eff P false base o ρ box tok nt v box' tok' nt' := by
  unfold Eff at h ⊢
  cases hc : cls o.op <;> simp only [hc] at h ⊢ <;> first | exact h | skip
  rcases h with h | ⟨_, h⟩
  · exact .inl h
  · rw [h.val] at hv; cases hv
theorem Step.up {wr : Bool} {base : Nat} {o : Oper} {S S' : AState} (h : Step P false base o S S') : Step P wr base o S S' := by
  obtain ⟨v, b, t, n, h1, h2⟩ := h
  exact ⟨v, b, t, n, h1.up, h2⟩

def ptrOp3 (o : Op) : Option Operand := match ptrOp o with
  | some p => some p
  | none => callPtr o
def calm (x y : Oper) : Bool := match isVal x.op, isVal y.op with
  | true, true => false
  | true, false => decide (cls y.op = .n) || decide (cls y.op = .r)
  | false, true => decide (cls x.op = .n) || decide (cls x.op = .r)
  | false, false => !clash x y || isPtr x.op && isPtr y.op

theorem load_ptr {o : Oper} (h : cls o.op = .r) : ∃ p, ptrOp o.op = some p := by
  cases hop : o.op <;> rw [hop] at h <;> simp only [cls, reduceCtorEq] at h
  · exact ⟨_, rfl⟩
  · split at h <;> first | (rename_i e; cases e; done) | (cases h; done) | simp_all
theorem val_cls {o : Op} (h : isVal o = true) : cls o = .t ∧ ptrOp o = none := by
  unfold isVal at h
  split at h
  · exact ⟨rfl, rfl⟩
  · cases h

theorem calm_swap {base : Nat} {x y : Oper} {ρ : Operand → AV} {b0 b1 b2 : Nat → Option (List (List AV))} {t0 t1 t2 : Nat → Bool} {n0 n1 n2 : Nat} {vx vy : AV} (hc : calm x y = true)
    (hk : ∀ p q, ptrOp3 x.op = some p → ptrOp3 y.op = some q → (cls x.op ≠ .r ∨ cls y.op ≠ .r) → ∀ k i off k' i' off', ρ p = .ptr k i off → ρ q = .ptr k' i' off' → k ≠ k')
    (hx : Eff P true base x ρ b0 t0 n0 vx b1 t1 n1) (hy : Eff P true base y ρ b1 t1 n1 vy b2 t2 n2) : ∃ c t n, Eff P true base y ρ b0 t0 n0 vy c t n ∧ Eff P true base x ρ c t n vx b2 t2 n2 := by
  unfold calm at hc
  cases vx' : isVal x.op <;> cases vy' : isVal y.op <;> simp only [vx', vy'] at hc
  · have dx := hx.down vx'
    have dy := hy.down vy'
    cases hcl : clash x y with
    | false =>
      obtain ⟨c, t, n, h1, h2⟩ := eff_swap hcl dx dy
      exact ⟨c, t, n, h1.up, h2.up⟩
    | true =>
      rw [hcl] at hc
      simp only [Bool.not_true, Bool.false_or, Bool.and_eq_true] at hc
      obtain ⟨p, hp⟩ := Option.isSome_iff_exists.1 hc.1
      obtain ⟨q, hq⟩ := Option.isSome_iff_exists.1 hc.2
      have hp3 : ptrOp3 x.op = some p := by unfold ptrOp3; rw [hp]
      have hq3 : ptrOp3 y.op = some q := by unfold ptrOp3; rw [hq]
      have hr : cls x.op ≠ .r ∨ cls y.op ≠ .r := by
        by_cases e1 : cls x.op = .r
        · by_cases e2 : cls y.op = .r
          · simp [clash, e1, e2] at hcl
          · exact .inr e2
        · exact .inl e1
      obtain ⟨c, t, n, h1, h2⟩ := eff_far hp hq (hk p q hp3 hq3 hr) dx dy
      exact ⟨c, t, n, h1.up, h2.up⟩
  · -- the call comes second
    obtain ⟨cy, py⟩ := val_cls vy'
    unfold Eff at hx hy ⊢
    simp only [Bool.or_eq_true, decide_eq_true_eq] at hc
    rcases hc with hc | hc <;> simp only [hc, cy] at hx hy ⊢
    · obtain ⟨e, rfl, rfl, rfl⟩ := hx
      exact ⟨_, _, _, hy, e, rfl, rfl, rfl⟩
    · obtain ⟨e, rfl, rfl, rfl⟩ := hx
      obtain ⟨p, hp⟩ := load_ptr hc
      refine ⟨_, _, _, hy, ?_, rfl, rfl, rfl⟩
      rcases hy with ⟨_, rfl⟩ | ⟨_, hv⟩
      · exact e
      · obtain ⟨z, k, i, off, rows, g1, g2, rfl⟩ := hv.spec
        refine effR_ptr hp hc e fun k1 i1 off1 h1 => ?_
        exact hk p z (by unfold ptrOp3; rw [hp]) (by unfold ptrOp3; rw [py]; exact g1) (.inr (by rw [cy]; decide)) _ _ _ _ _ _ h1 g2
  · -- the call comes first
    obtain ⟨cx, px⟩ := val_cls vx'
    unfold Eff at hx hy ⊢
    simp only [Bool.or_eq_true, decide_eq_true_eq] at hc
    rcases hc with hc | hc <;> simp only [hc, cx] at hx hy ⊢
    · obtain ⟨e, rfl, rfl, rfl⟩ := hy
      exact ⟨_, _, _, ⟨e, rfl, rfl, rfl⟩, hx⟩
    · obtain ⟨e, rfl, rfl, rfl⟩ := hy
      obtain ⟨q, hq⟩ := load_ptr hc
      refine ⟨_, _, _, ⟨?_, rfl, rfl, rfl⟩, hx⟩
      rcases hx with ⟨_, rfl⟩ | ⟨_, hv⟩
      · exact e
      · obtain ⟨z, k, i, off, rows, g1, g2, rfl⟩ := hv.spec
        refine effR_back hq hc (fun k1 i1 off1 h1 => ?_) e
        exact Ne.symm (hk z q (by unfold ptrOp3; rw [px]; exact g1) (by unfold ptrOp3; rw [hq]) (.inl (by rw [cx]; decide)) _ _ _ _ _ _ g2 h1)
  · cases hc

def regOk3 (ops : Array Oper) : Bool :=
  let an := ancs ops.toList []
  dstUniq ops && (List.range ops.size).all fun i => (match ops[i]? with | some o => (direct o).all fun j => decide (j < i) | none => true) &&
    (List.range i).all fun j => (an.getD i 0).testBit j || (match ops[j]?, ops[i]? with
      | some x, some y => Oper.apart ops x y && calm x y
      | _, _ => false)

/-- The pairs of pointers that nothing orders, one of them a store's or a call's. -/
def unPairs (ops : Array Oper) : List (Operand × Operand) :=
  let an := ancs ops.toList []
  (List.range ops.size).flatMap fun i => (List.range i).filterMap fun j => if (an.getD i 0).testBit j then none else match ops[j]?, ops[i]? with
    | some x, some y => match ptrOp3 x.op, ptrOp3 y.op with
      | some p, some q => if cls x.op = .r ∧ cls y.op = .r then none else some (p, q)
      | _, _ => none
    | _, _ => none
def FarP (S : AState) : List (Operand × Operand) → Prop
  | [] => True
  | (p, q) :: r => NK (S.ev p) (S.ev q) ∧ FarP S r
theorem FarP.at {S : AState} {p q : Operand} : ∀ {L : List (Operand × Operand)}, FarP S L → (p, q) ∈ L → NK (S.ev p) (S.ev q)
  | (a, b) :: r, h, hm => by
    rcases List.mem_cons.1 hm with e | hm
    · cases e; exact h.1
    · exact FarP.at h.2 hm
theorem unPairs_mem {ops : Array Oper} {i j : Nat} {x y : Oper} {p q : Operand} (hx : ops[j]? = some x) (hy : ops[i]? = some y) (hij : j < i) (hb : ((ancs ops.toList []).getD i 0).testBit j = false) (hp : ptrOp3 x.op = some p) (hq : ptrOp3 y.op = some q) (hr : cls x.op ≠ .r ∨ cls y.op ≠ .r) : (p, q) ∈ unPairs ops := by
  have his : i < ops.size := (Array.getElem?_eq_some_iff.1 hy).1
  unfold unPairs
  simp only [List.mem_flatMap, List.mem_range, List.mem_filterMap]
  refine ⟨i, his, j, hij, ?_⟩
  have hnr : ¬ (cls x.op = .r ∧ cls y.op = .r) := fun h => by rcases hr with hr | hr; exact hr h.1; exact hr h.2
  rw [hb, hx, hy]
  simp [hp, hq, hnr]

theorem any_sound3 {n nb base : Nat} {ops : Array Oper} {Q : Exit → Act → World → Prop} {Sf : AState} {G0 : Gh} {w0 : World} {b0 : Nat → Option (List (List AV))} (hreg : regOk3 ops = true) (hal : allocOk ops = true) (hdst : dstOk n ops = true) (hnb : base + n ≤ nb)
    (hfar : FarP Sf (unPairs ops))
    (hQ : ∀ a' w' G', RelS n nb G' Sf a' w' → LeK base G0 w0 b0 G' w' Sf.box → Q .normal a' w') (fuel : Nat) (listed : Array Bool) (rem : List Nat) (S : AState) (a : Act) (w : World) (G : Gh) (hrem : rem = List.range ops.size) (hside : Side ops S)
    (h1 : listed.size = ops.size) (h2 : rem = (List.range ops.size).filter (fun i => !listed.getD i true)) (h3 : rem.length = fuel) (h4 : ∀ i o, ops[i]? = some o → listed.getD i false = true → ∀ j ∈ direct o, listed.getD j false = true)
    (h5 : IRun P true base ops rem S Sf) (h6 : RelS n nb G S a w) (h7 : ∀ i ∈ rem, ∀ o, ops[i]? = some o → Pend P base o G S.box) (h8 : LeK base G0 w0 b0 G w S.box) : wpAny P .any ops Q fuel listed a w := by
  unfold regOk3 at hreg
  simp only [Bool.and_eq_true] at hreg
  obtain ⟨hu, hreg⟩ := hreg
  have key : ∀ (i : Nat) (o : Oper), ops[i]? = some o → (∀ j ∈ direct o, j < i) ∧ ∀ j x, ops[j]? = some x → j < i → ((ancs ops.toList []).getD i 0).testBit j = true ∨ x.apart ops o = true ∧ calm x o = true := by
    intro i o ho
    have his : i < ops.size := (Array.getElem?_eq_some_iff.1 ho).1
    have hall := List.all_eq_true.1 hreg i (by simpa using his)
    rw [ho] at hall
    simp only [Bool.and_eq_true] at hall
    refine ⟨fun j hj => by simpa using List.all_eq_true.1 hall.1 j hj, fun j x hx hj => ?_⟩
    have h2 := List.all_eq_true.1 hall.2 j (by simpa using hj)
    rw [hx] at h2
    simpa only [Bool.or_eq_true, Bool.and_eq_true] using h2
  have start : Ivs Sf S := by
    intro t
    by_cases hd : ∃ o ∈ ops.toList, o.dst = some t
    · obtain ⟨o, ho, hd⟩ := hd
      exact .inr (hside o ho t hd)
    · refine .inl (irun_keeps (fun j _ x hx hxd => hd ⟨x, by simpa using Array.mem_of_getElem? hx, hxd⟩) h5).symm
  refine any_sound' (wr := true) (fun i o ho => (key i o ho).1) (Iv := Ivs Sf) (fun i o S' S'' rest ho hni hst hrun hiv => ivs_step hu i o S' S'' rest ho hni hst hrun hiv) ?_ hal hdst hnb hQ fuel listed rem S a w G h1 h2 h3 h4 start h5 h6 h7 h8
  intro i j o x ho hx hj hb S' S1 S2 hiv g1 g2
  rcases (key i o ho).2 j x hx hj with h | ⟨h, h'⟩
  · rw [hb] at h; cases h
  · refine gstep_swap' h (fun {c0 c1 c2 s0 s1 s2 m0 m1 m2 vx vy} e1 e2 => ?_) g1 g2
    have back : ∀ (z : Operand) k i off, S'.ev z = .ptr k i off → Sf.ev z = .ptr k i off := by
      intro z k i off hz
      cases z with
      | tmp t =>
        rcases hiv t with e | e
        · exact e.symm.trans hz
        · have hz' : S'.tmps t = .ptr k i off := hz
          rw [hz'] at e
          exact e.elim
      | const c => exact hz
      | global c => exact hz
      | func c => exact hz
    refine calm_swap h' (fun p q hp hq hr k i1 off k' i2 off' hk hk' => ?_) e1 e2
    have hnk := hfar.at (unPairs_mem hx ho hj hb hp hq hr)
    rw [back p _ _ _ hk, back q _ _ _ hk'] at hnk
    exact hnk

/-! ### The evaluator -/
def StopW (P : Program) (o : Oper) (fid : FuncId) (args : List AV) (S : AState) (K : AState → Prop) : Prop :=
  (∃ v tok' nt', RCall P fid args S.box S.tok S.nt v tok' nt' ∧ K ⟨putT S.tmps o.dst v, S.box, tok', nt'⟩) ∨
  ∃ x k i off rows v tok' nt', callPtr o.op = some x ∧ S.ev x = .ptr k i off ∧ S.box k ≠ none ∧ WCall P fid args k S.box S.tok S.nt v rows tok' nt' ∧ K ⟨putT S.tmps o.dst v, upd S.box k (some rows), tok', nt'⟩

def FOneW (P : Program) (cx : Cx) (o : Oper) (K : AState → Prop) (S : AState) : Prop := match callFn o S.ev with
  | some (fid, args) => StopW P o fid args S K
  | none => FOne P cx true o K S

def FOpsW (P : Program) (cx : Cx) (ops : Array Oper) : List Oper → (AState → Prop) → AState → Prop
  | [], K, S => K S
  | o :: r, K, S => match o.guard with
    | none => FOneW P cx o (FOpsW P cx ops r K) S
    | some (j, want) => match yieldA ops S j with
      | some (some b) => Gd b want (FOneW P cx o (FOpsW P cx ops r K)) (FSkip o.dst (FOpsW P cx ops r K)) S
      | some none => FSkip o.dst (FOpsW P cx ops r K) S
      | none => False

theorem fOpsW_true {cx : Cx} {ops : Array Oper} {K : AState → Prop} : ∀ (l : List Oper) (S : AState), FOpsW P cx ops l K S → ∃ S', ARun P true cx.base ops l S S' ∧ K S'
  | [], S, h => ⟨S, rfl, h⟩
  | o :: r, S, h => by
    have one : FOneW P cx o (FOpsW P cx ops r K) S → ∃ S1 S', Step P true cx.base o S S1 ∧ ARun P true cx.base ops r S1 S' ∧ K S' := by
      intro h1
      unfold FOneW at h1
      split at h1
      · rename_i fid args hc
        unfold callFn at hc
        split at hc
        · rename_i c ho
          split at hc
          · rename_i f hcal
            split at hc
            · rename_i fid' caps hf
              simp only [Option.some.injEq, Prod.mk.injEq] at hc
              obtain ⟨rfl, rfl⟩ := hc
              have hcl : cls o.op = .t := by
                rw [ho]
                obtain ⟨cal, args, tys⟩ := c
                simp only at hcal
                subst hcal
                rfl
              rcases h1 with ⟨v, tok', nt', hd, hk'⟩ | ⟨x, k, i, off, rows, v, tok', nt', g1, g2, g3, hw, hk'⟩
              · obtain ⟨S', h2, h3⟩ := fOpsW_true r _ hk'
                refine ⟨_, S', ⟨v, S.box, tok', nt', ?_, rfl⟩, h2, h3⟩
                unfold Eff
                rw [hcl]
                refine .inl ⟨.inr ?_, rfl⟩
                unfold EffC
                simp only [ho, hcal, hf]
                exact hd
              · obtain ⟨S', h2, h3⟩ := fOpsW_true r _ hk'
                refine ⟨_, S', ⟨v, upd S.box k (some rows), tok', nt', ?_, rfl⟩, h2, h3⟩
                unfold Eff
                rw [hcl]
                refine .inr ⟨rfl, ?_⟩
                unfold EffV
                rw [ho] at g1 ⊢
                simp only [hcal, hf]
                exact ⟨x, k, i, off, rows, g1, g2, g3, rfl, hw⟩
            · cases hc
          · cases hc
        · cases hc
      · rename_i hc
        rcases fOne_cases h1 with ⟨_, S1, hs, hk⟩ | ⟨hdr, _⟩ | ⟨fid, args, hc', hk⟩
        · obtain ⟨S', h2, h3⟩ := fOpsW_true r S1 hk
          exact ⟨S1, S', hs.up, h2, h3⟩
        · cases hdr
        · rw [hc] at hc'; cases hc'
    unfold FOpsW at h
    unfold ARun
    split at h
    · rename_i hg
      obtain ⟨S1, S', h1, h2, h3⟩ := one h
      exact ⟨S', ⟨S1, by unfold GStep; rw [hg]; exact h1, h2⟩, h3⟩
    · rename_i j want hg
      split at h
      · rename_i b hy
        by_cases e : b = want
        · obtain ⟨S1, S', h1, h2, h3⟩ := one (h.1 e)
          exact ⟨S', ⟨S1, by unfold GStep; rw [hg]; simp only [hy, e, ↓reduceIte]; exact h1, h2⟩, h3⟩
        · obtain ⟨S', h2, h3⟩ := fOpsW_true r _ (h.2 (by cases b <;> cases want <;> simp_all))
          exact ⟨S', ⟨_, by unfold GStep; rw [hg]; simp only [hy, Option.some.injEq, e, ↓reduceIte], h2⟩, h3⟩
      · rename_i hy
        obtain ⟨S', h2, h3⟩ := fOpsW_true r _ h
        exact ⟨S', ⟨_, by unfold GStep; rw [hg]; simp only [hy, reduceCtorEq, ↓reduceIte], h2⟩, h3⟩
      · exact h.elim

def FRegW (P : Program) (cx : Cx) (ops : Array Oper) (K : AState → Prop) (S : AState) : Prop := match preF P cx.base ops.toList S.box with
  | some b => FOpsW P cx ops ops.toList K ⟨S.tmps, b, S.tok, S.nt⟩
  | none => False

theorem AL.region3 {cx : Cx} {nt0 : Nat} {K : Exit → AState → Prop} {r : List CI} {S : AState} {id : Nat} {ops : Array Oper} (hf : P.follows .mixedOrders = true) (hnb : cx.base + cx.n ≤ cx.nb) (hok : (allocOk ops && dstOk cx.n ops && regOk3 ops) = true) (hside : Side ops S) (L : List (Operand × Operand)) (hL : unPairs ops = L)
    (h : FRegW P cx ops (fun S' => FarP S' L ∧ AL P cx nt0 K r S') S) : AL P cx nt0 K (.c (.region id ops true) :: r) S := by
  simp only [AL]
  simp only [Bool.and_eq_true] at hok
  obtain ⟨⟨hal, hdst⟩, hreg⟩ := hok
  intro G0 w0 he hn G a w hr hl
  have hd := dstOk_spec hdst
  have hpre : PreB P cx.base ops.toList S.box fun b => ∃ S', ARun P true cx.base ops ops.toList { S with box := b } S' ∧ FarP S' L ∧ AL P cx nt0 K r S' := by
    unfold FRegW at h
    split at h
    · rename_i b hb
      exact preF_sound _ _ b hb (fOpsW_true _ _ h)
    · exact h.elim
  obtain ⟨b, hb, hr1, hp, hkeep⟩ := preB_sound hnb ops.toList S.box (S := S) hr (fun o ho d hod => hd o d (by simpa using ho) hod) (allocOk_nodup hal) hpre
  have hl1 : LeC cx G0 w0 G w { S with box := b } := ⟨hl.1, fun k hk hg => by
    rw [← hl.2 k hk hg]
    refine hkeep k fun hm => ?_
    obtain ⟨o, ho, he⟩ := List.mem_filterMap.1 hm
    split at he
    · rename_i T s h1 h2
      simp only [Option.some.injEq] at he
      subst he
      exact absurd hk (by simp)
    · cases he⟩
  obtain ⟨S', hrun, hfar, hK⟩ := hb
  refine wp_region_any hf ?_
  have hrd : RelS cx.n cx.nb G { S with box := b } a w.drew := hr1.drew
  have hld : LeC cx G0 w0 G w.drew { S with box := b } := hl1.step ⟨Le.drew, fun k _ hg => ⟨hg, rfl⟩⟩
  refine any_sound3 (n := cx.n) (nb := cx.nb) (base := cx.base) (Sf := S') (G0 := G) (w0 := w.drew) (b0 := b) hreg hal hdst hnb (by rw [hL]; exact hfar) (fun a' w' G' h1 h2 => ⟨S', G', hK, h1, hld.step h2⟩) ops.size (Array.replicate ops.size false) (List.range ops.size) { S with box := b } a w.drew G rfl hside (by simp) ?_ (by simp) ?_ (IRun.of_all hrun) hrd ?_ (LeK.refl _ _ _ _)
  · rw [List.filter_eq_self.2]
    intro i hi
    simp at hi
    simp [Array.getD, hi]
  · intro i o ho hlst
    have hi := (Array.getElem?_eq_some_iff.1 ho).1
    simp [Array.getD, hi] at hlst
  · intro i _ o ho
    exact hp o (by simpa using Array.mem_of_getElem? ho)

theorem StopW.of_w {o : Oper} {fid : FuncId} {args : List AV} {S : AState} {K : AState → Prop} {v : AV} {tok' : Nat → Bool} {nt' : Nat} {x : Operand} {k i off : Nat} {rows : List (List AV)} (hx : callPtr o.op = some x) (hp : S.ev x = .ptr k i off) (hb : S.box k ≠ none)
    (h : WCall P fid args k S.box S.tok S.nt v rows tok' nt') (hk : K ⟨putT S.tmps o.dst v, upd S.box k (some rows), tok', nt'⟩) : StopW P o fid args S K := .inr ⟨x, k, i, off, rows, v, tok', nt', hx, hp, hb, h, hk⟩

attribute [simp] FRegW FOneW callFn FarP
@[simp] theorem FOpsW_nil {cx : Cx} {ops : Array Oper} {K : AState → Prop} {t : Nat → AV} {b : Nat → Option (List (List AV))} {k : Nat → Bool} {n : Nat} : FOpsW P cx ops [] K ⟨t, b, k, n⟩ = K ⟨t, b, k, n⟩ := by simp only [FOpsW]
@[simp] theorem FOpsW_cons {cx : Cx} {ops : Array Oper} {o : Oper} {r : List Oper} {K : AState → Prop} {t : Nat → AV} {b : Nat → Option (List (List AV))} {k : Nat → Bool} {n : Nat} : FOpsW P cx ops (o :: r) K ⟨t, b, k, n⟩ = match o.guard with
    | none => FOneW P cx o (FOpsW P cx ops r K) ⟨t, b, k, n⟩
    | some (j, want) => match yieldA ops ⟨t, b, k, n⟩ j with
      | some (some g) => Gd g want (FOneW P cx o (FOpsW P cx ops r K)) (FSkip o.dst (FOpsW P cx ops r K)) ⟨t, b, k, n⟩
      | some none => FSkip o.dst (FOpsW P cx ops r K) ⟨t, b, k, n⟩
      | none => False := by
  simp only [FOpsW]
end Go.AM
