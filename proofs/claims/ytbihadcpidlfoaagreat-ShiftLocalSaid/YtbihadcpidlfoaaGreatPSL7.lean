import Derived.Test.YtbihadcpidlfoaaGreatPSL6
import Derived.Shelf.Sort.Plain
import Derived.Ground.Names2Prog
import Derived.Shelf.Slices.Clone
import Derived.Shelf.Slices.CompactI
import Derived.Shelf.Slices.In.SortNone
import Derived.Test.YtbihadcpidlfoaaGreatProg
import Derived.Test.YtbihadcpidlfoaaGreatChecked
import Derived.WalkKit
import Derived.Deep.LoopGhost
import Derived.Sort.OwnSortedInts
import Derived.Lib.OwnBridge
namespace Go.AM
open Go Go.Proofs
set_option linter.unusedSimpArgs false
set_option linter.unusedVariables false

/-! ### Shape -/
def z0 (n : Int) : Bool := n == 0
theorem z0_eq (n : Int) : (n == 0) = z0 n := rfl
def plainC (c : Cd) : Bool := z0 c.sl.length && (z0 c.vars && z0 c.te.length)
def unusedC (c : Cd) : Bool := z0 c.m.nodes.length && (z0 c.m.edges.length && (z0 c.g.nodes.length && (z0 c.g.edges.length && plainC c)))
def okC (c : Cd) : Bool :=
  if c.kind = 1 then z0 c.kids.length && unusedC c
  else if c.kind = 2 then decide ((c.kids.length : Int) = 1) && unusedC c
  else if c.kind = 3 ∨ c.kind = 4 then decide (0 < c.kids.length) && unusedC c
  else if c.kind = 5 then decide ((c.kids.length : Int) = 1)
  else false
def shapeC (c : Cd) : Int := if okC c = true then if plainC c = true then 0 else 8 else 1

theorem plain_c (c : Cd) (tok : Nat → Bool) (nt : Nat) : DCall Tryz.prog 83 [.agg [.d (ints c.g.nodes), .d (AM.edges c.g.edges), .d (slots c.sl), I c.vars, .d (tests c.te)]] tok nt (B (plainC c)) tok nt := by
  intro box nb
  refine ACalls.of_body Tryz.func83 rfl (by kernel_rfl) follows_Tryz (by kernel_rfl) (by simp [Tryz.ntmps83]) ?_
  intro hbox htok
  simp only at hbox htok
  apply AL.start
  repeat (first | refine AL.seq ?_ | refine AL.block ?_ | refine AL.skip ?_ | refine AL.blk ?_)
  refine AL.region follows_Tryz (Nat.le_refl _) (by kernel_rfl) ?_
  simp
  cases h1 : z0 c.sl.length
  · repeat (first | refine AL.seq ?_ | refine AL.block ?_ | refine AL.skip ?_ | refine AL.blk ?_)
    refine AL.region follows_Tryz (Nat.le_refl _) (by kernel_rfl) ?_
    simp [z0_eq, h1]
    repeat (first | refine AL.seq ?_ | refine AL.block ?_ | refine AL.skip ?_ | refine AL.blk ?_)
    refine AL.ret ?_
    try simp only [AU]
    refine ⟨by simp, Fin.data (by simp [resAs, resA]; rfl) hbox rfl htok (fun _ h => h) (Nat.le_refl _) ?_⟩
    simp [packA, plainC, h1]
  · cases h2 : z0 c.vars
    · repeat (first | refine AL.seq ?_ | refine AL.block ?_ | refine AL.skip ?_ | refine AL.blk ?_)
      refine AL.region follows_Tryz (Nat.le_refl _) (by kernel_rfl) ?_
      simp [z0_eq, h1, h2]
      repeat (first | refine AL.seq ?_ | refine AL.block ?_ | refine AL.skip ?_ | refine AL.blk ?_)
      refine AL.ret ?_
      try simp only [AU]
      refine ⟨by simp, Fin.data (by simp [resAs, resA]; rfl) hbox rfl htok (fun _ h => h) (Nat.le_refl _) ?_⟩
      simp [packA, plainC, h1, h2]
    · repeat (first | refine AL.seq ?_ | refine AL.block ?_ | refine AL.skip ?_ | refine AL.blk ?_)
      refine AL.region follows_Tryz (Nat.le_refl _) (by kernel_rfl) ?_
      simp [z0_eq, h1, h2]
      repeat (first | refine AL.seq ?_ | refine AL.block ?_ | refine AL.skip ?_ | refine AL.blk ?_)
      refine AL.ret ?_
      try simp only [AU]
      refine ⟨by simp, Fin.data (by simp [resAs, resA]; rfl) hbox rfl htok (fun _ h => h) (Nat.le_refl _) ?_⟩
      simp [packA, plainC, h1, h2]

theorem unused_c (c : Cd) (tok : Nat → Bool) (nt : Nat) : DCall Tryz.prog 82 [c.av] tok nt (B (unusedC c)) tok nt := by
  intro box nb
  refine ACalls.of_body Tryz.func82 rfl (by kernel_rfl) follows_Tryz (by kernel_rfl) (by simp [Tryz.ntmps82]) ?_
  intro hbox htok
  simp only at hbox htok
  apply AL.start
  repeat (first | refine AL.seq ?_ | refine AL.block ?_ | refine AL.skip ?_ | refine AL.blk ?_)
  refine AL.region follows_Tryz (Nat.le_refl _) (by kernel_rfl) ?_
  simp
  cases h1 : z0 c.m.nodes.length
  · repeat (first | refine AL.seq ?_ | refine AL.block ?_ | refine AL.skip ?_ | refine AL.blk ?_)
    refine AL.region follows_Tryz (Nat.le_refl _) (by kernel_rfl) ?_
    simp [z0_eq, h1]
    repeat (first | refine AL.seq ?_ | refine AL.block ?_ | refine AL.skip ?_ | refine AL.blk ?_)
    refine AL.ret ?_
    try simp only [AU]
    refine ⟨by simp, Fin.data (by simp [resAs, resA]; rfl) hbox rfl htok (fun _ h => h) (Nat.le_refl _) ?_⟩
    simp [packA, unusedC, h1]
  · cases h2 : z0 c.m.edges.length
    · repeat (first | refine AL.seq ?_ | refine AL.block ?_ | refine AL.skip ?_ | refine AL.blk ?_)
      refine AL.region follows_Tryz (Nat.le_refl _) (by kernel_rfl) ?_
      simp [z0_eq, h1, h2]
      repeat (first | refine AL.seq ?_ | refine AL.block ?_ | refine AL.skip ?_ | refine AL.blk ?_)
      refine AL.ret ?_
      try simp only [AU]
      refine ⟨by simp, Fin.data (by simp [resAs, resA]; rfl) hbox rfl htok (fun _ h => h) (Nat.le_refl _) ?_⟩
      simp [packA, unusedC, h1, h2]
    · cases h3 : z0 c.g.nodes.length
      · repeat (first | refine AL.seq ?_ | refine AL.block ?_ | refine AL.skip ?_ | refine AL.blk ?_)
        refine AL.region follows_Tryz (Nat.le_refl _) (by kernel_rfl) ?_
        simp [z0_eq, h1, h2, h3]
        repeat (first | refine AL.seq ?_ | refine AL.block ?_ | refine AL.skip ?_ | refine AL.blk ?_)
        refine AL.ret ?_
        try simp only [AU]
        refine ⟨by simp, Fin.data (by simp [resAs, resA]; rfl) hbox rfl htok (fun _ h => h) (Nat.le_refl _) ?_⟩
        simp [packA, unusedC, h1, h2, h3]
      · cases h4 : z0 c.g.edges.length
        · repeat (first | refine AL.seq ?_ | refine AL.block ?_ | refine AL.skip ?_ | refine AL.blk ?_)
          refine AL.region follows_Tryz (Nat.le_refl _) (by kernel_rfl) ?_
          simp [z0_eq, h1, h2, h3, h4]
          repeat (first | refine AL.seq ?_ | refine AL.block ?_ | refine AL.skip ?_ | refine AL.blk ?_)
          refine AL.ret ?_
          try simp only [AU]
          refine ⟨by simp, Fin.data (by simp [resAs, resA]; rfl) hbox rfl htok (fun _ h => h) (Nat.le_refl _) ?_⟩
          simp [packA, unusedC, h1, h2, h3, h4]
        · repeat (first | refine AL.seq ?_ | refine AL.block ?_ | refine AL.skip ?_ | refine AL.blk ?_)
          refine AL.region follows_Tryz (Nat.le_refl _) (by kernel_rfl) ?_
          simp [z0_eq, h1, h2, h3, h4]
          refine Stop.of_d (plain_c c _ _) ?_
          simp
          repeat (first | refine AL.seq ?_ | refine AL.block ?_ | refine AL.skip ?_ | refine AL.blk ?_)
          refine AL.ret ?_
          try simp only [AU]
          refine ⟨by simp, Fin.data (by simp [resAs, resA]; rfl) hbox rfl htok (fun _ h => h) (Nat.le_refl _) ?_⟩
          simp [packA, unusedC, h1, h2, h3, h4]

theorem shape_c (c : Cd) (tok : Nat → Bool) (nt : Nat) : DCall Tryz.prog 67 [c.av] tok nt (I (shapeC c)) tok nt := by
  intro box nb
  refine ACalls.of_body Tryz.func67 rfl (by kernel_rfl) follows_Tryz (by kernel_rfl) (by simp [Tryz.ntmps67]) ?_
  intro hbox htok
  simp only at hbox htok
  apply AL.start
  repeat (first | refine AL.seq ?_ | refine AL.block ?_ | refine AL.skip ?_ | refine AL.blk ?_)
  refine AL.region follows_Tryz (Nat.le_refl _) (by kernel_rfl) ?_
  simp
  repeat (first | refine AL.seq ?_ | refine AL.block ?_ | refine AL.skip ?_ | refine AL.blk ?_)
  refine AL.region follows_Tryz (Nat.le_refl _) (by kernel_rfl) ?_
  simp
  repeat (first | refine AL.seq ?_ | refine AL.block ?_ | refine AL.skip ?_ | refine AL.blk ?_)
  refine AL.region follows_Tryz (Nat.le_refl _) (by kernel_rfl) ?_
  simp
  refine AL.mid ⟨tl [(3, B (okC c)), (1, .ptr (nb + 1) 0 0), (2, I 0)], lb nb box [(1, [c.row])], tok, nt⟩ ?_ ?_
  · by_cases k1 : c.kind = 1
    · repeat (first | refine AL.seq ?_ | refine AL.block ?_ | refine AL.skip ?_ | refine AL.blk ?_)
      refine AL.region follows_Tryz (Nat.le_refl _) (by kernel_rfl) ?_
      simp [k1]
      repeat (first | refine AL.seq ?_ | refine AL.block ?_ | refine AL.skip ?_ | refine AL.blk ?_)
      refine AL.cond ?_
      simp
      cases h1 : z0 c.kids.length
      · repeat (first | refine AL.seq ?_ | refine AL.block ?_ | refine AL.skip ?_ | refine AL.blk ?_)
        refine AL.region follows_Tryz (Nat.le_refl _) (by kernel_rfl) ?_
        simp [z0_eq, h1]
        repeat (first | refine AL.seq ?_ | refine AL.block ?_ | refine AL.skip ?_ | refine AL.blk ?_)
        refine AL.nil ?_
        exact Weaks.mk (Nat.le_refl _) rfl (by simp [ToL, lk, okC, k1, h1]) (by simp [BoxL, lk])
      · repeat (first | refine AL.seq ?_ | refine AL.block ?_ | refine AL.skip ?_ | refine AL.blk ?_)
        refine AL.region follows_Tryz (Nat.le_refl _) (by kernel_rfl) ?_
        simp [z0_eq, h1]
        refine Stop.of_d (unused_c c _ _) ?_
        simp
        repeat (first | refine AL.seq ?_ | refine AL.block ?_ | refine AL.skip ?_ | refine AL.blk ?_)
        refine AL.nil ?_
        exact Weaks.mk (Nat.le_refl _) rfl (by simp [ToL, lk, okC, k1, h1]) (by simp [BoxL, lk])
    · have n1 : (c.kind == 1) = false := by simp [k1]
      repeat (first | refine AL.seq ?_ | refine AL.block ?_ | refine AL.skip ?_ | refine AL.blk ?_)
      refine AL.region follows_Tryz (Nat.le_refl _) (by kernel_rfl) ?_
      simp [n1]
      repeat (first | refine AL.seq ?_ | refine AL.block ?_ | refine AL.skip ?_ | refine AL.blk ?_)
      refine AL.cond ?_
      simp
      by_cases k2 : c.kind = 2
      · repeat (first | refine AL.seq ?_ | refine AL.block ?_ | refine AL.skip ?_ | refine AL.blk ?_)
        refine AL.region follows_Tryz (Nat.le_refl _) (by kernel_rfl) ?_
        simp [k2]
        repeat (first | refine AL.seq ?_ | refine AL.block ?_ | refine AL.skip ?_ | refine AL.blk ?_)
        refine AL.cond ?_
        simp
        by_cases h1 : (c.kids.length : Int) = 1
        · repeat (first | refine AL.seq ?_ | refine AL.block ?_ | refine AL.skip ?_ | refine AL.blk ?_)
          refine AL.region follows_Tryz (Nat.le_refl _) (by kernel_rfl) ?_
          simp [h1]
          refine Stop.of_d (unused_c c _ _) ?_
          simp
          repeat (first | refine AL.seq ?_ | refine AL.block ?_ | refine AL.skip ?_ | refine AL.blk ?_)
          refine AL.nil ?_
          exact Weaks.mk (Nat.le_refl _) rfl (by simp [ToL, lk, okC, k2, h1]) (by simp [BoxL, lk])
        · have b1 : ((c.kids.length : Int) == 1) = false := by simp [h1]
          repeat (first | refine AL.seq ?_ | refine AL.block ?_ | refine AL.skip ?_ | refine AL.blk ?_)
          refine AL.region follows_Tryz (Nat.le_refl _) (by kernel_rfl) ?_
          simp [b1]
          repeat (first | refine AL.seq ?_ | refine AL.block ?_ | refine AL.skip ?_ | refine AL.blk ?_)
          refine AL.nil ?_
          exact Weaks.mk (Nat.le_refl _) rfl (by simp [ToL, lk, okC, k2, h1]) (by simp [BoxL, lk])
      · have n2 : (c.kind == 2) = false := by simp [k2]
        repeat (first | refine AL.seq ?_ | refine AL.block ?_ | refine AL.skip ?_ | refine AL.blk ?_)
        refine AL.region follows_Tryz (Nat.le_refl _) (by kernel_rfl) ?_
        simp [n2]
        repeat (first | refine AL.seq ?_ | refine AL.block ?_ | refine AL.skip ?_ | refine AL.blk ?_)
        refine AL.cond ?_
        simp
        refine AL.seq ?_
        refine AL.mid ⟨tl [(26, B (decide (c.kind = 3 ∨ c.kind = 4))), (5, I c.kind), (3, B false), (1, .ptr (nb + 1) 0 0), (2, I 0)], lb nb box [(1, [c.row])], tok, nt⟩ ?_ ?_
        · by_cases k3 : c.kind = 3
          · repeat (first | refine AL.seq ?_ | refine AL.block ?_ | refine AL.skip ?_ | refine AL.blk ?_)
            refine AL.region follows_Tryz (Nat.le_refl _) (by kernel_rfl) ?_
            simp [k3]
            repeat (first | refine AL.seq ?_ | refine AL.block ?_ | refine AL.skip ?_ | refine AL.blk ?_)
            refine AL.cond ?_
            simp
            repeat (first | refine AL.seq ?_ | refine AL.block ?_ | refine AL.skip ?_ | refine AL.blk ?_)
            refine AL.nil ?_
            exact Weaks.mk (Nat.le_refl _) rfl (by simp [ToL, lk, k3]) (by simp [BoxL, lk])
          · have n3 : (c.kind == 3) = false := by simp [k3]
            repeat (first | refine AL.seq ?_ | refine AL.block ?_ | refine AL.skip ?_ | refine AL.blk ?_)
            refine AL.region follows_Tryz (Nat.le_refl _) (by kernel_rfl) ?_
            simp [n3]
            repeat (first | refine AL.seq ?_ | refine AL.block ?_ | refine AL.skip ?_ | refine AL.blk ?_)
            refine AL.cond ?_
            simp
            by_cases k4 : c.kind = 4
            · repeat (first | refine AL.seq ?_ | refine AL.block ?_ | refine AL.skip ?_ | refine AL.blk ?_)
              refine AL.region follows_Tryz (Nat.le_refl _) (by kernel_rfl) ?_
              simp [k4]
              repeat (first | refine AL.seq ?_ | refine AL.block ?_ | refine AL.skip ?_ | refine AL.blk ?_)
              refine AL.nil ?_
              exact Weaks.mk (Nat.le_refl _) rfl (by simp [ToL, lk, k4]) (by simp [BoxL, lk])
            · have n4 : (c.kind == 4) = false := by simp [k4]
              repeat (first | refine AL.seq ?_ | refine AL.block ?_ | refine AL.skip ?_ | refine AL.blk ?_)
              refine AL.region follows_Tryz (Nat.le_refl _) (by kernel_rfl) ?_
              simp [n4]
              repeat (first | refine AL.seq ?_ | refine AL.block ?_ | refine AL.skip ?_ | refine AL.blk ?_)
              refine AL.nil ?_
              exact Weaks.mk (Nat.le_refl _) rfl (by simp [ToL, lk, k3, k4]) (by simp [BoxL, lk])
        · by_cases k34 : c.kind = 3 ∨ c.kind = 4
          · have d34 : decide (c.kind = 3 ∨ c.kind = 4) = true := decide_eq_true k34
            simp only [d34]
            repeat (first | refine AL.seq ?_ | refine AL.block ?_ | refine AL.skip ?_ | refine AL.blk ?_)
            refine AL.cond ?_
            simp
            by_cases h1 : 0 < c.kids.length
            · repeat (first | refine AL.seq ?_ | refine AL.block ?_ | refine AL.skip ?_ | refine AL.blk ?_)
              refine AL.region follows_Tryz (Nat.le_refl _) (by kernel_rfl) ?_
              simp [h1]
              refine Stop.of_d (unused_c c _ _) ?_
              simp
              repeat (first | refine AL.seq ?_ | refine AL.block ?_ | refine AL.skip ?_ | refine AL.blk ?_)
              refine AL.nil ?_
              exact Weaks.mk (Nat.le_refl _) rfl (by simp [ToL, lk, okC, k1, k2, k34, h1]) (by simp [BoxL, lk])
            · repeat (first | refine AL.seq ?_ | refine AL.block ?_ | refine AL.skip ?_ | refine AL.blk ?_)
              refine AL.region follows_Tryz (Nat.le_refl _) (by kernel_rfl) ?_
              simp [h1]
              repeat (first | refine AL.seq ?_ | refine AL.block ?_ | refine AL.skip ?_ | refine AL.blk ?_)
              refine AL.nil ?_
              exact Weaks.mk (Nat.le_refl _) rfl (by simp [ToL, lk, okC, k1, k2, k34, h1]) (by simp [BoxL, lk])
          · have d34 : decide (c.kind = 3 ∨ c.kind = 4) = false := decide_eq_false k34
            simp only [d34]
            repeat (first | refine AL.seq ?_ | refine AL.block ?_ | refine AL.skip ?_ | refine AL.blk ?_)
            refine AL.cond ?_
            simp
            by_cases k5 : c.kind = 5
            · repeat (first | refine AL.seq ?_ | refine AL.block ?_ | refine AL.skip ?_ | refine AL.blk ?_)
              refine AL.region follows_Tryz (Nat.le_refl _) (by kernel_rfl) ?_
              simp [k5]
              repeat (first | refine AL.seq ?_ | refine AL.block ?_ | refine AL.skip ?_ | refine AL.blk ?_)
              refine AL.cond ?_
              simp
              have h3 : ¬ ((5 : Int) = 3 ∨ (5 : Int) = 4) := by decide
              by_cases h1 : (c.kids.length : Int) = 1
              · repeat (first | refine AL.seq ?_ | refine AL.block ?_ | refine AL.skip ?_ | refine AL.blk ?_)
                refine AL.region follows_Tryz (Nat.le_refl _) (by kernel_rfl) ?_
                simp [h1]
                repeat (first | refine AL.seq ?_ | refine AL.block ?_ | refine AL.skip ?_ | refine AL.blk ?_)
                refine AL.nil ?_
                exact Weaks.mk (Nat.le_refl _) rfl (by simp [ToL, lk, okC, k5, h1]) (by simp [BoxL, lk])
              · have b1 : ((c.kids.length : Int) == 1) = false := by simp [h1]
                repeat (first | refine AL.seq ?_ | refine AL.block ?_ | refine AL.skip ?_ | refine AL.blk ?_)
                refine AL.region follows_Tryz (Nat.le_refl _) (by kernel_rfl) ?_
                simp [b1]
                repeat (first | refine AL.seq ?_ | refine AL.block ?_ | refine AL.skip ?_ | refine AL.blk ?_)
                refine AL.nil ?_
                exact Weaks.mk (Nat.le_refl _) rfl (by simp [ToL, lk, okC, k5, h1]) (by simp [BoxL, lk])
            · have n5 : (c.kind == 5) = false := by simp [k5]
              repeat (first | refine AL.seq ?_ | refine AL.block ?_ | refine AL.skip ?_ | refine AL.blk ?_)
              refine AL.region follows_Tryz (Nat.le_refl _) (by kernel_rfl) ?_
              simp [n5]
              repeat (first | refine AL.seq ?_ | refine AL.block ?_ | refine AL.skip ?_ | refine AL.blk ?_)
              refine AL.cond ?_
              simp
              repeat (first | refine AL.seq ?_ | refine AL.block ?_ | refine AL.skip ?_ | refine AL.blk ?_)
              refine AL.nil ?_
              exact Weaks.mk (Nat.le_refl _) rfl (by simp [ToL, lk, okC, k1, k2, k34, k5]) (by simp [BoxL, lk])
  · repeat (first | refine AL.seq ?_ | refine AL.block ?_ | refine AL.skip ?_ | refine AL.blk ?_)
    refine AL.region follows_Tryz (Nat.le_refl _) (by kernel_rfl) ?_
    simp
    cases h1 : okC c
    · repeat (first | refine AL.seq ?_ | refine AL.block ?_ | refine AL.skip ?_ | refine AL.blk ?_)
      refine AL.cond ?_
      simp
      repeat (first | refine AL.seq ?_ | refine AL.block ?_ | refine AL.skip ?_ | refine AL.blk ?_)
      refine AL.region follows_Tryz (Nat.le_refl _) (by kernel_rfl) ?_
      simp
      repeat (first | refine AL.seq ?_ | refine AL.block ?_ | refine AL.skip ?_ | refine AL.blk ?_)
      refine AL.ret ?_
      try simp only [AU]
      refine ⟨by simp, Fin.data (by simp [resAs, resA]; rfl) hbox rfl htok (fun _ h => h) (Nat.le_refl _) ?_⟩
      simp [packA, shapeC, h1]
    · repeat (first | refine AL.seq ?_ | refine AL.block ?_ | refine AL.skip ?_ | refine AL.blk ?_)
      refine AL.cond ?_
      simp
      repeat (first | refine AL.seq ?_ | refine AL.block ?_ | refine AL.skip ?_ | refine AL.blk ?_)
      refine AL.region follows_Tryz (Nat.le_refl _) (by kernel_rfl) ?_
      simp
      refine Stop.of_d (plain_c c _ _) ?_
      simp
      cases h2 : plainC c
      · repeat (first | refine AL.seq ?_ | refine AL.block ?_ | refine AL.skip ?_ | refine AL.blk ?_)
        refine AL.cond ?_
        simp
        repeat (first | refine AL.seq ?_ | refine AL.block ?_ | refine AL.skip ?_ | refine AL.blk ?_)
        refine AL.region follows_Tryz (Nat.le_refl _) (by kernel_rfl) ?_
        simp
        repeat (first | refine AL.seq ?_ | refine AL.block ?_ | refine AL.skip ?_ | refine AL.blk ?_)
        refine AL.ret ?_
        try simp only [AU]
        refine ⟨by simp, Fin.data (by simp [resAs, resA]; rfl) hbox rfl htok (fun _ h => h) (Nat.le_refl _) ?_⟩
        simp [packA, shapeC, h1, h2]
      · repeat (first | refine AL.seq ?_ | refine AL.block ?_ | refine AL.skip ?_ | refine AL.blk ?_)
        refine AL.cond ?_
        simp
        repeat (first | refine AL.seq ?_ | refine AL.block ?_ | refine AL.skip ?_ | refine AL.blk ?_)
        refine AL.region follows_Tryz (Nat.le_refl _) (by kernel_rfl) ?_
        simp
        repeat (first | refine AL.seq ?_ | refine AL.block ?_ | refine AL.skip ?_ | refine AL.blk ?_)
        refine AL.ret ?_
        try simp only [AU]
        refine ⟨by simp, Fin.data (by simp [resAs, resA]; rfl) hbox rfl htok (fun _ h => h) (Nat.le_refl _) ?_⟩
        simp [packA, shapeC, h1, h2]
end Go.AM
namespace Go.AM
open Go Go.Proofs
set_option linter.unusedSimpArgs false
set_option linter.unusedVariables false

/-! ### The first error of a list -/
def errL (f : Cd → Int) : List Cd → Int
  | [] => 0
  | x :: r => if f x = 0 then errL f r else f x
theorem errL_all {f : Cd → Int} : ∀ {l : List Cd}, (∀ x ∈ l, f x = 0) → errL f l = 0
  | [], _ => rfl
  | x :: r, h => by rw [errL, if_pos (h x (by simp)), errL_all fun y hy => h y (by simp [hy])]
theorem errL_at {f : Cd → Int} : ∀ {l : List Cd} {i : Nat} (hi : i < l.length), (∀ x ∈ l.take i, f x = 0) → f l[i] ≠ 0 → errL f l = f l[i]
  | x :: r, 0, _, _, h => by
    have h' : ¬ f x = 0 := h
    rw [errL, if_neg h']; rfl
  | x :: r, i + 1, hi, h, hf => by
    rw [errL, if_pos (h x (by simp))]
    exact errL_at (by simpa using hi) (fun y hy => h y (by simp [hy])) hf
theorem errL_more {f : Cd → Int} {l : List Cd} {i : Nat} (hi : i < l.length) (h : ∀ x ∈ l.take i, f x = 0) (h1 : f l[i] = 0) : ∀ x ∈ l.take (i + 1), f x = 0 := by
  rw [List.take_succ_eq_append_getElem hi]
  intro x hx
  rcases List.mem_append.1 hx with hx | hx
  · exact h x hx
  · rw [List.mem_singleton] at hx; subst hx; exact h1

def smallC (c : Cd) : Int := if 2000 < c.meas.1 ∨ 3 < c.meas.2 then 3 else 0

theorem cdSmall_c (c : Cd) (hb : c.Big) (tok : Nat → Bool) (nt : Nat) : DCall Tryz.prog 41 [c.av] tok nt (I (smallC c)) tok nt := by
  intro box nb
  have hm := measure_c _ c (Nat.lt_succ_self _) hb
  unfold smallC
  generalize c.meas = q at *
  refine ACalls.of_body Tryz.func41 rfl (by kernel_rfl) follows_Tryz (by kernel_rfl) (by simp [Tryz.ntmps41]) ?_
  intro hbox htok
  simp only at hbox htok
  apply AL.start
  repeat (first | refine AL.seq ?_ | refine AL.block ?_ | refine AL.skip ?_ | refine AL.blk ?_)
  refine AL.region follows_Tryz (Nat.le_refl _) (by kernel_rfl) ?_
  simp
  repeat (first | refine AL.seq ?_ | refine AL.block ?_ | refine AL.skip ?_ | refine AL.blk ?_)
  refine AL.region follows_Tryz (Nat.le_refl _) (by kernel_rfl) ?_
  simp
  refine Stop.of_d (hm _ _) ?_
  simp
  repeat (first | refine AL.seq ?_ | refine AL.block ?_ | refine AL.skip ?_ | refine AL.blk ?_)
  refine AL.region follows_Tryz (Nat.le_refl _) (by kernel_rfl) ?_
  simp
  by_cases h1 : 2000 < q.1
  · simp [h1]
    repeat (first | refine AL.seq ?_ | refine AL.block ?_ | refine AL.skip ?_ | refine AL.blk ?_)
    refine AL.cond ?_
    simp
    repeat (first | refine AL.seq ?_ | refine AL.block ?_ | refine AL.skip ?_ | refine AL.blk ?_)
    refine AL.region follows_Tryz (Nat.le_refl _) (by kernel_rfl) ?_
    simp
    repeat (first | refine AL.seq ?_ | refine AL.block ?_ | refine AL.skip ?_ | refine AL.blk ?_)
    refine AL.ret ?_
    try simp only [AU]
    refine ⟨by simp, Fin.data (by simp [resAs, resA]; rfl) hbox rfl htok (fun _ h => h) (Nat.le_refl _) ?_⟩
    simp [packA, h1]
  · by_cases h2 : 3 < q.2
    · simp [h1, h2]
      repeat (first | refine AL.seq ?_ | refine AL.block ?_ | refine AL.skip ?_ | refine AL.blk ?_)
      refine AL.cond ?_
      simp
      repeat (first | refine AL.seq ?_ | refine AL.block ?_ | refine AL.skip ?_ | refine AL.blk ?_)
      refine AL.region follows_Tryz (Nat.le_refl _) (by kernel_rfl) ?_
      simp
      repeat (first | refine AL.seq ?_ | refine AL.block ?_ | refine AL.skip ?_ | refine AL.blk ?_)
      refine AL.ret ?_
      try simp only [AU]
      refine ⟨by simp, Fin.data (by simp [resAs, resA]; rfl) hbox rfl htok (fun _ h => h) (Nat.le_refl _) ?_⟩
      simp [packA, h1, h2]
    · simp [h1, h2]
      repeat (first | refine AL.seq ?_ | refine AL.block ?_ | refine AL.skip ?_ | refine AL.blk ?_)
      refine AL.cond ?_
      simp
      repeat (first | refine AL.seq ?_ | refine AL.block ?_ | refine AL.skip ?_ | refine AL.blk ?_)
      refine AL.region follows_Tryz (Nat.le_refl _) (by kernel_rfl) ?_
      simp
      repeat (first | refine AL.seq ?_ | refine AL.block ?_ | refine AL.skip ?_ | refine AL.blk ?_)
      refine AL.ret ?_
      try simp only [AU]
      refine ⟨by simp, Fin.data (by simp [resAs, resA]; rfl) hbox rfl htok (fun _ h => h) (Nat.le_refl _) ?_⟩
      simp [packA, h1, h2]

mutual
def Cd.shs : Cd → Int
  | .mk k c m g s v t => if shapeC (.mk k c m g s v t) = 0 then Cd.shsL c else shapeC (.mk k c m g s v t)
def Cd.shsL : List Cd → Int
  | [] => 0
  | x :: r => if Cd.shs x = 0 then Cd.shsL r else Cd.shs x
end
theorem Cd.shsL_eq : ∀ l : List Cd, Cd.shsL l = errL Cd.shs l
  | [] => by simp [Cd.shsL, errL]
  | x :: r => by simp [Cd.shsL, errL, Cd.shsL_eq r]
theorem Cd.shs_eq (c : Cd) : c.shs = if shapeC c = 0 then errL Cd.shs c.kids else shapeC c := by
  cases c
  simp [Cd.shs, Cd.kids, Cd.shsL_eq]

def stSh (c : Cd) (nb : Nat) (box : Nat → Option (List (List AV))) (tok : Nat → Bool) (nt : Nat) (i : Nat) : AState :=
  ⟨tl [(13, .d (conds c.kids)), (14, I c.kids.length), (15, I i), (1, .ptr (nb + 1) 0 0)], lb nb box [(1, [c.row])], tok, nt⟩

theorem shapes_c : ∀ (n : Nat) (c : Cd), SizeOf.sizeOf c < n → c.Big → ∀ (tok : Nat → Bool) (nt : Nat), DCall Tryz.prog 40 [c.av] tok nt (I c.shs) tok nt
  | 0, c, hn, _, tok, nt => absurd hn (Nat.not_lt_zero _)
  | n + 1, c, hn, hb, tok, nt => by
    intro box nb
    have ih := fun x (hx : x ∈ c.kids) => shapes_c n x (by have := Cd.kid_lt hx; omega) (hb.kid x hx)
    have hkb := hb.kids
    rw [kidN_eq] at hkb
    have hR := c.shs_eq
    refine ACalls.of_body Tryz.func40 rfl (by kernel_rfl) follows_Tryz (by kernel_rfl) (by simp [Tryz.ntmps40]) ?_
    intro hbox htok
    simp only at hbox htok
    apply AL.start
    repeat (first | refine AL.seq ?_ | refine AL.block ?_ | refine AL.skip ?_ | refine AL.blk ?_)
    refine AL.region follows_Tryz (Nat.le_refl _) (by kernel_rfl) ?_
    simp
    repeat (first | refine AL.seq ?_ | refine AL.block ?_ | refine AL.skip ?_ | refine AL.blk ?_)
    refine AL.region follows_Tryz (Nat.le_refl _) (by kernel_rfl) ?_
    simp
    refine Stop.of_d (shape_c c _ _) ?_
    simp
    repeat (first | refine AL.seq ?_ | refine AL.block ?_ | refine AL.skip ?_ | refine AL.blk ?_)
    refine AL.region follows_Tryz (Nat.le_refl _) (by kernel_rfl) ?_
    simp
    by_cases h0 : shapeC c = 0
    · rw [if_pos h0] at hR
      simp only [h0]
      repeat (first | refine AL.seq ?_ | refine AL.block ?_ | refine AL.skip ?_ | refine AL.blk ?_)
      refine AL.cond ?_
      simp
      repeat (first | refine AL.seq ?_ | refine AL.block ?_ | refine AL.skip ?_ | refine AL.blk ?_)
      refine AL.region follows_Tryz (Nat.le_refl _) (by kernel_rfl) ?_
      simp
      repeat (first | refine AL.seq ?_ | refine AL.block ?_ | refine AL.skip ?_ | refine AL.blk ?_)
      refine AL.loopT (stSh c nb box tok nt) (fun i => i ≤ c.kids.length ∧ ∀ x ∈ c.kids.take i, Cd.shs x = 0) (fun i => c.kids.length - i) 0 ⟨Nat.zero_le _, by simp⟩ (Weaks.mk (Nat.le_refl _) rfl (by simp [ToL, lk]) (by simp [BoxL, lk])) ?_
      rintro i S ⟨hi, hz⟩ hS
      simp only [stSh] at hS
      subst hS
      have hw : IntKind.i64.wrap (↑i + 1) = ((i + 1 : Nat) : Int) := by rw [wrap_in (by omega) (by omega)]; rfl
      repeat (first | refine AL.seq ?_ | refine AL.block ?_ | refine AL.skip ?_ | refine AL.blk ?_)
      refine AL.region follows_Tryz (Nat.le_refl _) (by kernel_rfl) ?_
      simp
      repeat (first | refine AL.seq ?_ | refine AL.block ?_ | refine AL.skip ?_ | refine AL.blk ?_)
      refine AL.cond ?_
      simp
      refine ⟨fun hlt => ?_, fun hge => ?_⟩
      · have ihx := ih _ (List.getElem_mem hlt)
        have hyes := errL_more (f := Cd.shs) hlt hz
        have hno := errL_at (f := Cd.shs) hlt hz
        repeat (first | refine AL.seq ?_ | refine AL.block ?_ | refine AL.skip ?_ | refine AL.blk ?_)
        refine AL.region follows_Tryz (Nat.le_refl _) (by kernel_rfl) ?_
        simp [hlt, Cd.cells_eq]
        generalize c.kids[i] = x at *
        repeat (first | refine AL.seq ?_ | refine AL.block ?_ | refine AL.skip ?_ | refine AL.blk ?_)
        refine AL.region follows_Tryz (Nat.le_refl _) (by kernel_rfl) ?_
        simp
        refine Stop.of_d (ihx _ _) ?_
        simp
        repeat (first | refine AL.seq ?_ | refine AL.block ?_ | refine AL.skip ?_ | refine AL.blk ?_)
        refine AL.region follows_Tryz (Nat.le_refl _) (by kernel_rfl) ?_
        simp
        by_cases h1 : x.shs = 0
        · simp only [h1]
          repeat (first | refine AL.seq ?_ | refine AL.block ?_ | refine AL.skip ?_ | refine AL.blk ?_)
          refine AL.cond ?_
          simp
          repeat (first | refine AL.seq ?_ | refine AL.block ?_ | refine AL.skip ?_ | refine AL.blk ?_)
          refine AL.region follows_Tryz (Nat.le_refl _) (by kernel_rfl) ?_
          simp [hw]
          repeat (first | refine AL.seq ?_ | refine AL.block ?_ | refine AL.skip ?_ | refine AL.blk ?_)
          refine AL.nil ?_
          exact ⟨i + 1, ⟨hlt, hyes h1⟩, by omega, Weaks.mk (Nat.le_refl _) rfl (by simp [ToL, lk]) (by simp [BoxL, lk])⟩
        · have b1 : (x.shs != 0) = true := by simp [h1]
          simp only [b1]
          repeat (first | refine AL.seq ?_ | refine AL.block ?_ | refine AL.skip ?_ | refine AL.blk ?_)
          refine AL.cond ?_
          simp
          repeat (first | refine AL.seq ?_ | refine AL.block ?_ | refine AL.skip ?_ | refine AL.blk ?_)
          refine AL.region follows_Tryz (Nat.le_refl _) (by kernel_rfl) ?_
          simp
          repeat (first | refine AL.seq ?_ | refine AL.block ?_ | refine AL.skip ?_ | refine AL.blk ?_)
          refine AL.ret ?_
          try simp only [AU]
          refine ⟨by simp, Fin.data (by simp [resAs, resA]; rfl) hbox rfl htok (fun _ h => h) (Nat.le_refl _) ?_⟩
          simp [packA, hR, hno h1]
      · repeat (first | refine AL.seq ?_ | refine AL.block ?_ | refine AL.skip ?_ | refine AL.blk ?_)
        refine AL.exit ?_
        simp only [AU, ↓reduceIte]
        rw [List.take_of_length_le hge] at hz
        repeat (first | refine AL.seq ?_ | refine AL.block ?_ | refine AL.skip ?_ | refine AL.blk ?_)
        refine AL.region follows_Tryz (Nat.le_refl _) (by kernel_rfl) ?_
        simp
        repeat (first | refine AL.seq ?_ | refine AL.block ?_ | refine AL.skip ?_ | refine AL.blk ?_)
        refine AL.ret ?_
        try simp only [AU]
        refine ⟨by simp, Fin.data (by simp [resAs, resA]; rfl) hbox rfl htok (fun _ h => h) (Nat.le_refl _) ?_⟩
        simp [packA, hR, errL_all hz]
    · rw [if_neg h0] at hR
      have b0 : (shapeC c != 0) = true := by simp [h0]
      simp only [b0]
      repeat (first | refine AL.seq ?_ | refine AL.block ?_ | refine AL.skip ?_ | refine AL.blk ?_)
      refine AL.cond ?_
      simp
      repeat (first | refine AL.seq ?_ | refine AL.block ?_ | refine AL.skip ?_ | refine AL.blk ?_)
      refine AL.region follows_Tryz (Nat.le_refl _) (by kernel_rfl) ?_
      simp
      repeat (first | refine AL.seq ?_ | refine AL.block ?_ | refine AL.skip ?_ | refine AL.blk ?_)
      refine AL.ret ?_
      try simp only [AU]
      refine ⟨by simp, Fin.data (by simp [resAs, resA]; rfl) hbox rfl htok (fun _ h => h) (Nat.le_refl _) ?_⟩
      simp [packA, hR]
end Go.AM
/-
  The library contracts that this seat uses (slices.Sort, Clone, Compact at int), laid at the program in plain words by the kit's two programs.
-/
namespace Go.Proofs
open Go.Shelf
def Tryz.lays189_ren : Go.Shelf.Ren := ⟨fun | 189 => 86 | 125 => 97 | 257 => 96 | 128 => 111 | 129 => 112 | 294 => 102 | 295 => 103 | 296 => 104 | 297 => 105 | 298 => 106 | 299 => 107 | 216 => 108 | 300 => 109 | 301 => 110 | 328 => 115 | 329 => 116 | 330 => 117 | 331 => 118 | 332 => 119 | 215 => 120 | 343 => 124 | n => n, fun | 28 => 22 | 3 => 3 | 46 => 121 | 0 => 0 | 51 => 132 | 53 => 135 | 4 => 4 | 183 => 141 | 182 => 140 | 131 => 145 | 5 => 5 | 9 => 9 | 218 => 150 | 222 => 154 | 228 => 160 | 229 => 54 | n => n, fun | n => n⟩
theorem Tryz.lays189 : Go.Proofs.Lays.n189 Tryz.prog Tryz.lays189_ren := {
  mixed := by kernel_rfl
  f125 := Tryz.func97.trans (congrArg some (by kernel_rfl))
  f128 := Tryz.func111.trans (congrArg some (by kernel_rfl))
  f129 := Tryz.func112.trans (congrArg some (by kernel_rfl))
  f189 := Tryz.func86.trans (congrArg some (by kernel_rfl))
  f215 := Tryz.func120.trans (congrArg some (by kernel_rfl))
  f216 := Tryz.func108.trans (congrArg some (by kernel_rfl))
  f257 := Tryz.func96.trans (congrArg some (by kernel_rfl))
  f294 := Tryz.func102.trans (congrArg some (by kernel_rfl))
  f295 := Tryz.func103.trans (congrArg some (by kernel_rfl))
  f296 := Tryz.func104.trans (congrArg some (by kernel_rfl))
  f297 := Tryz.func105.trans (congrArg some (by kernel_rfl))
  f298 := Tryz.func106.trans (congrArg some (by kernel_rfl))
  f299 := Tryz.func107.trans (congrArg some (by kernel_rfl))
  f300 := Tryz.func109.trans (congrArg some (by kernel_rfl))
  f301 := Tryz.func110.trans (congrArg some (by kernel_rfl))
  f328 := Tryz.func115.trans (congrArg some (by kernel_rfl))
  f329 := Tryz.func116.trans (congrArg some (by kernel_rfl))
  f330 := Tryz.func117.trans (congrArg some (by kernel_rfl))
  f331 := Tryz.func118.trans (congrArg some (by kernel_rfl))
  f332 := Tryz.func119.trans (congrArg some (by kernel_rfl))
  f343 := Tryz.func124.trans (congrArg some (by kernel_rfl))
  t0 := Tryz.underlying0
  a0 := Tryz.isAgg0
  z0 := Tryz.sizeOf0
  v0 := Tryz.zeroValue0
  t3 := Tryz.underlying3
  a3 := Tryz.isAgg3
  z3 := Tryz.sizeOf3
  v3 := Tryz.zeroValue3
  t4 := Tryz.underlying4
  a4 := Tryz.isAgg4
  z4 := Tryz.sizeOf4
  v4 := Tryz.zeroValue4
  t5 := Tryz.underlying5
  a5 := Tryz.isAgg5
  z5 := Tryz.sizeOf5
  v5 := Tryz.zeroValue5
  t9 := Tryz.underlying9
  a9 := Tryz.isAgg9
  z9 := Tryz.sizeOf9
  v9 := Tryz.zeroValue9
  t28 := Tryz.underlying22
  a28 := Tryz.isAgg22
  z28 := Tryz.sizeOf22
  v28 := Tryz.zeroValue22
  t46 := Tryz.underlying121
  a46 := Tryz.isAgg121
  z46 := Tryz.sizeOf121
  v46 := Tryz.zeroValue121
  t51 := Tryz.underlying132
  a51 := Tryz.isAgg132
  z51 := Tryz.sizeOf132
  v51 := Tryz.zeroValue132
  t53 := Tryz.underlying135
  a53 := Tryz.isAgg135
  z53 := Tryz.sizeOf135
  v53 := Tryz.zeroValue135
  t131 := Tryz.underlying145
  a131 := Tryz.isAgg145
  z131 := Tryz.sizeOf145
  v131 := Tryz.zeroValue145
  t182 := Tryz.underlying140
  a182 := Tryz.isAgg140
  z182 := Tryz.sizeOf140
  v182 := Tryz.zeroValue140
  t183 := Tryz.underlying141
  a183 := Tryz.isAgg141
  z183 := Tryz.sizeOf141
  v183 := Tryz.zeroValue141
  t218 := Tryz.underlying150
  a218 := Tryz.isAgg150
  z218 := Tryz.sizeOf150
  v218 := Tryz.zeroValue150
  t222 := Tryz.underlying154
  a222 := Tryz.isAgg154
  z222 := Tryz.sizeOf154
  v222 := Tryz.zeroValue154
  t228 := Tryz.underlying160
  a228 := Tryz.isAgg160
  z228 := Tryz.sizeOf160
  v228 := Tryz.zeroValue160
  t229 := Tryz.underlying54
  a229 := Tryz.isAgg54
  z229 := Tryz.sizeOf54
  v229 := Tryz.zeroValue54 }
open Go.Sort Go.RowKit in
theorem Tryz.slices_Sort_int (blk off cap : Nat) (zs : List Int) (w : World) (hH : Holds (Value.int .i64) w blk off zs.toArray) (hblk : blk < w.heap.size) (hsz : zs.length < 4611686018427387904) :
    Calls Tryz.prog 86 #[.slice (some ⟨blk, off, none⟩) zs.length cap] w fun e w' =>
      e = .returned (.tuple #[]) ∧ ∃ n os, w' = grow (putRow (Value.int .i64) (Sort.ahead w n) blk off (zs.mergeSort fun x y => decide (x ≤ y)).toArray) os := Any.slices_Sort_int Tryz.lays189 blk off cap zs w hH hblk hsz
def Tryz.laysNm215_ren : Go.Shelf.Ren := ⟨fun | 15 => 85 | n => n, fun | 22 => 22 | 3 => 3 | 4 => 4 | n => n, fun | n => n⟩
theorem Tryz.laysNm215 : Go.Proofs.Lays2.n15 Tryz.prog Tryz.laysNm215_ren := {
  mixed := by kernel_rfl
  f15 := Tryz.func85.trans (congrArg some (by kernel_rfl))
  t3 := Tryz.underlying3
  a3 := Tryz.isAgg3
  z3 := Tryz.sizeOf3
  v3 := Tryz.zeroValue3
  t4 := Tryz.underlying4
  a4 := Tryz.isAgg4
  z4 := Tryz.sizeOf4
  v4 := Tryz.zeroValue4
  t22 := Tryz.underlying22
  a22 := Tryz.isAgg22
  z22 := Tryz.sizeOf22
  v22 := Tryz.zeroValue22
  i3 := by kernel_rfl }
open Go.RowKit Go.Lib in
theorem Tryz.slices_Clone_int (b off n c : Nat) (zs : List Int) (w : World) (hz : n ≤ zs.length) (hbig : n * 8 ≤ 140737488355328) (hc : ∀ j, j < zs.length → w.cell? ⟨b, off + j, none⟩ = some (.int .i64 (zs.getD j 0))) :
    Calls Tryz.prog 85 #[.slice (some ⟨b, off, none⟩) n c] w fun e w' => ∃ v', e = .returned v' ∧ w'.ownsRow w.heap.size 3 1 v' n ((zs.take n).map (Value.int .i64)) ∧ v' ≠ .slice none 0 0 ∧ Below w.heap.size w w' := Any.slices_Clone_int Tryz.laysNm215 b off n c zs w hz hbig hc
open Go.RowKit Go.Lib in
theorem Tryz.slices_Clone_int_nil (n c : Nat) (w : World) :
    Calls Tryz.prog 85 #[.slice none n c] w fun e w' => e = .returned (.slice none 0 0) ∧ w' = w := Any.slices_Clone_int_nil Tryz.laysNm215 n c w
open Go.RowKit Go.Lib in
theorem Tryz.slices_Clone_int_zero (a : Addr) (c : Nat) (w : World) :
    Calls Tryz.prog 85 #[.slice (some a) 0 c] w fun e w' => ∃ v', e = .returned v' ∧ w'.ownsRow w.heap.size 3 1 v' 0 [] ∧ v' ≠ .slice none 0 0 ∧ Below w.heap.size w w' := Any.slices_Clone_int_zero Tryz.laysNm215 a c w
def Tryz.laysNm220_ren : Go.Shelf.Ren := ⟨fun | 20 => 87 | n => n, fun | 22 => 22 | 3 => 3 | 4 => 4 | 0 => 0 | n => n, fun | n => n⟩
theorem Tryz.laysNm220 : Go.Proofs.Lays2.n20 Tryz.prog Tryz.laysNm220_ren := {
  mixed := by kernel_rfl
  f20 := Tryz.func87.trans (congrArg some (by kernel_rfl))
  t0 := Tryz.underlying0
  a0 := Tryz.isAgg0
  z0 := Tryz.sizeOf0
  v0 := Tryz.zeroValue0
  t3 := Tryz.underlying3
  a3 := Tryz.isAgg3
  z3 := Tryz.sizeOf3
  v3 := Tryz.zeroValue3
  t4 := Tryz.underlying4
  a4 := Tryz.isAgg4
  z4 := Tryz.sizeOf4
  v4 := Tryz.zeroValue4
  t22 := Tryz.underlying22
  a22 := Tryz.isAgg22
  z22 := Tryz.sizeOf22
  v22 := Tryz.zeroValue22
  i3 := by kernel_rfl }
open Go.RowKit Go.Lib Go.Sort in
theorem Tryz.slices_Compact_int (blk off cap : Nat) (zs : List Int) (w : World) (hH : Holds (Value.int .i64) w blk off zs.toArray) (hsz : zs.length ≤ 9223372036854775807) (hcap : zs.length ≤ cap) :
    Calls Tryz.prog 87 #[.slice (some ⟨blk, off, none⟩) zs.length cap] w fun e w' => e = .returned (.slice (some ⟨blk, off, none⟩) (Lib.compact zs).length cap) ∧ ∃ q, w' = putRow (Value.int .i64) (Sort.ahead w q) blk off (Lib.compact zs ++ List.replicate (zs.length - (Lib.compact zs).length) 0).toArray := Any.slices_Compact_int Tryz.laysNm220 blk off cap zs w hH hsz hcap
open Go.RowKit Go.Lib Go.Sort in
theorem Tryz.slices_Compact_int_empty (a : Option Addr) (cap : Nat) (w : World) :
    Calls Tryz.prog 87 #[.slice a 0 cap] w fun e w' => e = .returned (.slice a 0 cap) ∧ w' = w := Any.slices_Compact_int_empty Tryz.laysNm220 a cap w
open Go.RowKit Go.Sort in
theorem Tryz.slices_Sort_int_none (p : Option Addr) (cap : Nat) (w : World) :
    Calls Tryz.prog 86 #[.slice p 0 cap] w fun e w' => e = .returned (.tuple #[]) ∧ w' = w := Any.slices_Sort_int_none Tryz.lays189 p cap w
end Go.Proofs
/-
  morphism.images: it hands back how many numbers a list holds, by the library's Clone, Sort and Compact, and turns nothing that lay there.
-/
namespace Go.Proofs.YtbihadcpidlfoaaGreat.images
open Go Go.Proofs Go.RowKit Go.Shelf Go.Sort

theorem below_grow {B : Nat} {w0 w : World} {os : Array Obj} (h : Below B w0 w) (hB : B ≤ w.heap.size) : Below B w0 (grow w os) :=
  ⟨h.os, h.tape, h.output, by simp [grow]; have := h.size; omega, fun k hk => by
    rw [← h.block k hk]
    exact heap_grow_old _ _ (by omega)⟩

set_option maxHeartbeats 2000000 in
set_option maxRecDepth 100000 in
theorem any (b off n c : Nat) (zs : List Int) (w : World) (hz : zs.length = n) (hbig : n * 8 ≤ 140737488355328) (hc : ∀ j, j < zs.length → w.cell? ⟨b, off + j, none⟩ = some (.int .i64 (zs.getD j 0))) :
    Calls Tryz.prog 69 #[.slice (some ⟨b, off, none⟩) n c] w fun e w' => e = .returned (.int .i64 (Lib.compact (zs.mergeSort fun x y => decide (x ≤ y))).length) ∧ Below w.heap.size w w' := by
  have hclone := Tryz.slices_Clone_int b off n c zs w (by omega) hbig hc
  rw [List.take_of_length_le (by omega)] at hclone
  clear hc
  go_enter Tryz.func69, Tryz.ntmps69
  go_wp2_with (first
    | (go_at_call 85; refine hclone.mono ?_; rintro e w1 ⟨v1, rfl, hown, hnn, hbel⟩
       obtain ⟨g, cap, rfl, hbg, hgl, hncap, hcm, hlen, hH⟩ := Lib.holds_of_ownsRow hown hnn
       have hsort := Tryz.slices_Sort_int g 0 cap zs w1 hH hgl (by omega)
       rw [hlen] at hsort
       have X : Aside (Below w.heap.size w w1 ∧ w.heap.size ≤ g ∧ g < w1.heap.size ∧ n ≤ cap ∧ cap ≤ maxLen ∧ Holds (Value.int .i64) w1 g 0 zs.toArray) := ⟨hbel, hbg, hgl, hncap, hcm, hH⟩
       clear hown hbel hH hnn)
    | (go_at_call 86; refine hsort.mono ?_; rintro e w2 ⟨rfl, nn, os, rfl⟩
       have hl2 : (zs.mergeSort fun x y => decide (x ≤ y)).length = n := by rw [List.length_mergeSort]; exact hz
       have hH2 : Holds (Value.int .i64) (grow (putRow (Value.int .i64) (Sort.ahead w1 nn) g 0 (zs.mergeSort fun x y => decide (x ≤ y)).toArray) os) g 0 (zs.mergeSort fun x y => decide (x ≤ y)).toArray :=
         holds_grow _ _ os g 0 _ (by simpa [putRow, mapBlock, Sort.ahead] using X.out.2.2.1) (holds_putRow _ _ g 0 _ _ (holds_ahead _ w1 nn g 0 _ X.out.2.2.2.2.2) (by simp))
       have hcomp := Tryz.slices_Compact_int g 0 cap (zs.mergeSort fun x y => decide (x ≤ y)) _ hH2 (by omega) (by have := X.out.2.2.2.1; omega)
       rw [hl2] at hcomp
       clear hH2 hsort)
    | (go_at_call 87; refine hcomp.mono ?_; rintro e w3 ⟨rfl, q, rfl⟩))
  go_ret
  exact ⟨rfl, Lib.below_putRow (below_grow (Lib.below_putRow X.out.1 X.out.2.1) (by have := X.out.1.size; simp [putRow, mapBlock, Sort.ahead]; omega)) X.out.2.1⟩

set_option maxHeartbeats 2000000 in
set_option maxRecDepth 100000 in
theorem zero (a : Addr) (c : Nat) (w : World) : Calls Tryz.prog 69 #[.slice (some a) 0 c] w fun e w' => e = .returned (.int .i64 0) ∧ Below w.heap.size w w' := by
  have hclone := Tryz.slices_Clone_int_zero a c w
  go_enter Tryz.func69, Tryz.ntmps69
  go_wp2_with (first
    | (go_at_call 85; refine hclone.mono ?_; rintro e w1 ⟨v1, rfl, hown, hnn, hbel⟩
       obtain ⟨g, cap, rfl, _, _, _, _, _, _⟩ := Lib.holds_of_ownsRow (enc := Value.int .i64) (zs := []) hown hnn
       have X : Aside (Below w.heap.size w w1) := hbel
       clear hown hbel hnn)
    | (go_at_call 86; refine (Tryz.slices_Sort_int_none _ _ _).mono ?_; rintro e w2 ⟨rfl, rfl⟩)
    | (go_at_call 87; refine (Tryz.slices_Compact_int_empty _ _ _).mono ?_; rintro e w3 ⟨rfl, rfl⟩))
  go_ret
  exact ⟨rfl, X.out⟩

set_option maxHeartbeats 2000000 in
set_option maxRecDepth 100000 in
theorem none (n c : Nat) (w : World) : Calls Tryz.prog 69 #[.slice none n c] w fun e w' => e = .returned (.int .i64 0) ∧ Below w.heap.size w w' := by
  go_enter Tryz.func69, Tryz.ntmps69
  go_wp2_with (first
    | (go_at_call 85; refine (Tryz.slices_Clone_int_nil n c _).mono ?_; rintro e w1 ⟨rfl, rfl⟩)
    | (go_at_call 86; refine (Tryz.slices_Sort_int_none _ _ _).mono ?_; rintro e w2 ⟨rfl, rfl⟩)
    | (go_at_call 87; refine (Tryz.slices_Compact_int_empty _ _ _).mono ?_; rintro e w3 ⟨rfl, rfl⟩))
  go_ret
  exact ⟨rfl, Below.refl _ _⟩
end Go.Proofs.YtbihadcpidlfoaaGreat.images
/-
  The bridge: a call that is known by the kit's walk, turns nothing that lay there and hands back plain data, as a call of the abstract machine; morphism.images so.
-/
namespace Go.AM
open Go Go.Proofs Go.RowKit
set_option linter.unusedSimpArgs false
set_option linter.unusedVariables false

theorem le_below {G : Gh} {w w' : World} {m : AMem} (hm : RelM G m w) (h : Below w.heap.size w w') : Le G w G w' where
  os := h.os
  tape := h.tape
  output := h.output
  size := h.size
  whole b hb hk := ⟨hk, h.block b hb⟩
  part b f c hk := ⟨⟨f, Nat.le_refl _, hk⟩, fun a ha _ => by
    have hb : a.block < w.heap.size := by
      rcases Nat.lt_or_ge a.block w.heap.size with hb | hb
      · exact hb
      · have := hm.fresh a.block hb
        rw [ha, hk] at this
        cases this
    exact World.cell?_of_block (w := w) (h.block _ hb)⟩
  bx _ _ h := h
  nt := Nat.le_refl _
  tk t _ := .inr ⟨rfl, fun g hg => ⟨rfl, fun _ => h.block g (hm.tlt t g hg)⟩⟩

theorem lt_of_obj {w : World} {b : Nat} {o : Obj} (h : w.heap[b]? = some o) : b < w.heap.size := by
  rcases Nat.lt_or_ge b w.heap.size with hb | hb
  · exact hb
  · rw [Array.getElem?_eq_none hb] at h; cases h

theorem relM_below {G : Gh} {w w' : World} {m : AMem} (hm : RelM G m w) (h : Below w.heap.size w w') : RelM G m w' := by
  have hle := le_below hm h
  constructor
  case box =>
    intro k rows b sz h1 h2
    obtain ⟨g1, cs, e, g2, g3, g4, g5⟩ := hm.box k rows b sz h1 h2
    exact ⟨g1, cs, e, by rw [h.block b (lt_of_obj g2)]; exact g2, g3, g4.mono hle, g5⟩
  case nobox => exact hm.nobox
  case inj => exact hm.inj
  case nb => exact hm.nb
  case nt => exact hm.nt
  case toks => exact hm.toks
  case tokb =>
    intro t g hg
    obtain ⟨f, cur, e, g1, g2⟩ := hm.tokb t g hg
    exact ⟨f, cur, e, g1, by rw [h.block g (lt_of_obj g2)]; exact g2⟩
  case tinj => exact hm.tinj
  case tnt => exact hm.tnt
  case fresh => intro b hb; exact hm.fresh b (Nat.le_trans h.size hb)

/-- A call that hands back one plain value and turns nothing that lay there. -/
theorem DCall.of_below {P : Program} {f : FuncId} {args : List AV} {tok : Nat → Bool} {nt : Nat} {v : Value} (hE : Enters P f) (h1 : v.oneCell' = true)
    (h : ∀ G w vals, RVs G w args vals → Calls P f vals.toArray w fun e w' => e = .returned v ∧ Below w.heap.size w w') : DCall P f args tok nt (.d (.raw v)) tok nt := by
  intro box nb
  refine ⟨hE, fun G w vals hm hr => (h G w vals hr).mono ?_⟩
  rintro e w' ⟨rfl, hb⟩
  exact ⟨v, _, _, G, rfl, ⟨rfl, rfl⟩, rfl, relM_below hm hb, .d (.raw h1), le_below hm hb, fun k hk => ⟨hk, rfl⟩⟩

/-- A slice of numbers, opened: where it lies and what its cells hold. -/
theorem rvd_ints {c : Addr → Option Value} {ps : Addr → Prop} {l : List Int} {v : Value} (h : RVd c ps (ints l) v) :
    ∃ A cap, v = .slice A l.length cap ∧ l.length ≤ cap ∧ cap ≤ maxLen ∧ (l ≠ [] → ∃ a, A = some a) ∧ ∀ a, A = some a → ∀ i, i < l.length → c (a.add i) = some (.int .i64 (l.getD i 0)) := by
  unfold ints at h
  generalize hes : (l.map fun n => [D.raw (.int .i64 n)]) = es at h
  cases h with
  | @sl _ _ A cap u hcap hmax hsz hA hc hr =>
    have hl : es.length = l.length := by rw [← hes]; simp
    refine ⟨A, cap, by rw [hl], by omega, hmax, fun hne => hA (by intro e; rw [e] at hl; exact hne (List.length_eq_zero_iff.1 hl.symm)), fun a ha i hi => ?_⟩
    have g := (hc a ha i 0 (by omega) (by decide)).2
    have r := hr i 0 (by omega) (by rw [hsz _ (List.getElem_mem _)]; decide)
    have e1 : es[i][0]'(by rw [hsz _ (List.getElem_mem _)]; decide) = D.raw (.int .i64 l[i]) := by
      subst hes
      simp
    rw [e1] at r
    have e2 : u i 0 = .int .i64 l[i] := by
      generalize hu : u i 0 = x at r
      cases r
      rfl
    rw [Nat.mul_one, Nat.add_zero, e2] at g
    rw [g]
    simp [hi]

/-- How many numbers a list holds. -/
def imagesN (l : List Int) : Nat := (Lib.compact (l.mergeSort fun x y => decide (x ≤ y))).length

theorem imagesN_nil : imagesN [] = 0 := by
  simp [imagesN, List.mergeSort, Lib.compact]
  rfl

theorem images88_c (l : List Int) (hl : l.length ≤ 1000000) (tok : Nat → Bool) (nt : Nat) : DCall Tryz.prog 69 [.d (ints l)] tok nt (I (imagesN l)) tok nt := by
  refine DCall.of_below (Enters.mk Tryz.func69 rfl (by kernel_rfl)) rfl fun G w vals hr => ?_
  obtain ⟨hlen, hrv⟩ := hr
  match vals, hlen with
  | [v], _ =>
    have h0 := hrv 0 (by simp) (by simp)
    simp only [List.getElem_cons_zero] at h0
    cases h0 with
    | d h0 =>
      obtain ⟨A, cap, rfl, hcap, hmax, hA, hc⟩ := rvd_ints h0
      cases A with
      | none =>
        have : l = [] := by
          by_cases e : l = []
          · exact e
          · obtain ⟨a, ha⟩ := hA e; cases ha
        subst this
        exact (YtbihadcpidlfoaaGreat.images.none _ cap w).mono fun e w' h => by rw [imagesN_nil]; exact h
      | some a =>
        by_cases e : l = []
        · subst e
          exact (YtbihadcpidlfoaaGreat.images.zero a cap w).mono fun e w' h => by rw [imagesN_nil]; exact h
        · have hp : 0 < l.length := List.length_pos_iff.2 e
          have hc' := hc a rfl
          have hs : a.spot = none := by
            cases hsp : a.spot with
            | none => rfl
            | some q =>
              exfalso
              have := hc' 0 hp
              simp only [World.cell?, Addr.add, hsp, Option.isSome_some, ↓reduceIte] at this
              split at this <;> simp at this
          obtain ⟨b, off, sp⟩ := a
          simp only at hs
          subst hs
          refine (YtbihadcpidlfoaaGreat.images.any b off l.length cap l w rfl (by omega) fun j hj => ?_).mono fun e w' h => h
          have h1 := hc' j hj
          unfold Addr.add at h1
          split at h1
          · rename_i e; subst e; exact h1
          · exact h1
end Go.AM
/-
  The abstract machine: boxes lent to a call as data. What a call does with data that it only reads, it does with boxes that hold the same.
-/
namespace Go.AM
open Go
set_option linter.unusedSimpArgs false
set_option linter.unusedVariables false

variable {P : Program}

/-- An argument, and how it is lent. -/
inductive Bo (box : Nat → Option (List (List AV))) : AV → AV → Prop
  | same {x} (h : OkIn (fun _ => False) (fun _ => True) x) : Bo box x x
  | msl {k sz : Nat} {es : List (List D)} (hk : box k = some (rowsD es)) : Bo box (.msl k 0 es.length sz) (.d (.sl sz es))

def BoL (box : Nat → Option (List (List AV))) : List AV → List AV → Prop
  | [], [] => True
  | x :: a, y :: b => Bo box x y ∧ BoL box a b
  | _, _ => False

theorem Bo.ext {box box' : Nat → Option (List (List AV))} (he : Ext box box') {x y : AV} (h : Bo box x y) : Bo box' x y := by
  cases h with
  | same h => exact .same h
  | msl h => exact .msl (he _ _ h)
theorem BoL.ext {box box' : Nat → Option (List (List AV))} (he : Ext box box') : ∀ {a b : List AV}, BoL box a b → BoL box' a b
  | [], [], _ => trivial
  | x :: a, y :: b, h => ⟨h.1.ext he, BoL.ext he h.2⟩
  | [], _ :: _, h => h.elim
  | _ :: _, [], h => h.elim

def Gh.lend (G : Gh) (p : Nat → Prop) [DecidablePred p] : Gh := { bx := fun _ => none, kind := fun b => if p b then .whole else G.kind b, tk := G.tk, nt := G.nt }

theorem lend_ps {G : Gh} {p : Nat → Prop} [DecidablePred p] {a : Addr} (h : G.ps a) : (G.lend p).ps a := by
  unfold Gh.ps at h ⊢
  simp only [Gh.lend]
  by_cases e : p a.block
  · simp [e]
  · simp only [e, ↓reduceIte]; exact h

theorem RV.lend {G : Gh} {w : World} {p : Nat → Prop} [DecidablePred p] (hp : ∀ b, p b → G.kind b = .box) {x : AV} {v : Value} (h : RV G w x v) (ho : OkIn (fun _ => False) (fun _ => True) x) : RV (G.lend p) w x v := by
  have hc : ∀ (a : Addr) (u : Value), G.ps a → w.cell? a = some u → (G.lend p).ps a ∧ w.cell? a = some u := fun a u h1 h2 => ⟨lend_ps h1, h2⟩
  have hk : ∀ g, G.kind g ≠ .box → (G.lend p).kind g = G.kind g := fun g hg => by
    simp only [Gh.lend]
    rw [if_neg fun e => hg (hp g e)]
  induction h with
  | bot => exact .bot
  | d h1 => exact .d (h1.mono hc)
  | osl h1 h2 =>
    refine .osl (h1.mono hc) ?_
    rename_i o _
    cases o with
    | full => exact h2
    | tok t =>
      refine ⟨h2.1, fun y hy => ?_⟩
      have := h2.2 y hy
      cases y with
      | none => exact this
      | some g =>
        obtain ⟨cap, hv, hg⟩ := this
        exact ⟨cap, hv, (hk g (by rw [hg]; intro e; cases e)).trans hg⟩
  | ptr h1 => cases ho with | ptr h => exact h.elim
  | cptr a u h1 h2 => exact .cptr a u (fun j hj => hc _ _ (h1 j hj).1 (h1 j hj).2) fun j hj => (h2 j hj).mono hc
  | msl h1 => cases ho with | msl h => exact h.elim
  | fn hl _ ih => cases ho with | fn h => exact .fn hl fun i h1 h2 => ih i h1 h2 (h _ (List.getElem_mem h1))
  | agg hl _ hone ih => cases ho with | agg h => exact .agg hl (fun i h1 h2 => ih i h1 h2 (h _ (List.getElem_mem h1))) hone
  | tup hl _ ih => cases ho with | tup h => exact .tup hl fun i h1 h2 => ih i h1 h2 (h _ (List.getElem_mem h1))
  | ex h1 =>
    obtain ⟨r1, r0, r2⟩ := h1
    refine .ex ⟨r1, r0, fun y hy => ?_⟩
    obtain ⟨g, cap, cs, e, rfl, h2, h3, h4, h5, h6, h7, h8, h9, h10⟩ := r2 y hy
    exact ⟨g, cap, cs, e, rfl, h2, h3, h4, (hk g (by rw [h5]; intro e; cases e)).trans h5, h6, h7, h8, fun i g1 g2 => (h9 i g1 g2).mono hc, h10⟩

theorem Bo.lend {G : Gh} {m : AMem} {w : World} {p : Nat → Prop} [DecidablePred p] (hm : RelM G m w) (hp : ∀ b, p b ↔ ∃ k sz, G.bx k = some (b, sz)) {x y : AV} {v : Value} (hb : Bo m.box x y) (h : RV G w x v) : RV (G.lend p) w y v := by
  have hpb : ∀ b, p b → G.kind b = .box := fun b hb => by
    obtain ⟨k, sz, h⟩ := (hp b).1 hb
    exact (hm.blt h).2
  cases hb with
  | same ho => exact h.lend hpb ho
  | @msl k sz es hk =>
    letI : DecidablePred (fun _ : Nat => False) := fun _ => Classical.propDecidable _
    generalize hx : (AV.msl k 0 es.length sz) = x at h
    have h' := h
    cases h with
    | @msl k' off n b sz' cap h1 h2 h3 =>
      cases hx
      have hw : RV (G.weak (fun _ => False) (some b) G.nt) w (.d (.sl sz es)) (.slice (some ⟨b, 0 * sz, none⟩) es.length cap) := by
        refine RV.to (q := fun _ => True) (fz := some (k, sz, es)) hm (fun j hj => by cases hj; exact (hm.blt h1).2) ?_ ?_ h' (.frz rfl) (fun t _ ht => ht)
        · intro k2 sz2 es2 e
          cases e
          obtain ⟨_, cs, e', _, hs, _⟩ := hm.box k (rowsD es) b sz hk h1
          refine ⟨rowsD es, hk, by simp, hs, fun i g1 g2 => ?_⟩
          have : (rowsD es)[i] = (es[i]).map AV.d := by simp [rowsD]
          rw [this]
          exact toDs_map _
        · intro k2 sz2 es2 e j s hj
          cases e
          rw [h1] at hj
          cases hj
          rfl
      cases hw with
      | d hd =>
        refine .d (hd.mono fun a u h4 h5 => ⟨?_, h5⟩)
        unfold Gh.ps at h4 ⊢
        simp only [Gh.weak, Gh.lend] at h4 ⊢
        by_cases e : p a.block
        · simp [e]
        · simp only [e, ↓reduceIte]
          have hne : ¬ (some b = some a.block) := fun e2 => e ((hp _).2 ⟨k, sz, by cases e2; exact h1⟩)
          simp only [hne, ↓reduceIte] at h4
          exact h4
    | _ => cases hx

theorem BoL.lend {G : Gh} {m : AMem} {w : World} {p : Nat → Prop} [DecidablePred p] (hm : RelM G m w) (hp : ∀ b, p b ↔ ∃ k sz, G.bx k = some (b, sz)) : ∀ {xs ys : List AV} {vs : List Value}, BoL m.box xs ys → RVs G w xs vs → RVs (G.lend p) w ys vs
  | [], [], vs, _, h => ⟨by have := h.1; simpa using this, fun i h => by simp at h⟩
  | x :: a, y :: b, vs, hb, h => by
    obtain ⟨v, us, rfl, h1, h2⟩ := h.uncons
    exact RVs.cons (hb.1.lend hm hp h1) (BoL.lend hm hp hb.2 h2)
  | [], _ :: _, _, h, _ => h.elim
  | _ :: _, [], _, h, _ => h.elim

/-- A call on data, with boxes lent to it as data, whose outcome is a plain value. -/
theorem RCall.lent {f : FuncId} {args args' : List AV} {box : Nat → Option (List (List AV))} {tok : Nat → Bool} {nt : Nat} {u : Value} {tok' : Nat → Bool} {nt' : Nat} (hu : u.oneCell' = true)
    (h : DCall P f args' tok nt (.d (.raw u)) tok' nt') (hb : BoL box args args') : RCall P f args box tok nt (.d (.raw u)) tok' nt' := by
  classical
  intro box' nb hext
  have hb' := hb.ext hext
  obtain ⟨hen, hc⟩ := h (fun _ => none) nb
  refine ⟨hen, fun G w vals hm hr => ?_⟩
  let p : Nat → Prop := fun b => ∃ k sz, G.bx k = some (b, sz)
  have hp : ∀ b, p b ↔ ∃ k sz, G.bx k = some (b, sz) := fun b => Iff.rfl
  have hpb : ∀ b, p b → b < w.heap.size ∧ G.kind b = .box := fun b ⟨k, sz, hk⟩ => hm.blt hk
  have htk : ∀ t g, G.tk t = some (some g) → ¬ p g := fun t g ht hpg => by
    obtain ⟨f', cur, e, h1, _⟩ := hm.tokb t g ht
    rw [(hpb g hpg).2] at h1
    rcases h1 with h1 | h1 <;> cases h1
  have hm1 : RelM (G.lend p) ⟨fun _ => none, nb, tok, nt⟩ w := by
    constructor
    case box => intro k rows b sz h1; cases h1
    case nobox => intro k _; rfl
    case inj => intro k k' b sz sz' h1; cases h1
    case nb => intro k _; rfl
    case nt => exact hm.nt
    case toks => exact hm.toks
    case tokb =>
      intro t g ht
      obtain ⟨f', cur, e, h1, h2⟩ := hm.tokb t g ht
      refine ⟨f', cur, e, ?_, h2⟩
      simp only [Gh.lend]
      rw [if_neg (htk t g ht)]
      exact h1
    case tinj => exact hm.tinj
    case tnt => exact hm.tnt
    case fresh =>
      intro b hb1
      simp only [Gh.lend]
      split
      · rfl
      · exact hm.fresh b hb1
  refine Calls.mono (hc (G.lend p) w vals hm1 (hb'.lend hm hp hr)) ?_
  rintro e w' ⟨v, av, m', G1, rfl, ⟨rfl, rfl⟩, h3, h4, h5, h6, h7⟩
  have hv : v = u := by cases h5 with | d h => cases h; rfl
  subst hv
  have hkeep : ∀ b, p b → G1.kind b = .whole ∧ w'.heap[b]? = w.heap[b]? := fun b hb1 => h6.whole b (hpb b hb1).1 (by simp [Gh.lend, hb1])
  let G2 : Gh := { bx := G.bx, kind := fun b => if p b then .box else G1.kind b, tk := G1.tk, nt := G1.nt }
  have hle : Le G w G2 w' := by
    refine ⟨h6.os, h6.tape, h6.output, h6.size, fun b hb1 hk => ?_, fun b f' c hk => ?_, fun _ _ h => h, h6.nt, fun t ht => ?_⟩
    · have hn : ¬ p b := fun e => by rw [(hpb b e).2] at hk; cases hk
      obtain ⟨a1, a2⟩ := h6.whole b hb1 (by simp only [Gh.lend]; rw [if_neg hn]; exact hk)
      exact ⟨by simp only [G2]; rw [if_neg hn]; exact a1, a2⟩
    · have hn : ¬ p b := fun e => by rw [(hpb b e).2] at hk; cases hk
      obtain ⟨⟨f2, a1, a2⟩, a3⟩ := h6.part b f' c (by simp only [Gh.lend]; rw [if_neg hn]; exact hk)
      exact ⟨⟨f2, a1, by simp only [G2]; rw [if_neg hn]; exact a2⟩, a3⟩
    · rcases h6.tk t ht with a1 | ⟨a1, a2⟩
      · exact .inl a1
      · refine .inr ⟨a1, fun g hg => ?_⟩
        have hn := htk t g hg
        obtain ⟨b1, b2⟩ := a2 g hg
        simp only [Gh.lend] at b1 b2
        rw [if_neg hn] at b1 b2
        exact ⟨by simp only [G2]; rw [if_neg hn]; exact b1, b2⟩
  refine ⟨v, _, _, G2, rfl, ⟨rfl, rfl⟩, rfl, ?_, .d (.raw hu), hle, fun k hk => ⟨hk, rfl⟩⟩
  constructor
  case box =>
    intro k rows b sz hk hb1
    obtain ⟨g1, cs, e, g2, g3, g4, g5⟩ := hm.box k rows b sz hk hb1
    have hpk : p b := ⟨k, sz, hb1⟩
    exact ⟨by simp [G2, hpk], cs, e, (hkeep b hpk).2.trans g2, g3, g4.mono hle, g5⟩
  case nobox => exact hm.nobox
  case inj => exact hm.inj
  case nb => exact hm.nb
  case nt => exact h4.nt
  case toks => exact h4.toks
  case tokb =>
    intro t g ht
    obtain ⟨f', cur, e, g1, g2⟩ := h4.tokb t g ht
    refine ⟨f', cur, e, ?_, g2⟩
    have hn : ¬ p g := fun hpg => by
      rw [(hkeep g hpg).1] at g1
      rcases g1 with g1 | g1 <;> cases g1
    simp only [G2]
    rw [if_neg hn]
    exact g1
  case tinj => exact h4.tinj
  case tnt => exact h4.tnt
  case fresh =>
    intro b hb1
    have := h6.size
    have hn : ¬ p b := fun hpb1 => by have := (hpb b hpb1).1; omega
    simp only [G2]
    rw [if_neg hn]
    exact h4.fresh b hb1
end Go.AM
/-
  slices.Clone and slices.Contains over a box.
-/
namespace Go.AM
open Go Go.Proofs Go.RowKit
set_option linter.unusedSimpArgs false
set_option linter.unusedVariables false

/-- A slice of the call's own that holds numbers reads as data. -/
theorem rvd_owns {G : Gh} {w w' : World} {m : AMem} (hm : RelM G m w) {v : Value} {xs : List Int} (h : w'.ownsRow w.heap.size 3 1 v xs.length (xs.map (Value.int .i64))) : RVd w'.cell? G.ps (ints xs) v := by
  rcases h.2 with ⟨rfl, h0⟩ | ⟨g, cap, cur, rfl, hb, hg, h1, h2, h3, h4⟩
  · obtain rfl : xs = [] := List.length_eq_zero_iff.1 h0
    exact .sl (es := []) (fun _ _ => default) (Nat.le_refl _) (by decide) (by simp) (by simp) (by simp) (by simp)
  · have hl : xs.length = (xs.map fun n => [D.raw (.int .i64 n)]).length := by simp
    have hat : ∀ i, i < xs.length → cur[i]? = some (.int .i64 (xs.getD i 0)) := fun i hi => by
      have e : (cur.toList.take (xs.length * 1))[i]? = (xs.map (Value.int .i64))[i]? := by rw [h4]
      rw [List.getElem?_take, if_pos (by omega), Array.getElem?_toList, List.getElem?_map, List.getElem?_eq_getElem hi] at e
      rw [e]
      simp [hi]
    unfold ints
    conv => rhs; rw [hl]
    refine .sl (fun i _ => .int .i64 (xs.getD i 0)) (by simpa using h1) h2 (fun e he => ?_) (fun _ => ⟨_, rfl⟩) (fun a ha i j hi hj => ?_) (fun i j hi hj => ?_)
    · obtain ⟨y, _, rfl⟩ := List.mem_map.1 he
      rfl
    · cases ha
      have hi' : i < xs.length := by simpa using hi
      have hj0 : j = 0 := by omega
      subst hj0
      refine ⟨?_, ?_⟩
      · unfold Gh.ps
        have hbl : (Addr.add ⟨g, 0, none⟩ (i * 1 + 0)).block = g := by unfold Addr.add; split <;> rfl
        rw [hbl, hm.fresh g hb]
        trivial
      · have ha : Addr.add ⟨g, 0, none⟩ (i * 1 + 0) = ⟨g, i, none⟩ := by
          unfold Addr.add
          split
          · rename_i h0; congr 1; omega
          · simp
        rw [ha]
        simp only [World.cell?, hg, Option.isSome_none, Bool.false_eq_true, if_false]
        exact hat i hi'
    · simp only [List.length_map] at hi
      simp only [List.getElem_map, List.length_cons, List.length_nil] at hj ⊢
      have hj0 : j = 0 := by omega
      subst hj0
      have e : xs.getD i 0 = xs[i] := by simp [hi]
      simp only [List.getElem_cons_zero, e]
      exact .raw rfl

theorem rowsI_flat : ∀ xs : List Int, (rowsI xs).flatten = xs.map fun n => AV.d (.raw (.int .i64 n))
  | [] => rfl
  | x :: xs => by
    have : rowsI (x :: xs) = [AV.d (.raw (.int .i64 x))] :: rowsI xs := rfl
    rw [this, List.flatten_cons, rowsI_flat xs]
    rfl

theorem box_ints {G : Gh} {m : AMem} {w : World} (hm : RelM G m w) {k b sz : Nat} {xs : List Int} (hk : m.box k = some (rowsI xs)) (hb : G.bx k = some (b, sz)) (h1 : sz = 1) : ∀ j, j < xs.length → w.cell? ⟨b, 0 + j, none⟩ = some (.int .i64 (xs.getD j 0)) := by
  subst h1
  intro j hj
  obtain ⟨_, cs, e, hh, hs, hR, _⟩ := hm.box k _ b 1 hk hb
  rw [Nat.zero_add, cell_of_row w b _ cs e (0, 0) hh]
  rw [rowsI_flat] at hR
  obtain ⟨v, hv, hrv⟩ := hR.get (i := j) (x := AV.d (.raw (.int .i64 xs[j]))) (by simp [hj])
  have : v = .int .i64 xs[j] := by cases hrv with | d h => cases h; rfl
  subst this
  have hv' : cs[j]? = some (.int .i64 xs[j]) := by simpa using hv
  rw [hv']
  simp [hj]

theorem cloneM_c (xs : List Int) (hx : xs.length ≤ 1000000) (box : Nat → Option (List (List AV))) (k : Nat) (hk : box k = some (rowsI xs)) (tok : Nat → Bool) (nt : Nat) :
    RCall Tryz.prog 85 [.msl k 0 xs.length 1] box tok nt (.d (ints xs)) tok nt := by
  intro box' nb he
  have hk' := he _ _ hk
  refine ⟨Enters.mk Tryz.func85 rfl (by kernel_rfl), fun G w vals hm hr => ?_⟩
  obtain ⟨hlen, hrv⟩ := hr
  match vals, hlen with
  | [v], _ =>
    have h0 := hrv 0 (by simp) (by simp)
    simp only [List.getElem_cons_zero] at h0
    generalize hq : (AV.msl k 0 xs.length 1) = q at h0
    cases h0 with
    | @msl k1 off n b sz cap h1 h2 h3 =>
      cases hq
      have hc := box_ints hm hk' h1 rfl
      rw [Nat.zero_mul]
      by_cases e : xs = []
      · subst e
        refine (Tryz.slices_Clone_int_zero ⟨b, 0, none⟩ cap w).mono ?_
        rintro e w' ⟨v, rfl, hown, hnn, hb⟩
        exact ⟨v, _, _, G, rfl, ⟨rfl, rfl⟩, rfl, relM_below hm hb, .d (rvd_owns hm hown), le_below hm hb, fun k hk => ⟨hk, rfl⟩⟩
      · have := Tryz.slices_Clone_int b 0 xs.length cap xs w (Nat.le_refl _) (by omega) hc
        rw [List.take_length] at this
        refine this.mono ?_
        rintro e w' ⟨v, rfl, hown, hnn, hb⟩
        exact ⟨v, _, _, G, rfl, ⟨rfl, rfl⟩, rfl, relM_below hm hb, .d (rvd_owns hm hown), le_below hm hb, fun k hk => ⟨hk, rfl⟩⟩
    | _ => cases hq

theorem containsM_c (xs : List Int) (v : Int) (hx : xs.length ≤ 1000000) (box : Nat → Option (List (List AV))) (k : Nat) (hk : box k = some (rowsI xs)) (tok : Nat → Bool) (nt : Nat) :
    RCall Tryz.prog 73 [.msl k 0 xs.length 1, I v] box tok nt (B (decide (v ∈ xs))) tok nt := by
  refine RCall.lent rfl (contains_c xs v hx tok nt) ⟨?_, .same .d, trivial⟩
  have h : (rI xs).length = xs.length := by simp
  have h2 : box k = some (rowsD (rI xs)) := by rw [hk, rowsI_eq]
  have := Bo.msl (sz := 1) h2
  rw [h] at this
  exact this
end Go.AM
/-
  shift.images.
-/
namespace Go.AM
open Go Go.Proofs
set_option linter.unusedSimpArgs false
set_option linter.unusedVariables false

def imgK (n : Nat) (by' m : List Int) : Nat → List Int
  | 0 => List.replicate n (-1)
  | i + 1 => (imgK n by' m i).set (by'.getD i 0).toNat (m.getD i 0)
theorem imgK_len (n : Nat) (by' m : List Int) : ∀ i, (imgK n by' m i).length = n
  | 0 => by simp [imgK]
  | i + 1 => by simp [imgK, imgK_len n by' m i]

def stIm (n : Nat) (by' m : List Int) (nb : Nat) (box : Nat → Option (List (List AV))) (tok : Nat → Bool) (nt : Nat) (i : Nat) : AState :=
  ⟨tl [(13, .d (ints by')), (14, I by'.length), (15, I i), (7, .msl (nb + 7) 0 n 1), (2, .d (ints m))], lb nb box [(7, rowsI (imgK n by' m i))], tok, nt⟩

theorem rI_len (xs : List Int) : (rI xs).length = xs.length := by simp
theorem Trans.thawI {cx : Cx} {nt0 nt : Nat} {l l' : List (Nat × AV)} {out : Nat → Option (List (List AV))} {loc loc' : List (Nat × List (List AV))} {tok : Nat → Bool} (t s : Nat) (xs : List Int) (r : Nat)
    (hn : cx.nb = cx.base + cx.n) (hs : s < cx.n) (hk : lk loc s = none) (ht : tok t = true) (hr : tl l r = .ex t 1 (rI xs))
    (hl : ThL t (cx.base + s) 1 (rI xs) l l') (hb : ThB t (cx.base + s) 1 (rI xs) loc loc') :
    Trans cx nt0 ⟨tl l, lb cx.base out loc, tok, nt⟩ ⟨tl l', lb cx.base out ((s, rowsI xs) :: loc'), upd tok t false, nt⟩ := by
  rw [rowsI_eq]
  exact Trans.thaw t s 1 (rI xs) r hn hs hk ht hr hl hb
theorem Trans.sealI {cx : Cx} {nt0 nt : Nat} {l l' : List (Nat × AV)} {out : Nat → Option (List (List AV))} {loc loc' : List (Nat × List (List AV))} {tok : Nat → Bool} (s : Nat) (xs : List Int) (r : Nat)
    (ho : out = cx.B0) (hnt : nt0 ≤ nt) (hr : tl l r = .msl (cx.base + s) 0 xs.length 1) (hk' : lk loc' s = none)
    (hl : SeL nt (cx.base + s) 1 (rI xs) l l') (hb : SeB nt (cx.base + s) 1 (rI xs) loc loc') :
    Trans cx nt0 ⟨tl l, lb cx.base out ((s, rowsI xs) :: loc), tok, nt⟩ ⟨tl l', lb cx.base out loc', upd tok nt true, nt + 1⟩ := by
  rw [rowsI_eq]
  exact Trans.seal s 1 (rI xs) r ho hnt (by simp) (by rw [rI_len]; exact hr) hk' hl hb
theorem thTo_exI {t k n : Nat} {xs : List Int} (h : n = xs.length) : ThTo t k 1 (rI xs) (.ex t 1 (rI xs)) (.msl k 0 n 1) := by
  have : n = (rI xs).length := by rw [rI_len]; exact h
  rw [this]; exact .ex
theorem seTo_mslI {t k n : Nat} {xs : List Int} (h : n = xs.length) : SeTo t k 1 (rI xs) (.msl k 0 n 1) (.ex t 1 (rI xs)) := by
  have : n = (rI xs).length := by rw [rI_len]; exact h
  rw [this]; exact .msl

theorem images69_c (n : Nat) (by' m : List Int) (hn : n ≤ 1000000) (hb : by'.length ≤ 1000000) (hm : by'.length ≤ m.length) (hk : ∀ k ∈ by', 0 ≤ k ∧ k < n) (tok : Nat → Bool) (nt : Nat) :
    DCall Tryz.prog 50 [I n, .d (ints by'), .d (ints m)] tok nt (.ex (nt + 1) 1 (rI (imgK n by' m by'.length))) (upd tok (nt + 1) true) (nt + 2) := by
  intro box nb
  refine ACalls.of_body Tryz.func50 rfl (by kernel_rfl) follows_Tryz (by kernel_rfl) (by simp [Tryz.ntmps50]) ?_
  intro hbox htok
  simp only at hbox htok
  apply AL.start
  repeat (first | refine AL.seq ?_ | refine AL.block ?_ | refine AL.skip ?_ | refine AL.blk ?_)
  refine AL.region follows_Tryz (Nat.le_refl _) (by kernel_rfl) ?_
  simp
  repeat (first | refine AL.seq ?_ | refine AL.block ?_ | refine AL.skip ?_ | refine AL.blk ?_)
  refine AL.region follows_Tryz (Nat.le_refl _) (by kernel_rfl) ?_
  simp
  refine Stop.data ?_
  refine Stop.of_d (repeat85_c (-1) n hn _ _) ?_
  simp
  repeat (first | refine AL.seq ?_ | refine AL.block ?_ | refine AL.skip ?_ | refine AL.blk ?_)
  refine AL.region follows_Tryz (Nat.le_refl _) (by kernel_rfl) ?_
  simp
  repeat (first | refine AL.seq ?_ | refine AL.block ?_ | refine AL.skip ?_ | refine AL.blk ?_)
  refine AL.weak (Weaks.mk (l' := [(13, .d (ints by')), (14, I by'.length), (15, I 0), (7, .ex nt 1 (rI (List.replicate n (-1)))), (2, .d (ints m))]) (loc' := []) (Nat.le_succ _) rfl (by simp [ToL]) (by simp [BoxL])) ?_
  refine AL.trans (Trans.thawI (l' := [(13, .d (ints by')), (14, I by'.length), (15, I 0), (7, .msl (nb + 7) 0 n 1), (2, .d (ints m))]) (loc' := []) nt 7 (List.replicate n (-1)) 7 rfl (by show 7 < 29; decide) rfl (upd_same _ _ _) rfl
    ⟨rfl, .same, rfl, .same, rfl, .same, rfl, thTo_exI (by simp), rfl, .same, trivial⟩ trivial) ?_
  have htt : ∀ t, tok t = true → upd (upd tok nt true) nt false t = true := fun t ht => by
    have := htok t ht
    rw [upd_other _ _ (by omega), upd_other _ _ (by omega)]; exact ht
  generalize upd (upd tok nt true) nt false = tok1 at *
  refine AL.loopT (stIm n by' m nb box tok1 (nt + 1)) (fun i => i ≤ by'.length) (fun i => by'.length - i) 0 (Nat.zero_le _) (Weaks.mk (Nat.le_succ _) rfl (by simp [ToL, lk]) (by simp [BoxL, lk, imgK])) ?_
  rintro i S hi hS
  simp only [stIm] at hS
  subst hS
  have hw : IntKind.i64.wrap (↑i + 1) = ((i + 1 : Nat) : Int) := by rw [wrap_in (by omega) (by omega)]; rfl
  have hlen := imgK_len n by' m i
  repeat (first | refine AL.seq ?_ | refine AL.block ?_ | refine AL.skip ?_ | refine AL.blk ?_)
  refine AL.region follows_Tryz (Nat.le_refl _) (by kernel_rfl) ?_
  simp
  repeat (first | refine AL.seq ?_ | refine AL.block ?_ | refine AL.skip ?_ | refine AL.blk ?_)
  refine AL.cond ?_
  simp
  refine ⟨fun hlt => ?_, fun hge => ?_⟩
  · obtain ⟨k1, k2⟩ := hk _ (List.getElem_mem hlt)
    have k3 : by'[i].toNat < n := by omega
    have him : i < m.length := by omega
    repeat (first | refine AL.seq ?_ | refine AL.block ?_ | refine AL.skip ?_ | refine AL.blk ?_)
    refine AL.region follows_Tryz (Nat.le_refl _) (by kernel_rfl) ?_
    simp [hlt]
    repeat (first | refine AL.seq ?_ | refine AL.block ?_ | refine AL.skip ?_ | refine AL.blk ?_)
    refine AL.region follows_Tryz (Nat.le_refl _) (by kernel_rfl) ?_
    simp [him, k1, k2, k3, hlen]
    repeat (first | refine AL.seq ?_ | refine AL.block ?_ | refine AL.skip ?_ | refine AL.blk ?_)
    refine AL.region follows_Tryz (Nat.le_refl _) (by kernel_rfl) ?_
    simp [hw]
    repeat (first | refine AL.seq ?_ | refine AL.block ?_ | refine AL.skip ?_ | refine AL.blk ?_)
    refine AL.nil ?_
    exact ⟨i + 1, hlt, by omega, Weaks.mk (Nat.le_succ _) rfl (by simp [ToL, lk]) (by simp [BoxL, lk, imgK, hlt, him])⟩
  · repeat (first | refine AL.seq ?_ | refine AL.block ?_ | refine AL.skip ?_ | refine AL.blk ?_)
    refine AL.exit ?_
    simp only [AU, ↓reduceIte]
    have : i = by'.length := by omega
    subst this
    refine AL.weak (Weaks.mk (l' := [(7, .msl (nb + 7) 0 n 1)]) (loc' := [(7, rowsI (imgK n by' m by'.length))]) (Nat.le_succ _) rfl (by simp [ToL, lk]) (by simp [BoxL, lk])) ?_
    refine AL.trans (Trans.sealI (l' := [(7, .ex (nt + 1) 1 (rI (imgK n by' m by'.length)))]) (loc := []) (loc' := []) 7 (imgK n by' m by'.length) 7 rfl (Nat.le_succ _) (by rw [hlen]; rfl) rfl ⟨rfl, seTo_mslI hlen.symm, trivial⟩ trivial) ?_
    repeat (first | refine AL.seq ?_ | refine AL.block ?_ | refine AL.skip ?_ | refine AL.blk ?_)
    refine AL.region follows_Tryz (Nat.le_refl _) (by kernel_rfl) ?_
    simp
    repeat (first | refine AL.seq ?_ | refine AL.block ?_ | refine AL.skip ?_ | refine AL.blk ?_)
    refine AL.ret ?_
    try simp only [AU]
    refine ⟨by simp, Fin.gen (by simp [resAs, resA]; rfl) hbox (by omega) (Nat.le_refl _) (fun t ht => ⟨?_, .inl rfl⟩) (fun k rows _ h => .inl h) (by simp [packA])⟩
    by_cases e : t = nt + 1
    · subst e; exact upd_same _ _ _
    · rw [upd_other _ _ e] at ht ⊢; exact htt t ht
end Go.AM
/-
  shift.extender: node and edge.
-/
namespace Go.AM
open Go Go.Proofs
set_option linter.unusedSimpArgs false
set_option linter.unusedVariables false

/-- What the extender finds in an edge's place, and what it wants there. -/
def wantX (p : Gr) (N : List Int) (i : Nat) : E := ⟨(p.edges.getD i default).ty, N.getD (p.edges.getD i default).fr.toNat 0, N.getD (p.edges.getD i default).to.toNat 0⟩
def edgeB (p g : Gr) (acc : Mo → Bool) (N : List Int) : Nat → List Int → Bool
  | 0, Es => acc ⟨N, Es⟩
  | n + 1, Es => if 0 ≤ Es.getD (p.edges.length - (n + 1)) 0 then edgeB p g acc N n Es
    else (List.range g.edges.length).any fun k => decide (g.edges.getD k default = wantX p N (p.edges.length - (n + 1))) && !decide ((k : Int) ∈ Es) && edgeB p g acc N n (Es.set (p.edges.length - (n + 1)) k)

abbrev exRow (p g : Gr) (kn n ke m : Nat) (f : FuncId) (caps : List AV) : List AV := [.d (ints p.nodes), .d (AM.edges p.edges), .d (ints g.nodes), .d (AM.edges g.edges), .msl kn 0 n 1, .msl ke 0 m 1, .fn (.func f) caps]

theorem cloneN_c (xs : List Int) {n : Nat} (hn : n = xs.length) (hx : xs.length ≤ 1000000) {box : Nat → Option (List (List AV))} {k : Nat} (hk : box k = some (rowsI xs)) (tok : Nat → Bool) (nt : Nat) :
    RCall Tryz.prog 85 [.msl k 0 n 1] box tok nt (.d (ints xs)) tok nt := by subst hn; exact cloneM_c xs hx box k hk tok nt
theorem containsN_c (xs : List Int) (v : Int) {n : Nat} (hn : n = xs.length) (hx : xs.length ≤ 1000000) {box : Nat → Option (List (List AV))} {k : Nat} (hk : box k = some (rowsI xs)) (tok : Nat → Bool) (nt : Nat) :
    RCall Tryz.prog 73 [.msl k 0 n 1, I v] box tok nt (B (decide (v ∈ xs))) tok nt := by subst hn; exact containsM_c xs v hx box k hk tok nt

/-- The extender's boxes. -/
structure ExH (p g : Gr) (f : FuncId) (caps : List AV) (kx kn ke : Nat) (E0 : Nat → Option (List (List AV))) (N Es : List Int) (box : Nat → Option (List (List AV))) : Prop where
  ext : Ext E0 box
  x : box kx = some [exRow p g kn p.nodes.length ke p.edges.length f caps]
  n : box kn = some (rowsI N)
  e : box ke = some (rowsI Es)
  nl : N.length = p.nodes.length
  el : Es.length = p.edges.length

structure ExF (p g : Gr) (kx kn ke : Nat) (E0 : Nat → Option (List (List AV))) : Prop where
  fp : p.Fit
  fg : g.Fit
  pv : ∀ e ∈ p.edges, 0 ≤ e.fr ∧ e.fr < p.nodes.length ∧ 0 ≤ e.to ∧ e.to < p.nodes.length
  ne : kn ≠ ke
  nx : kn ≠ kx
  ex : ke ≠ kx
  e0 : E0 ke = none
  n0 : E0 kn = none

theorem ExH.setE {p g : Gr} {f : FuncId} {caps : List AV} {kx kn ke : Nat} {E0 : Nat → Option (List (List AV))} {N Es E' : List Int} {box : Nat → Option (List (List AV))} (hf : ExF p g kx kn ke E0) (h : ExH p g f caps kx kn ke E0 N Es box) (hl : E'.length = Es.length) :
    ExH p g f caps kx kn ke E0 N E' (upd box ke (some (rowsI E'))) := by
  refine ⟨fun k r hk => ?_, ?_, ?_, upd_same _ _ _, h.nl, hl.trans h.el⟩
  · rw [upd_other _ _ (fun e => by rw [e, hf.e0] at hk; cases hk)]; exact h.ext k r hk
  · rw [upd_other _ _ (Ne.symm hf.ex)]; exact h.x
  · rw [upd_other _ _ hf.ne]; exact h.n

def QEd (b : Bool) (Es : List Int) (ke : Nat) (box : Nat → Option (List (List AV))) (nb : Nat) (tok : Nat → Bool) (nt : Nat) (v : AV) (m : AMem) : Prop :=
  v = B b ∧ ∃ E' : List Int, E'.length = Es.length ∧ (b = false → E' = Es) ∧ m = ⟨upd box ke (some (rowsI E')), nb, tok, nt⟩

theorem outI {box : Nat → Option (List (List AV))} {ke base : Nat} {E' : List Int} {p q : Nat → Prop} : ∀ k rows, k < base → (upd box ke (some (rowsI E'))) k = some rows → box k = some rows ∨ ∀ r ∈ rows, ∀ x ∈ r, OkIn p q x := by
  intro k rows _ hr
  by_cases e : k = ke
  · subst e
    rw [upd_same] at hr
    cases hr
    refine .inr fun r hr x hx => ?_
    obtain ⟨n, _, rfl⟩ := List.mem_map.1 hr
    rw [List.mem_singleton] at hx
    subst hx
    exact .d
  · rw [upd_other _ _ e] at hr
    exact .inl hr

theorem ExH.lb {p g : Gr} {f : FuncId} {caps : List AV} {kx kn ke nb : Nat} {E0 : Nat → Option (List (List AV))} {N Es : List Int} {box : Nat → Option (List (List AV))} (h : ExH p g f caps kx kn ke E0 N Es box) (hb : lb nb box [] = box) (loc : List (Nat × List (List AV))) :
    ExH p g f caps kx kn ke E0 N Es (AM.lb nb box loc) :=
  ⟨Ext.lb h.ext hb loc, by rw [lb_out (key_lt hb h.x)]; exact h.x, by rw [lb_out (key_lt hb h.n)]; exact h.n, by rw [lb_out (key_lt hb h.e)]; exact h.e, h.nl, h.el⟩

def candE (p g : Gr) (acc : Mo → Bool) (N : List Int) (r i : Nat) (Es : List Int) (k : Nat) : Bool :=
  decide (g.edges.getD k default = wantX p N i) && !decide ((k : Int) ∈ Es) && edgeB p g acc N r (Es.set i k)
theorem edgeB_no {p g : Gr} {acc : Mo → Bool} {N : List Int} {r i : Nat} {Es : List Int} (hi : p.edges.length - (r + 1) = i) (h0 : ¬ 0 ≤ Es.getD i 0) (h : ∀ j, j < g.edges.length → candE p g acc N r i Es j = false) : edgeB p g acc N (r + 1) Es = false := by
  rw [edgeB, hi, if_neg h0, List.any_eq_false]
  intro j hj
  have := h j (by simpa using hj)
  unfold candE at this
  rw [this]; simp
theorem edgeB_yes {p g : Gr} {acc : Mo → Bool} {N : List Int} {r i : Nat} {Es : List Int} (hi : p.edges.length - (r + 1) = i) (h0 : ¬ 0 ≤ Es.getD i 0) {j : Nat} (hj : j < g.edges.length) (h : candE p g acc N r i Es j = true) : edgeB p g acc N (r + 1) Es = true := by
  rw [edgeB, hi, if_neg h0, List.any_eq_true]
  exact ⟨j, by simpa using hj, h⟩

def NonN (l : List Int) (i : Nat) : Prop := ∀ j, j < i → 0 ≤ l.getD j 0
theorem NonN.succ {l : List Int} {i : Nat} (h : NonN l i) (hi : i < l.length) (h0 : 0 ≤ l[i]) : NonN l (i + 1) := fun j hj => by
  by_cases e : j = i
  · subst e; simpa [hi] using h0
  · exact h j (by omega)
theorem NonN.set {l : List Int} {i : Nat} (h : NonN l i) (hi : i < l.length) (k : Nat) : NonN (l.set i k) (i + 1) := fun j hj => by
  by_cases e : j = i
  · subst e; simp [hi]
  · have := h j (by omega)
    simpa [List.getD, List.getElem?_set, Ne.symm e] using this
theorem NonN.all {l : List Int} {i : Nat} (h : NonN l i) (hi : i = l.length) : ∀ x ∈ l, 0 ≤ x := fun x hx => by
  obtain ⟨j, hj, rfl⟩ := List.getElem_of_mem hx
  have := h j (by omega)
  simpa [hj] using this

def stEd (g : Gr) (W : E) (kx i : Nat) (nb : Nat) (box : Nat → Option (List (List AV))) (tok : Nat → Bool) (nt : Nat) (k : Nat) : AState :=
  ⟨tl [(76, .d (AM.edges g.edges)), (77, I g.edges.length), (78, I k), (6, .ptr (nb + 6) 0 0), (0, .ptr kx 0 0), (1, I i)], lb nb box [(6, [[I W.ty, I W.fr, I W.to]])], tok, nt⟩

theorem edge86_c (p g : Gr) (acc : Mo → Bool) (N : List Int) (f : FuncId) (caps : List AV) (kx kn ke : Nat) (E0 : Nat → Option (List (List AV))) (hf : ExF p g kx kn ke E0)
    (hcap : ∀ c ∈ caps, OkIn (fun k => E0 k ≠ none) (fun _ => True) c)
    (hacc : ∀ (q : Mo) box nb tok nt, Ext E0 box → q.nodes.length = p.nodes.length → q.edges.length = p.edges.length → (∀ x ∈ q.nodes, 0 ≤ x) → (∀ x ∈ q.edges, 0 ≤ x) → ACalls Tryz.prog f (q.av :: caps) ⟨box, nb, tok, nt⟩ fun v m => v = B (acc q) ∧ m = ⟨box, nb, tok, nt⟩) (hN : ∀ x ∈ N, 0 ≤ x) :
    ∀ (r i : Nat), i + r = p.edges.length → ∀ (Es : List Int) (box : Nat → Option (List (List AV))) (nb : Nat) (tok : Nat → Bool) (nt : Nat), ExH p g f caps kx kn ke E0 N Es box → (∀ x ∈ Es, x < 0 → x = -1) → NonN Es i →
      ACalls Tryz.prog 72 [.ptr kx 0 0, I i] ⟨box, nb, tok, nt⟩ (QEd (edgeB p g acc N r Es) Es ke box nb tok nt)
  | 0, i, hir, Es, box, nb, tok, nt, h, hm, hnn => by
    refine ACalls.of_body Tryz.func72 rfl (by kernel_rfl) follows_Tryz (by kernel_rfl) (by simp [Tryz.ntmps72]) ?_
    intro hbox htok
    simp only at hbox htok
    apply AL.start
    have kxn := key_lt hbox h.x
    have knn := key_lt hbox h.n
    have ken := key_lt hbox h.e
    have hx := h.x
    have hn := h.n
    have he := h.e
    have hb1 : ((i : Int) == p.edges.length) = true := by rw [show i = p.edges.length by omega]; simp
    have hN1 := hf.fp.n
    have hE1 := hf.fp.e
    repeat (first | refine AL.seq ?_ | refine AL.block ?_ | refine AL.skip ?_ | refine AL.blk ?_)
    refine AL.region follows_Tryz (Nat.le_refl _) (by kernel_rfl) ?_
    simp
    repeat (first | refine AL.seq ?_ | refine AL.block ?_ | refine AL.skip ?_ | refine AL.blk ?_)
    refine AL.region follows_Tryz (Nat.le_refl _) (by kernel_rfl) ?_
    simp [lb_out kxn, hx, hb1]
    repeat (first | refine AL.seq ?_ | refine AL.block ?_ | refine AL.skip ?_ | refine AL.blk ?_)
    refine AL.cond ?_
    simp
    repeat (first | refine AL.seq ?_ | refine AL.block ?_ | refine AL.skip ?_ | refine AL.blk ?_)
    refine AL.region follows_Tryz (Nat.le_refl _) (by kernel_rfl) ?_
    simp [lb_out kxn, hx]
    refine Stop.of_r (cloneN_c N h.nl.symm (by rw [h.nl]; exact hN1) (by simp only; rw [lb_out knn]; exact hn) _ _) ?_
    simp [lb_out kxn, hx]
    refine Stop.of_r (cloneN_c Es h.el.symm (by rw [h.el]; exact hE1) (by simp only; rw [lb_out ken]; exact he) _ _) ?_
    simp [lb_out kxn, hx]
    refine Stop.of_r (v := B (acc ⟨N, Es⟩)) (fun box' nb' hb' => hacc ⟨N, Es⟩ box' nb' _ _ (h.ext.trans (by rw [hbox] at hb'; exact hb')) h.nl h.el hN (hnn.all (by rw [h.el]; omega))) ?_
    simp [lb_out kxn, hx]
    repeat (first | refine AL.seq ?_ | refine AL.block ?_ | refine AL.skip ?_ | refine AL.blk ?_)
    refine AL.ret ?_
    try simp only [AU]
    refine ⟨by simp, (Fin.data (av := B (acc ⟨N, Es⟩)) (by simp [resAs, resA]; rfl) hbox rfl htok (fun _ h => h) (Nat.le_refl _) (by simp [packA])).mono fun v m hq => ⟨hq.1, Es, rfl, fun _ => rfl, ?_⟩⟩
    rw [hq.2, upd_self _ _ _ he]
  | r + 1, i, hir, Es, box, nb, tok, nt, h, hm, hnn => by
    have ih := edge86_c p g acc N f caps kx kn ke E0 hf hcap hacc hN r (i + 1) (by omega)
    refine ACalls.of_body Tryz.func72 rfl (by kernel_rfl) follows_Tryz (by kernel_rfl) (by simp [Tryz.ntmps72]) ?_
    intro hbox htok
    simp only at hbox htok
    apply AL.start
    have kxn := key_lt hbox h.x
    have knn := key_lt hbox h.n
    have ken := key_lt hbox h.e
    have hx := h.x
    have hn := h.n
    have he := h.e
    have hL : ExH p g f caps kx kn ke E0 N Es (lb nb box []) := by rw [hbox]; exact h
    have hb1 : ((i : Int) == p.edges.length) = false := by simp; omega
    have hip : i < p.edges.length := by omega
    have hiE : i < Es.length := by rw [h.el]; exact hip
    have hw : IntKind.i64.wrap (↑i + 1) = ((i + 1 : Nat) : Int) := by have := hf.fp.e; rw [wrap_in (by omega) (by omega)]; rfl
    have hN1 := hf.fp.n
    have hE1 := hf.fp.e
    have hsub : p.edges.length - (r + 1) = i := by omega
    repeat (first | refine AL.seq ?_ | refine AL.block ?_ | refine AL.skip ?_ | refine AL.blk ?_)
    refine AL.region follows_Tryz (Nat.le_refl _) (by kernel_rfl) ?_
    simp
    repeat (first | refine AL.seq ?_ | refine AL.block ?_ | refine AL.skip ?_ | refine AL.blk ?_)
    refine AL.region follows_Tryz (Nat.le_refl _) (by kernel_rfl) ?_
    simp [lb_out kxn, hx, hb1]
    repeat (first | refine AL.seq ?_ | refine AL.block ?_ | refine AL.skip ?_ | refine AL.blk ?_)
    refine AL.cond ?_
    simp
    repeat (first | refine AL.seq ?_ | refine AL.block ?_ | refine AL.skip ?_ | refine AL.blk ?_)
    refine AL.region follows_Tryz (Nat.le_refl _) (by kernel_rfl) ?_
    simp [lb_out kxn, hx, lb_out ken, he, hiE, hip]
    by_cases h0 : 0 ≤ Es[i]
    · simp [h0]
      repeat (first | refine AL.seq ?_ | refine AL.block ?_ | refine AL.skip ?_ | refine AL.blk ?_)
      refine AL.cond ?_
      simp
      repeat (first | refine AL.seq ?_ | refine AL.block ?_ | refine AL.skip ?_ | refine AL.blk ?_)
      refine AL.region follows_Tryz (Nat.le_refl _) (by kernel_rfl) ?_
      simp [hw]
      refine Stop.of_a (ih Es _ _ _ _ hL hm (hnn.succ hiE h0)) ?_
      rintro v m ⟨rfl, E', hl, hE', rfl⟩
      simp [upd_lb_out ken]
      repeat (first | refine AL.seq ?_ | refine AL.block ?_ | refine AL.skip ?_ | refine AL.blk ?_)
      refine AL.ret ?_
      try simp only [AU]
      have hR : edgeB p g acc N (r + 1) Es = edgeB p g acc N r Es := by
        rw [edgeB, hsub, if_pos (by simpa [hiE] using h0)]
      refine ⟨by simp, (Fin.gen (av := B (edgeB p g acc N r Es)) (tok' := tok) (nt' := nt) (by simp [resAs, resA]; rfl) (by rw [← upd_lb_out ken, hbox]) (Nat.le_refl _) (Nat.le_refl _) (fun t ht => ⟨ht, .inl rfl⟩) outI (by simp [packA])).mono fun v m hq => ⟨by rw [hR]; exact hq.1, E', hl, by rw [hR]; exact hE', hq.2⟩⟩
    · simp [h0]
      repeat (first | refine AL.seq ?_ | refine AL.block ?_ | refine AL.skip ?_ | refine AL.blk ?_)
      refine AL.cond ?_
      simp
      obtain ⟨x1, x2, x3, x4⟩ := hf.pv _ (List.getElem_mem hip)
      have y1 : p.edges[i].fr.toNat < N.length := by rw [h.nl]; omega
      have y2 : p.edges[i].to.toNat < N.length := by rw [h.nl]; omega
      have z2 : p.edges[i].fr < (p.nodes.length : Int) := x2
      have z4 : p.edges[i].to < (p.nodes.length : Int) := x4
      repeat (first | refine AL.seq ?_ | refine AL.block ?_ | refine AL.skip ?_ | refine AL.blk ?_)
      refine AL.region follows_Tryz (Nat.le_refl _) (by kernel_rfl) ?_
      simp [lb_out kxn, hx, hip]
      repeat (first | refine AL.seq ?_ | refine AL.block ?_ | refine AL.skip ?_ | refine AL.blk ?_)
      refine AL.region follows_Tryz (Nat.le_refl _) (by kernel_rfl) ?_
      simp [lb_out kxn, hx, hip, lb_out knn, hn, x1, x2, x3, x4, y1, y2]
      repeat (first | refine AL.seq ?_ | refine AL.block ?_ | refine AL.skip ?_ | refine AL.blk ?_)
      refine AL.region follows_Tryz (Nat.le_refl _) (by kernel_rfl) ?_
      simp [lb_out kxn, hx]
      repeat (first | refine AL.seq ?_ | refine AL.block ?_ | refine AL.skip ?_ | refine AL.blk ?_)
      have hW1 : (wantX p N i).ty = p.edges[i].ty := by simp [wantX, hip]
      have hW2 : (wantX p N i).fr = N[p.edges[i].fr.toNat] := by simp [wantX, hip, y1]
      have hW3 : (wantX p N i).to = N[p.edges[i].to.toNat] := by simp [wantX, hip, y2]
      have hno := edgeB_no (g := g) (acc := acc) (N := N) (Es := Es) hsub (by simpa [hiE] using h0)
      have hyes := fun j hj => edgeB_yes (g := g) (acc := acc) (N := N) (Es := Es) (j := j) hsub (by simpa [hiE] using h0) hj
      have hmi : Es[i] = -1 := hm _ (List.getElem_mem hiE) (by omega)
      refine AL.loopT (stEd g (wantX p N i) kx i nb box tok nt) (fun k => k ≤ g.edges.length ∧ ∀ j, j < k → candE p g acc N r i Es j = false) (fun k => g.edges.length - k) 0 ⟨Nat.zero_le _, fun j hj => absurd hj (Nat.not_lt_zero _)⟩ (Weaks.mk (Nat.le_refl _) rfl (by simp [ToL, lk]; exact to_ptr (by rw [lb_out kxn, hx]; simp)) (by simp [BoxL, lk, hW1, hW2, hW3])) ?_
      rintro k S ⟨hk, hall⟩ hS
      simp only [stEd] at hS
      subst hS
      obtain ⟨W, hWd⟩ : ∃ W, wantX p N i = W := ⟨_, rfl⟩
      rw [hWd] at hW1 hW2 hW3
      rw [hWd]
      have hge := hf.fg.e
      have hwk : IntKind.i64.wrap (↑k + 1) = ((k + 1 : Nat) : Int) := by rw [wrap_in (by omega) (by omega)]; rfl
      repeat (first | refine AL.seq ?_ | refine AL.block ?_ | refine AL.skip ?_ | refine AL.blk ?_)
      refine AL.region follows_Tryz (Nat.le_refl _) (by kernel_rfl) ?_
      simp
      repeat (first | refine AL.seq ?_ | refine AL.block ?_ | refine AL.skip ?_ | refine AL.blk ?_)
      refine AL.cond ?_
      simp
      refine ⟨fun hlt => ?_, fun hgek => ?_⟩
      · have hg1 : g.edges.getD k default = g.edges[k] := by simp [hlt]
        have hcand : candE p g acc N r i Es k = (decide (g.edges[k] = W) && !decide ((k : Int) ∈ Es) && edgeB p g acc N r (Es.set i k)) := by
          unfold candE; rw [hg1, hWd]
        repeat (first | refine AL.seq ?_ | refine AL.block ?_ | refine AL.skip ?_ | refine AL.blk ?_)
        refine AL.region follows_Tryz (Nat.le_refl _) (by kernel_rfl) ?_
        simp [hlt]
        generalize g.edges[k] = z at *
        repeat (first | refine AL.seq ?_ | refine AL.block ?_ | refine AL.skip ?_ | refine AL.blk ?_)
        refine AL.region follows_Tryz (Nat.le_refl _) (by kernel_rfl) ?_
        simp [E.eq_and]
        by_cases hz : z = W
        · simp [hz, lb_out kxn, hx]
          refine Stop.of_r (containsN_c Es k h.el.symm (by rw [h.el]; exact hE1) (by simp only; rw [lb_out ken]; exact he) _ _) ?_
          by_cases hk' : (k : Int) ∈ Es
          · simp [hk']
            repeat (first | refine AL.seq ?_ | refine AL.block ?_ | refine AL.skip ?_ | refine AL.blk ?_)
            refine AL.cond ?_
            simp
            repeat (first | refine AL.seq ?_ | refine AL.block ?_ | refine AL.skip ?_ | refine AL.blk ?_)
            refine AL.exit ?_
            simp only [AU, ↓reduceIte]
            repeat (first | refine AL.seq ?_ | refine AL.block ?_ | refine AL.skip ?_ | refine AL.blk ?_)
            refine AL.region follows_Tryz (Nat.le_refl _) (by kernel_rfl) ?_
            simp [hwk]
            repeat (first | refine AL.seq ?_ | refine AL.block ?_ | refine AL.skip ?_ | refine AL.blk ?_)
            refine AL.nil ?_
            refine ⟨k + 1, ⟨hlt, fun j hj => ?_⟩, by omega, Weaks.mk (Nat.le_refl _) rfl (by simp [ToL, lk]; exact to_ptr (by rw [lb_out kxn, hx]; simp)) (by simp [BoxL, lk])⟩
            by_cases e : j = k
            · subst e; rw [hcand]; simp [hk']
            · exact hall j (by omega)
          · simp [hk']
            repeat (first | refine AL.seq ?_ | refine AL.block ?_ | refine AL.skip ?_ | refine AL.blk ?_)
            refine AL.cond ?_
            simp
            have hle : (Es.set i k).length = Es.length := by simp
            have hH2 := h.setE hf hle
            have hbox2 : AM.lb nb (upd box ke (some (rowsI (Es.set i k)))) [] = upd box ke (some (rowsI (Es.set i k))) := by rw [← upd_lb_out ken, hbox]
            have hm2 : ∀ x ∈ Es.set i (k : Int), x < 0 → x = -1 := fun x hx hneg => by
              rcases List.mem_or_eq_of_mem_set hx with h1 | h1
              · exact hm x h1 hneg
              · omega
            repeat (first | refine AL.seq ?_ | refine AL.block ?_ | refine AL.skip ?_ | refine AL.blk ?_)
            refine AL.region follows_Tryz (Nat.le_refl _) (by kernel_rfl) ?_
            simp [lb_out kxn, hx, hip, hiE, lb_out ken, he, upd_lb_out ken]
            repeat (first | refine AL.seq ?_ | refine AL.block ?_ | refine AL.skip ?_ | refine AL.blk ?_)
            refine AL.region follows_Tryz (Nat.le_refl _) (by kernel_rfl) ?_
            simp [hw]
            refine Stop.of_a (ih (Es.set i k) _ _ _ _ (hH2.lb hbox2 _) hm2 (hnn.set hiE k)) ?_
            rintro v m ⟨rfl, E', hl, hE', rfl⟩
            simp [upd_lb_out ken, upd_upd]
            have hl' : E'.length = Es.length := by rw [hl]; simp
            have hx2 : (upd box ke (some (rowsI E'))) kx = box kx := upd_other _ _ (Ne.symm hf.ex)
            by_cases hr : edgeB p g acc N r (Es.set i k) = true
            · have hR := hyes k hlt (by rw [hcand, hr]; simp [hz, hk'])
              simp [hr]
              repeat (first | refine AL.seq ?_ | refine AL.block ?_ | refine AL.skip ?_ | refine AL.blk ?_)
              refine AL.cond ?_
              simp
              repeat (first | refine AL.seq ?_ | refine AL.block ?_ | refine AL.skip ?_ | refine AL.blk ?_)
              refine AL.region follows_Tryz (Nat.le_refl _) (by kernel_rfl) ?_
              simp
              repeat (first | refine AL.seq ?_ | refine AL.block ?_ | refine AL.skip ?_ | refine AL.blk ?_)
              refine AL.ret ?_
              try simp only [AU]
              refine ⟨by simp, (Fin.gen (av := B true) (tok' := tok) (nt' := nt) (by simp [resAs, resA]; rfl) (by rw [← upd_lb_out ken, hbox]) (Nat.le_refl _) (Nat.le_refl _) (fun t ht => ⟨ht, .inl rfl⟩) outI (by simp [packA])).mono fun v m hq => ⟨by rw [hR]; exact hq.1, E', hl', by rw [hR]; simp, hq.2⟩⟩
            · have hr' : edgeB p g acc N r (Es.set i k) = false := by simpa using hr
              have hEE := hE' hr'
              have hback : (E'.set i (-1)) = Es := by
                rw [hEE, List.set_set, ← hmi, List.set_getElem_self]
              have hiE' : i < E'.length := by rw [hl']; exact hiE
              simp [hr']
              repeat (first | refine AL.seq ?_ | refine AL.block ?_ | refine AL.skip ?_ | refine AL.blk ?_)
              refine AL.cond ?_
              simp
              repeat (first | refine AL.seq ?_ | refine AL.block ?_ | refine AL.skip ?_ | refine AL.blk ?_)
              refine AL.region follows_Tryz (Nat.le_refl _) (by kernel_rfl) ?_
              simp [lb_out kxn, hx2, hx, hip, hiE', lb_out ken, upd_same, upd_lb_out ken, upd_upd, hback, upd_self _ _ _ he]
              repeat (first | refine AL.seq ?_ | refine AL.block ?_ | refine AL.skip ?_ | refine AL.blk ?_)
              refine AL.region follows_Tryz (Nat.le_refl _) (by kernel_rfl) ?_
              simp [hwk]
              repeat (first | refine AL.seq ?_ | refine AL.block ?_ | refine AL.skip ?_ | refine AL.blk ?_)
              refine AL.nil ?_
              refine ⟨k + 1, ⟨hlt, fun j hj => ?_⟩, by omega, Weaks.mk (Nat.le_refl _) rfl (by simp [ToL, lk]; exact to_ptr (by rw [lb_out kxn, hx]; simp)) (by simp [BoxL, lk])⟩
              by_cases e : j = k
              · subst e; rw [hcand, hr']; simp
              · exact hall j (by omega)
        · simp [hz]
          repeat (first | refine AL.seq ?_ | refine AL.block ?_ | refine AL.skip ?_ | refine AL.blk ?_)
          refine AL.cond ?_
          simp
          repeat (first | refine AL.seq ?_ | refine AL.block ?_ | refine AL.skip ?_ | refine AL.blk ?_)
          refine AL.exit ?_
          simp only [AU, ↓reduceIte]
          repeat (first | refine AL.seq ?_ | refine AL.block ?_ | refine AL.skip ?_ | refine AL.blk ?_)
          refine AL.region follows_Tryz (Nat.le_refl _) (by kernel_rfl) ?_
          simp [hwk]
          repeat (first | refine AL.seq ?_ | refine AL.block ?_ | refine AL.skip ?_ | refine AL.blk ?_)
          refine AL.nil ?_
          refine ⟨k + 1, ⟨hlt, fun j hj => ?_⟩, by omega, Weaks.mk (Nat.le_refl _) rfl (by simp [ToL, lk]; exact to_ptr (by rw [lb_out kxn, hx]; simp)) (by simp [BoxL, lk])⟩
          by_cases e : j = k
          · subst e; rw [hcand]; simp [hz]
          · exact hall j (by omega)
      · repeat (first | refine AL.seq ?_ | refine AL.block ?_ | refine AL.skip ?_ | refine AL.blk ?_)
        refine AL.exit ?_
        simp only [AU, ↓reduceIte]
        have hR := hno fun j hj => hall j (by omega)
        repeat (first | refine AL.seq ?_ | refine AL.block ?_ | refine AL.skip ?_ | refine AL.blk ?_)
        refine AL.region follows_Tryz (Nat.le_refl _) (by kernel_rfl) ?_
        simp
        repeat (first | refine AL.seq ?_ | refine AL.block ?_ | refine AL.skip ?_ | refine AL.blk ?_)
        refine AL.ret ?_
        try simp only [AU]
        refine ⟨by simp, (Fin.data (av := B false) (by simp [resAs, resA]; rfl) hbox rfl htok (fun _ h => h) (Nat.le_refl _) (by simp [packA])).mono fun v m hq => ⟨by rw [hR]; exact hq.1, Es, rfl, fun _ => rfl, ?_⟩⟩
        rw [hq.2, upd_self _ _ _ he]
end Go.AM
/-
  shift.extender: node.
-/
namespace Go.AM
open Go Go.Proofs
set_option linter.unusedSimpArgs false
set_option linter.unusedVariables false

def nodeB (p g : Gr) (acc : Mo → Bool) (Es : List Int) : Nat → List Int → Bool
  | 0, N => edgeB p g acc N p.edges.length Es
  | n + 1, N => if 0 ≤ N.getD (p.nodes.length - (n + 1)) 0 then nodeB p g acc Es n N
    else (List.range g.nodes.length).any fun k => decide (g.nodes.getD k 0 = p.nodes.getD (p.nodes.length - (n + 1)) 0) && !decide ((k : Int) ∈ N) && nodeB p g acc Es n (N.set (p.nodes.length - (n + 1)) k)

def QNd (b : Bool) (N Es : List Int) (kn ke : Nat) (box : Nat → Option (List (List AV))) (nb : Nat) (tok : Nat → Bool) (nt : Nat) (v : AV) (m : AMem) : Prop :=
  v = B b ∧ ∃ N' E' : List Int, N'.length = N.length ∧ E'.length = Es.length ∧ (b = false → N' = N ∧ E' = Es) ∧ m = ⟨upd (upd box kn (some (rowsI N'))) ke (some (rowsI E')), nb, tok, nt⟩

theorem outI2 {box : Nat → Option (List (List AV))} {kn ke base : Nat} {N' E' : List Int} {p q : Nat → Prop} : ∀ k rows, k < base → (upd (upd box kn (some (rowsI N'))) ke (some (rowsI E'))) k = some rows → box k = some rows ∨ ∀ r ∈ rows, ∀ x ∈ r, OkIn p q x := by
  intro k rows hk hr
  rcases outI (p := p) (q := q) (base := base) k rows hk hr with h | h
  · exact outI k rows hk h
  · exact .inr h

theorem ExH.setN {p g : Gr} {f : FuncId} {caps : List AV} {kx kn ke : Nat} {E0 : Nat → Option (List (List AV))} {N N' Es : List Int} {box : Nat → Option (List (List AV))} (hf : ExF p g kx kn ke E0) (h : ExH p g f caps kx kn ke E0 N Es box) (hl : N'.length = N.length) :
    ExH p g f caps kx kn ke E0 N' Es (upd box kn (some (rowsI N'))) := by
  refine ⟨fun k r hk => ?_, ?_, upd_same _ _ _, ?_, hl.trans h.nl, h.el⟩
  · rw [upd_other _ _ (fun e => by rw [e, hf.n0] at hk; cases hk)]; exact h.ext k r hk
  · rw [upd_other _ _ (Ne.symm hf.nx)]; exact h.x
  · rw [upd_other _ _ (Ne.symm hf.ne)]; exact h.e

def candN (p g : Gr) (acc : Mo → Bool) (Es : List Int) (r i : Nat) (N : List Int) (k : Nat) : Bool :=
  decide (g.nodes.getD k 0 = p.nodes.getD i 0) && !decide ((k : Int) ∈ N) && nodeB p g acc Es r (N.set i k)
theorem nodeB_no {p g : Gr} {acc : Mo → Bool} {Es : List Int} {r i : Nat} {N : List Int} (hi : p.nodes.length - (r + 1) = i) (h0 : ¬ 0 ≤ N.getD i 0) (h : ∀ j, j < g.nodes.length → candN p g acc Es r i N j = false) : nodeB p g acc Es (r + 1) N = false := by
  rw [nodeB, hi, if_neg h0, List.any_eq_false]
  intro j hj
  have := h j (by simpa using hj)
  unfold candN at this
  rw [this]; simp
theorem nodeB_yes {p g : Gr} {acc : Mo → Bool} {Es : List Int} {r i : Nat} {N : List Int} (hi : p.nodes.length - (r + 1) = i) (h0 : ¬ 0 ≤ N.getD i 0) {j : Nat} (hj : j < g.nodes.length) (h : candN p g acc Es r i N j = true) : nodeB p g acc Es (r + 1) N = true := by
  rw [nodeB, hi, if_neg h0, List.any_eq_true]
  exact ⟨j, by simpa using hj, h⟩

def stNd (g : Gr) (kx i : Nat) (nb : Nat) (box : Nat → Option (List (List AV))) (tok : Nat → Bool) (nt : Nat) (k : Nat) : AState :=
  ⟨tl [(33, .d (ints g.nodes)), (34, I g.nodes.length), (35, I k), (0, .ptr kx 0 0), (1, I i)], lb nb box [], tok, nt⟩

theorem node71_c (p g : Gr) (acc : Mo → Bool) (f : FuncId) (caps : List AV) (kx kn ke : Nat) (E0 : Nat → Option (List (List AV))) (hf : ExF p g kx kn ke E0)
    (hcap : ∀ c ∈ caps, OkIn (fun k => E0 k ≠ none) (fun _ => True) c)
    (hacc : ∀ (q : Mo) box nb tok nt, Ext E0 box → q.nodes.length = p.nodes.length → q.edges.length = p.edges.length → (∀ x ∈ q.nodes, 0 ≤ x) → (∀ x ∈ q.edges, 0 ≤ x) → ACalls Tryz.prog f (q.av :: caps) ⟨box, nb, tok, nt⟩ fun v m => v = B (acc q) ∧ m = ⟨box, nb, tok, nt⟩) :
    ∀ (r i : Nat), i + r = p.nodes.length → ∀ (N Es : List Int) (box : Nat → Option (List (List AV))) (nb : Nat) (tok : Nat → Bool) (nt : Nat), ExH p g f caps kx kn ke E0 N Es box → (∀ x ∈ N, x < 0 → x = -1) → (∀ x ∈ Es, x < 0 → x = -1) → NonN N i →
      ACalls Tryz.prog 52 [.ptr kx 0 0, I i] ⟨box, nb, tok, nt⟩ (QNd (nodeB p g acc Es r N) N Es kn ke box nb tok nt)
  | 0, i, hir, N, Es, box, nb, tok, nt, h, hn1, hm, hnn => by
    have hed := edge86_c p g acc N f caps kx kn ke E0 hf hcap hacc (hnn.all (by rw [h.nl]; omega)) p.edges.length 0 (by omega)
    refine ACalls.of_body Tryz.func52 rfl (by kernel_rfl) follows_Tryz (by kernel_rfl) (by simp [Tryz.ntmps52]) ?_
    intro hbox htok
    simp only at hbox htok
    apply AL.start
    have kxn := key_lt hbox h.x
    have knn := key_lt hbox h.n
    have ken := key_lt hbox h.e
    have hx := h.x
    have hn := h.n
    have he := h.e
    have hL : ExH p g f caps kx kn ke E0 N Es (lb nb box []) := by rw [hbox]; exact h
    have hb1 : ((i : Int) == p.nodes.length) = true := by rw [show i = p.nodes.length by omega]; simp
    repeat (first | refine AL.seq ?_ | refine AL.block ?_ | refine AL.skip ?_ | refine AL.blk ?_)
    refine AL.region follows_Tryz (Nat.le_refl _) (by kernel_rfl) ?_
    simp
    repeat (first | refine AL.seq ?_ | refine AL.block ?_ | refine AL.skip ?_ | refine AL.blk ?_)
    refine AL.region follows_Tryz (Nat.le_refl _) (by kernel_rfl) ?_
    simp [lb_out kxn, hx, hb1]
    repeat (first | refine AL.seq ?_ | refine AL.block ?_ | refine AL.skip ?_ | refine AL.blk ?_)
    refine AL.cond ?_
    simp
    repeat (first | refine AL.seq ?_ | refine AL.block ?_ | refine AL.skip ?_ | refine AL.blk ?_)
    refine AL.region follows_Tryz (Nat.le_refl _) (by kernel_rfl) ?_
    simp
    refine Stop.of_a (hed Es _ _ _ _ hL hm fun j hj => absurd hj (Nat.not_lt_zero _)) ?_
    rintro v m ⟨rfl, E', hl, hE', rfl⟩
    simp [upd_lb_out ken]
    repeat (first | refine AL.seq ?_ | refine AL.block ?_ | refine AL.skip ?_ | refine AL.blk ?_)
    refine AL.ret ?_
    try simp only [AU]
    refine ⟨by simp, (Fin.gen (av := B (edgeB p g acc N p.edges.length Es)) (tok' := tok) (nt' := nt) (by simp [resAs, resA]; rfl) (by rw [← upd_lb_out ken, hbox]) (Nat.le_refl _) (Nat.le_refl _) (fun t ht => ⟨ht, .inl rfl⟩) outI (by simp [packA])).mono fun v m hq => ⟨hq.1, N, E', rfl, hl, fun hb => ⟨rfl, hE' hb⟩, ?_⟩⟩
    rw [hq.2, upd_self _ _ _ hn]
  | r + 1, i, hir, N, Es, box, nb, tok, nt, h, hn1, hm, hnn => by
    have ih := node71_c p g acc f caps kx kn ke E0 hf hcap hacc r (i + 1) (by omega)
    refine ACalls.of_body Tryz.func52 rfl (by kernel_rfl) follows_Tryz (by kernel_rfl) (by simp [Tryz.ntmps52]) ?_
    intro hbox htok
    simp only at hbox htok
    apply AL.start
    have kxn := key_lt hbox h.x
    have knn := key_lt hbox h.n
    have ken := key_lt hbox h.e
    have hx := h.x
    have hn := h.n
    have he := h.e
    have hL : ExH p g f caps kx kn ke E0 N Es (lb nb box []) := by rw [hbox]; exact h
    have hb1 : ((i : Int) == p.nodes.length) = false := by simp; omega
    have hip : i < p.nodes.length := by omega
    have hiN : i < N.length := by rw [h.nl]; exact hip
    have hN1 := hf.fp.n
    have hE1 := hf.fp.e
    have hw : IntKind.i64.wrap (↑i + 1) = ((i + 1 : Nat) : Int) := by rw [wrap_in (by omega) (by omega)]; rfl
    have hsub : p.nodes.length - (r + 1) = i := by omega
    repeat (first | refine AL.seq ?_ | refine AL.block ?_ | refine AL.skip ?_ | refine AL.blk ?_)
    refine AL.region follows_Tryz (Nat.le_refl _) (by kernel_rfl) ?_
    simp
    repeat (first | refine AL.seq ?_ | refine AL.block ?_ | refine AL.skip ?_ | refine AL.blk ?_)
    refine AL.region follows_Tryz (Nat.le_refl _) (by kernel_rfl) ?_
    simp [lb_out kxn, hx, hb1]
    repeat (first | refine AL.seq ?_ | refine AL.block ?_ | refine AL.skip ?_ | refine AL.blk ?_)
    refine AL.cond ?_
    simp
    repeat (first | refine AL.seq ?_ | refine AL.block ?_ | refine AL.skip ?_ | refine AL.blk ?_)
    refine AL.region follows_Tryz (Nat.le_refl _) (by kernel_rfl) ?_
    simp [lb_out kxn, hx, lb_out knn, hn, hiN, hip]
    by_cases h0 : 0 ≤ N[i]
    · simp [h0]
      repeat (first | refine AL.seq ?_ | refine AL.block ?_ | refine AL.skip ?_ | refine AL.blk ?_)
      refine AL.cond ?_
      simp
      repeat (first | refine AL.seq ?_ | refine AL.block ?_ | refine AL.skip ?_ | refine AL.blk ?_)
      refine AL.region follows_Tryz (Nat.le_refl _) (by kernel_rfl) ?_
      simp [hw]
      refine Stop.of_a (ih N Es _ _ _ _ hL hn1 hm (hnn.succ hiN h0)) ?_
      rintro v m ⟨rfl, N', E', hl, hl2, hE', rfl⟩
      simp [upd_lb_out ken, upd_lb_out knn]
      repeat (first | refine AL.seq ?_ | refine AL.block ?_ | refine AL.skip ?_ | refine AL.blk ?_)
      refine AL.ret ?_
      try simp only [AU]
      have hR : nodeB p g acc Es (r + 1) N = nodeB p g acc Es r N := by
        rw [nodeB, hsub, if_pos (by simpa [hiN] using h0)]
      refine ⟨by simp, (Fin.gen (av := B (nodeB p g acc Es r N)) (tok' := tok) (nt' := nt) (by simp [resAs, resA]; rfl) (by rw [← upd_lb_out ken, ← upd_lb_out knn, hbox]) (Nat.le_refl _) (Nat.le_refl _) (fun t ht => ⟨ht, .inl rfl⟩) outI2 (by simp [packA])).mono fun v m hq => ⟨by rw [hR]; exact hq.1, N', E', hl, hl2, by rw [hR]; exact hE', hq.2⟩⟩
    · simp [h0]
      repeat (first | refine AL.seq ?_ | refine AL.block ?_ | refine AL.skip ?_ | refine AL.blk ?_)
      refine AL.cond ?_
      simp
      repeat (first | refine AL.seq ?_ | refine AL.block ?_ | refine AL.skip ?_ | refine AL.blk ?_)
      refine AL.region follows_Tryz (Nat.le_refl _) (by kernel_rfl) ?_
      simp [lb_out kxn, hx, hip]
      repeat (first | refine AL.seq ?_ | refine AL.block ?_ | refine AL.skip ?_ | refine AL.blk ?_)
      have hno := nodeB_no (g := g) (acc := acc) (N := N) (Es := Es) hsub (by simpa [hiN] using h0)
      have hyes := fun j hj => nodeB_yes (g := g) (acc := acc) (N := N) (Es := Es) (j := j) hsub (by simpa [hiN] using h0) hj
      have hmi : N[i] = -1 := hn1 _ (List.getElem_mem hiN) (by omega)
      have hgn := hf.fg.n
      have hwk0 : To (fun k => AM.lb nb box [] k ≠ none) (fun _ => True) none (.ptr kx 0 0) (.ptr kx 0 0) := to_ptr (by rw [lb_out kxn, hx]; simp)
      refine AL.loopT (stNd g kx i nb box tok nt) (fun k => k ≤ g.nodes.length ∧ ∀ j, j < k → candN p g acc Es r i N j = false) (fun k => g.nodes.length - k) 0 ⟨Nat.zero_le _, fun j hj => absurd hj (Nat.not_lt_zero _)⟩ (Weaks.mk (Nat.le_refl _) rfl (by simp [ToL, lk]; exact hwk0) trivial) ?_
      rintro k S ⟨hk, hall⟩ hS
      simp only [stNd] at hS
      subst hS
      have hwk : IntKind.i64.wrap (↑k + 1) = ((k + 1 : Nat) : Int) := by rw [wrap_in (by omega) (by omega)]; rfl
      repeat (first | refine AL.seq ?_ | refine AL.block ?_ | refine AL.skip ?_ | refine AL.blk ?_)
      refine AL.region follows_Tryz (Nat.le_refl _) (by kernel_rfl) ?_
      simp
      repeat (first | refine AL.seq ?_ | refine AL.block ?_ | refine AL.skip ?_ | refine AL.blk ?_)
      refine AL.cond ?_
      simp
      refine ⟨fun hlt => ?_, fun hgek => ?_⟩
      · have hcand : candN p g acc Es r i N k = (decide (g.nodes[k] = p.nodes[i]) && !decide ((k : Int) ∈ N) && nodeB p g acc Es r (N.set i k)) := by
          unfold candN; simp [hlt, hip]
        repeat (first | refine AL.seq ?_ | refine AL.block ?_ | refine AL.skip ?_ | refine AL.blk ?_)
        refine AL.region follows_Tryz (Nat.le_refl _) (by kernel_rfl) ?_
        simp [hlt]
        generalize g.nodes[k] = z at *
        repeat (first | refine AL.seq ?_ | refine AL.block ?_ | refine AL.skip ?_ | refine AL.blk ?_)
        refine AL.region follows_Tryz (Nat.le_refl _) (by kernel_rfl) ?_
        simp [lb_out kxn, hx, hip]
        by_cases hz : z = p.nodes[i]
        · simp [hz, lb_out kxn, hx]
          refine Stop.of_r (containsN_c N k h.nl.symm (by rw [h.nl]; exact hN1) (by simp only; rw [lb_out knn]; exact hn) _ _) ?_
          by_cases hk' : (k : Int) ∈ N
          · simp [hk']
            repeat (first | refine AL.seq ?_ | refine AL.block ?_ | refine AL.skip ?_ | refine AL.blk ?_)
            refine AL.cond ?_
            simp
            repeat (first | refine AL.seq ?_ | refine AL.block ?_ | refine AL.skip ?_ | refine AL.blk ?_)
            refine AL.exit ?_
            simp only [AU, ↓reduceIte]
            repeat (first | refine AL.seq ?_ | refine AL.block ?_ | refine AL.skip ?_ | refine AL.blk ?_)
            refine AL.region follows_Tryz (Nat.le_refl _) (by kernel_rfl) ?_
            simp [hwk]
            repeat (first | refine AL.seq ?_ | refine AL.block ?_ | refine AL.skip ?_ | refine AL.blk ?_)
            refine AL.nil ?_
            refine ⟨k + 1, ⟨hlt, fun j hj => ?_⟩, by omega, Weaks.mk (Nat.le_refl _) rfl (by simp [ToL, lk]; exact hwk0) trivial⟩
            by_cases e : j = k
            · subst e; rw [hcand]; simp [hk']
            · exact hall j (by omega)
          · simp [hk']
            repeat (first | refine AL.seq ?_ | refine AL.block ?_ | refine AL.skip ?_ | refine AL.blk ?_)
            refine AL.cond ?_
            simp
            have hle : (N.set i k).length = N.length := by simp
            have hH2 := h.setN hf hle
            have hbox2 : AM.lb nb (upd box kn (some (rowsI (N.set i k)))) [] = upd box kn (some (rowsI (N.set i k))) := by rw [← upd_lb_out knn, hbox]
            have hm2 : ∀ x ∈ N.set i (k : Int), x < 0 → x = -1 := fun x hx hneg => by
              rcases List.mem_or_eq_of_mem_set hx with h1 | h1
              · exact hn1 x h1 hneg
              · omega
            repeat (first | refine AL.seq ?_ | refine AL.block ?_ | refine AL.skip ?_ | refine AL.blk ?_)
            refine AL.region follows_Tryz (Nat.le_refl _) (by kernel_rfl) ?_
            simp [lb_out kxn, hx, hip, hiN, lb_out knn, hn, upd_lb_out knn]
            repeat (first | refine AL.seq ?_ | refine AL.block ?_ | refine AL.skip ?_ | refine AL.blk ?_)
            refine AL.region follows_Tryz (Nat.le_refl _) (by kernel_rfl) ?_
            simp [hw]
            refine Stop.of_a (ih (N.set i k) Es _ _ _ _ (hH2.lb hbox2 _) hm2 hm (hnn.set hiN k)) ?_
            rintro v m ⟨rfl, N', E', hl, hl2, hE', rfl⟩
            simp [upd_lb_out knn, upd_lb_out ken, upd_upd]
            have hl' : N'.length = N.length := by rw [hl]; simp
            have hx2 : (upd (upd box kn (some (rowsI N'))) ke (some (rowsI E'))) kx = box kx := by rw [upd_other _ _ (Ne.symm hf.ex), upd_other _ _ (Ne.symm hf.nx)]
            have hn2 : (upd (upd box kn (some (rowsI N'))) ke (some (rowsI E'))) kn = some (rowsI N') := by rw [upd_other _ _ hf.ne, upd_same]
            by_cases hr : nodeB p g acc Es r (N.set i k) = true
            · have hR := hyes k hlt (by rw [hcand, hr]; simp [hz, hk'])
              simp [hr]
              repeat (first | refine AL.seq ?_ | refine AL.block ?_ | refine AL.skip ?_ | refine AL.blk ?_)
              refine AL.cond ?_
              simp
              repeat (first | refine AL.seq ?_ | refine AL.block ?_ | refine AL.skip ?_ | refine AL.blk ?_)
              refine AL.region follows_Tryz (Nat.le_refl _) (by kernel_rfl) ?_
              simp
              repeat (first | refine AL.seq ?_ | refine AL.block ?_ | refine AL.skip ?_ | refine AL.blk ?_)
              refine AL.ret ?_
              try simp only [AU]
              refine ⟨by simp, (Fin.gen (av := B true) (tok' := tok) (nt' := nt) (by simp [resAs, resA]; rfl) (by rw [← upd_lb_out ken, ← upd_lb_out knn, hbox]) (Nat.le_refl _) (Nat.le_refl _) (fun t ht => ⟨ht, .inl rfl⟩) outI2 (by simp [packA])).mono fun v m hq => ⟨by rw [hR]; exact hq.1, N', E', hl', hl2, by rw [hR]; simp, hq.2⟩⟩
            · have hr' : nodeB p g acc Es r (N.set i k) = false := by simpa using hr
              obtain ⟨hNN, hEE⟩ := hE' hr'
              have hback : (N'.set i (-1)) = N := by
                rw [hNN, List.set_set, ← hmi, List.set_getElem_self]
              have hiN' : i < N'.length := by rw [hl']; exact hiN
              have hboxb : upd (upd (upd box kn (some (rowsI N'))) ke (some (rowsI E'))) kn (some (rowsI N)) = box := by
                rw [hEE, upd_comm _ hf.ne, upd_upd, upd_comm _ (Ne.symm hf.ne), upd_self _ _ _ hn, upd_self _ _ _ he]
              simp [hr']
              repeat (first | refine AL.seq ?_ | refine AL.block ?_ | refine AL.skip ?_ | refine AL.blk ?_)
              refine AL.cond ?_
              simp
              repeat (first | refine AL.seq ?_ | refine AL.block ?_ | refine AL.skip ?_ | refine AL.blk ?_)
              refine AL.region follows_Tryz (Nat.le_refl _) (by kernel_rfl) ?_
              simp [lb_out kxn, hx2, hx, hip, hiN', lb_out knn, hn2, upd_lb_out knn, hback, hboxb]
              repeat (first | refine AL.seq ?_ | refine AL.block ?_ | refine AL.skip ?_ | refine AL.blk ?_)
              refine AL.region follows_Tryz (Nat.le_refl _) (by kernel_rfl) ?_
              simp [hwk]
              repeat (first | refine AL.seq ?_ | refine AL.block ?_ | refine AL.skip ?_ | refine AL.blk ?_)
              refine AL.nil ?_
              refine ⟨k + 1, ⟨hlt, fun j hj => ?_⟩, by omega, Weaks.mk (Nat.le_refl _) rfl (by simp [ToL, lk]; exact hwk0) trivial⟩
              by_cases e : j = k
              · subst e; rw [hcand, hr']; simp
              · exact hall j (by omega)
        · have hb2 : (z != p.nodes[i]) = true := by simp [hz]
          simp [hb2]
          repeat (first | refine AL.seq ?_ | refine AL.block ?_ | refine AL.skip ?_ | refine AL.blk ?_)
          refine AL.cond ?_
          simp
          repeat (first | refine AL.seq ?_ | refine AL.block ?_ | refine AL.skip ?_ | refine AL.blk ?_)
          refine AL.exit ?_
          simp only [AU, ↓reduceIte]
          repeat (first | refine AL.seq ?_ | refine AL.block ?_ | refine AL.skip ?_ | refine AL.blk ?_)
          refine AL.region follows_Tryz (Nat.le_refl _) (by kernel_rfl) ?_
          simp [hwk]
          repeat (first | refine AL.seq ?_ | refine AL.block ?_ | refine AL.skip ?_ | refine AL.blk ?_)
          refine AL.nil ?_
          refine ⟨k + 1, ⟨hlt, fun j hj => ?_⟩, by omega, Weaks.mk (Nat.le_refl _) rfl (by simp [ToL, lk]; exact hwk0) trivial⟩
          by_cases e : j = k
          · subst e; rw [hcand]; simp [hz]
          · exact hall j (by omega)
      · repeat (first | refine AL.seq ?_ | refine AL.block ?_ | refine AL.skip ?_ | refine AL.blk ?_)
        refine AL.exit ?_
        simp only [AU, ↓reduceIte]
        have hR := hno fun j hj => hall j (by omega)
        repeat (first | refine AL.seq ?_ | refine AL.block ?_ | refine AL.skip ?_ | refine AL.blk ?_)
        refine AL.region follows_Tryz (Nat.le_refl _) (by kernel_rfl) ?_
        simp
        repeat (first | refine AL.seq ?_ | refine AL.block ?_ | refine AL.skip ?_ | refine AL.blk ?_)
        refine AL.ret ?_
        try simp only [AU]
        refine ⟨by simp, (Fin.data (av := B false) (by simp [resAs, resA]; rfl) hbox rfl htok (fun _ h => h) (Nat.le_refl _) (by simp [packA])).mono fun v m hq => ⟨by rw [hR]; exact hq.1, N, Es, rfl, rfl, fun _ => ⟨rfl, rfl⟩, ?_⟩⟩
        rw [hq.2, upd_self _ _ _ hn, upd_self _ _ _ he]
end Go.AM
namespace Go.AM
open Go Go.Proofs
set_option linter.unusedSimpArgs false
set_option linter.unusedVariables false

/-! ### What the library's Sort and Compact leave of a list -/
theorem upTo_facts (d : Array Int) (hs : ∀ i j, i ≤ j → j < d.size → d[i]! ≤ d[j]!) : ∀ m, m ≤ d.size → (Lib.compactUpTo d m).Pairwise (· < ·) ∧ ∀ x, x ∈ Lib.compactUpTo d m ↔ ∃ j, j < m ∧ d[j]! = x
  | 0, _ => ⟨List.Pairwise.nil, fun x => ⟨fun h => by simp [Lib.compactUpTo] at h, fun ⟨j, hj, _⟩ => absurd hj (Nat.not_lt_zero _)⟩⟩
  | m + 1, hm => by
    obtain ⟨h1, h2⟩ := upTo_facts d hs m (by omega)
    rw [Lib.compactUpTo_succ]
    by_cases hk : Lib.keeps d m = true
    · rw [if_pos hk]
      refine ⟨List.pairwise_append.2 ⟨h1, List.pairwise_singleton _ _, fun x hx y hy => ?_⟩, fun x => ?_⟩
      · rw [List.mem_singleton] at hy
        subst hy
        obtain ⟨j, hj, rfl⟩ := (h2 x).1 hx
        simp only [Lib.keeps, decide_eq_true_eq] at hk
        have a1 := hs j (m - 1) (by omega) (by omega)
        have a2 := hs (m - 1) m (by omega) (by omega)
        have a3 : d[m]! ≠ d[m - 1]! := by rcases hk with hk | hk; omega; exact hk
        omega
      · rw [List.mem_append, List.mem_singleton, h2]
        constructor
        · rintro (⟨j, hj, e⟩ | e)
          · exact ⟨j, by omega, e⟩
          · exact ⟨m, by omega, e.symm⟩
        · rintro ⟨j, hj, e⟩
          by_cases ej : j = m
          · subst ej; exact .inr e.symm
          · exact .inl ⟨j, by omega, e⟩
    · rw [if_neg hk, List.append_nil]
      refine ⟨h1, fun x => ?_⟩
      rw [h2]
      constructor
      · rintro ⟨j, hj, e⟩; exact ⟨j, by omega, e⟩
      · rintro ⟨j, hj, e⟩
        by_cases ej : j = m
        · subst ej
          simp only [Lib.keeps, decide_eq_true_eq, not_or, Decidable.not_not] at hk
          exact ⟨j - 1, by omega, by rw [← hk.2]; exact e⟩
        · exact ⟨j, by omega, e⟩

def sortI (l : List Int) : List Int := l.mergeSort fun x y => decide (x ≤ y)
theorem sortI_perm (l : List Int) : (sortI l).Perm l := List.mergeSort_perm l _
theorem sortI_sorted (l : List Int) : (sortI l).Pairwise (· ≤ ·) := by
  have := List.pairwise_mergeSort (le := fun x y : Int => decide (x ≤ y)) (fun a b c h1 h2 => by simp only [decide_eq_true_eq] at *; omega) (fun a b => by simp only [Bool.or_eq_true, decide_eq_true_eq]; omega) l
  exact this.imp fun h => by simpa using h
theorem sortI_arr (l : List Int) (i j : Nat) (hij : i ≤ j) (hj : j < (sortI l).toArray.size) : (sortI l).toArray[i]! ≤ (sortI l).toArray[j]! := by
  simp only [List.size_toArray] at hj
  rw [getElem!_pos _ i (by simp; omega), getElem!_pos _ j (by simpa using hj)]
  by_cases e : i = j
  · subst e; omega
  · exact List.pairwise_iff_getElem.1 (sortI_sorted l) i j (by omega) hj (by omega)

/-- The numbers of a list, in order, each once. -/
def imagesI (l : List Int) : List Int := Lib.compact (sortI l)
theorem imagesI_sorted (l : List Int) : (imagesI l).Pairwise (· < ·) := (upTo_facts (sortI l).toArray (sortI_arr l) (sortI l).length (by simp)).1
theorem imagesN_len (l : List Int) : imagesN l = (imagesI l).length := rfl

theorem imagesN_iff (l : List Int) : imagesN l = l.length ↔ l.Nodup := by
  have hl : (sortI l).length = l.length := (sortI_perm l).length_eq
  rw [imagesN_len, ← (sortI_perm l).nodup_iff, ← hl]
  constructor
  · intro h
    have h2 : ∀ j, j < (sortI l).length → Lib.keeps (sortI l).toArray j = true := by
      unfold imagesI Lib.compact Lib.compactUpTo at h
      rw [List.length_map] at h
      have h3 : (List.range (sortI l).length).filter (Lib.keeps (sortI l).toArray) = List.range (sortI l).length := List.filter_sublist.eq_of_length (by rw [h, List.length_range])
      intro j hj
      exact (List.filter_eq_self.1 h3) j (List.mem_range.2 hj)
    have h4 : imagesI l = sortI l := Lib.compact_all _ h2
    have h5 := imagesI_sorted l
    rw [h4] at h5
    exact h5.imp fun h => by omega
  · intro h
    have h4 : imagesI l = sortI l := Lib.compact_all _ fun j hj => by
      by_cases e : j = 0
      · simp [Lib.keeps, e]
      · apply Lib.keeps_pos
        rw [getElem!_pos _ j (by simpa using hj), getElem!_pos _ (j - 1) (by simp; omega)]
        intro e2
        exact List.pairwise_iff_getElem.1 h (j - 1) j (by omega) hj (by omega) e2.symm
    rw [h4]

theorem distK_nodup (l : List Int) : distK l l.length = true ↔ l.Nodup := by
  simp only [distK, List.all_eq_true, List.mem_range, decide_eq_true_eq]
  rw [List.Nodup, List.pairwise_iff_getElem]
  constructor
  · intro h i j hi hj hij e
    apply h j hj i hij
    rw [List.getD_eq_getElem?_getD, List.getD_eq_getElem?_getD, List.getElem?_eq_getElem hj, List.getElem?_eq_getElem hi]
    exact e.symm
  · intro h j hj k hkj e
    rw [List.getD_eq_getElem?_getD, List.getD_eq_getElem?_getD, List.getElem?_eq_getElem hj, List.getElem?_eq_getElem (show k < l.length by omega)] at e
    exact h k j (by omega) hj hkj e.symm

theorem images_dist (l : List Int) : decide (imagesN l = l.length) = distK l l.length := by
  rw [Bool.eq_iff_iff, decide_eq_true_eq, imagesN_iff, distK_nodup]

theorem images_beq (l : List Int) : ((imagesN l : Int) == (l.length : Int)) = distK l l.length := by
  rw [← images_dist, beqD]
  simp
  omega

/-! ### morphism.Injective -/
theorem injective56_c (a b : Gr) (m : Mo) (ha : a.Fit) (hb : b.Fit) (hm : m.Fit) (tok : Nat → Bool) (nt : Nat) : DCall Tryz.prog 45 [a.av, b.av, m.av] tok nt (B (injM a b m)) tok nt := by
  intro box nb
  have i1 := images_beq m.nodes
  have i2 := images_beq m.edges
  refine ACalls.of_body Tryz.func45 rfl (by kernel_rfl) follows_Tryz (by kernel_rfl) (by simp [Tryz.ntmps45]) ?_
  intro hbox htok
  simp only at hbox htok
  apply AL.start
  repeat (first | refine AL.seq ?_ | refine AL.block ?_ | refine AL.skip ?_ | refine AL.blk ?_)
  refine AL.region follows_Tryz (Nat.le_refl _) (by kernel_rfl) ?_
  simp
  repeat (first | refine AL.seq ?_ | refine AL.block ?_ | refine AL.skip ?_ | refine AL.blk ?_)
  refine AL.region follows_Tryz (Nat.le_refl _) (by kernel_rfl) ?_
  simp
  refine Stop.of_d (valid51_c a b m ha hb _ _) ?_
  simp
  by_cases h1 : validM a b m = 0
  · simp [h1]
    refine Stop.of_d (images88_c m.nodes hm.n _ _) ?_
    simp [h1]
    simp only [i1]
    by_cases h2 : distK m.nodes m.nodes.length = true
    · simp [h2]
      refine Stop.of_d (images88_c m.edges hm.e _ _) ?_
      simp [h1, h2, i2]
      repeat (first | refine AL.seq ?_ | refine AL.block ?_ | refine AL.skip ?_ | refine AL.blk ?_)
      refine AL.ret ?_
      try simp only [AU]
      refine ⟨by simp, Fin.data (by simp [resAs, resA]; rfl) hbox rfl htok (fun _ h => h) (Nat.le_refl _) ?_⟩
      simp [packA, injM, h1, h2]
    · have h3 : distK m.nodes m.nodes.length = false := by simpa using h2
      simp only [h3]
      simp
      repeat (first | refine AL.seq ?_ | refine AL.block ?_ | refine AL.skip ?_ | refine AL.blk ?_)
      refine AL.ret ?_
      try simp only [AU]
      refine ⟨by simp, Fin.data (by simp [resAs, resA]; rfl) hbox rfl htok (fun _ h => h) (Nat.le_refl _) ?_⟩
      simp [packA, injM, h1, h3]
  · have hb1 : (validM a b m == 0) = false := by simp [h1]
    simp only [hb1]
    try simp
    repeat (first | refine AL.seq ?_ | refine AL.block ?_ | refine AL.skip ?_ | refine AL.blk ?_)
    refine AL.ret ?_
    try simp only [AU]
    refine ⟨by simp, Fin.data (by simp [resAs, resA]; rfl) hbox rfl htok (fun _ h => h) (Nat.le_refl _) ?_⟩
    simp [packA, injM, h1]
end Go.AM
/-
  shift.Size, over, Valid, injective.
-/
namespace Go.AM
open Go Go.Proofs
set_option linter.unusedSimpArgs false
set_option linter.unusedVariables false

def sizeR (c : Cd) : Int × Int × Int := if c.shs ≠ 0 then (0, 0, c.shs) else if smallC c ≠ 0 then (0, 0, smallC c) else (c.meas.1, c.meas.2, 0)

theorem cdSize_c (c : Cd) (hb : c.Big) (tok : Nat → Bool) (nt : Nat) : DCall Tryz.prog 21 [c.av] tok nt (.tup [I (sizeR c).1, I (sizeR c).2.1, I (sizeR c).2.2]) tok nt := by
  intro box nb
  have hs := shapes_c _ c (Nat.lt_succ_self _) hb
  have hm := measure_c _ c (Nat.lt_succ_self _) hb
  have hl := cdSmall_c c hb
  refine ACalls.of_body Tryz.func21 rfl (by kernel_rfl) follows_Tryz (by kernel_rfl) (by simp [Tryz.ntmps21]) ?_
  intro hbox htok
  simp only at hbox htok
  apply AL.start
  repeat (first | refine AL.seq ?_ | refine AL.block ?_ | refine AL.skip ?_ | refine AL.blk ?_)
  refine AL.region follows_Tryz (Nat.le_refl _) (by kernel_rfl) ?_
  simp
  repeat (first | refine AL.seq ?_ | refine AL.block ?_ | refine AL.skip ?_ | refine AL.blk ?_)
  refine AL.region follows_Tryz (Nat.le_refl _) (by kernel_rfl) ?_
  simp
  refine Stop.of_d (hs _ _) ?_
  simp
  repeat (first | refine AL.seq ?_ | refine AL.block ?_ | refine AL.skip ?_ | refine AL.blk ?_)
  refine AL.region follows_Tryz (Nat.le_refl _) (by kernel_rfl) ?_
  simp
  by_cases h0 : c.shs = 0
  · simp only [h0]
    repeat (first | refine AL.seq ?_ | refine AL.block ?_ | refine AL.skip ?_ | refine AL.blk ?_)
    refine AL.cond ?_
    simp
    repeat (first | refine AL.seq ?_ | refine AL.block ?_ | refine AL.skip ?_ | refine AL.blk ?_)
    refine AL.region follows_Tryz (Nat.le_refl _) (by kernel_rfl) ?_
    simp
    refine Stop.of_d (hl _ _) ?_
    simp
    repeat (first | refine AL.seq ?_ | refine AL.block ?_ | refine AL.skip ?_ | refine AL.blk ?_)
    refine AL.region follows_Tryz (Nat.le_refl _) (by kernel_rfl) ?_
    simp
    by_cases h1 : smallC c = 0
    · simp only [h1]
      repeat (first | refine AL.seq ?_ | refine AL.block ?_ | refine AL.skip ?_ | refine AL.blk ?_)
      refine AL.cond ?_
      simp
      repeat (first | refine AL.seq ?_ | refine AL.block ?_ | refine AL.skip ?_ | refine AL.blk ?_)
      refine AL.region follows_Tryz (Nat.le_refl _) (by kernel_rfl) ?_
      simp
      refine Stop.of_d (hm _ _) ?_
      simp
      repeat (first | refine AL.seq ?_ | refine AL.block ?_ | refine AL.skip ?_ | refine AL.blk ?_)
      refine AL.region follows_Tryz (Nat.le_refl _) (by kernel_rfl) ?_
      simp
      repeat (first | refine AL.seq ?_ | refine AL.block ?_ | refine AL.skip ?_ | refine AL.blk ?_)
      refine AL.ret ?_
      try simp only [AU]
      refine ⟨by simp, Fin.data (by simp [resAs, resA]; rfl) hbox rfl htok (fun _ h => h) (Nat.le_refl _) ?_⟩
      simp [packA, sizeR, h0, h1]
    · have b1 : (smallC c != 0) = true := by simp [h1]
      simp only [b1]
      repeat (first | refine AL.seq ?_ | refine AL.block ?_ | refine AL.skip ?_ | refine AL.blk ?_)
      refine AL.cond ?_
      simp
      repeat (first | refine AL.seq ?_ | refine AL.block ?_ | refine AL.skip ?_ | refine AL.blk ?_)
      refine AL.region follows_Tryz (Nat.le_refl _) (by kernel_rfl) ?_
      simp
      repeat (first | refine AL.seq ?_ | refine AL.block ?_ | refine AL.skip ?_ | refine AL.blk ?_)
      refine AL.ret ?_
      try simp only [AU]
      refine ⟨by simp, Fin.data (by simp [resAs, resA]; rfl) hbox rfl htok (fun _ h => h) (Nat.le_refl _) ?_⟩
      simp [packA, sizeR, h0, h1]
  · have b0 : (c.shs != 0) = true := by simp [h0]
    simp only [b0]
    repeat (first | refine AL.seq ?_ | refine AL.block ?_ | refine AL.skip ?_ | refine AL.blk ?_)
    refine AL.cond ?_
    simp
    repeat (first | refine AL.seq ?_ | refine AL.block ?_ | refine AL.skip ?_ | refine AL.blk ?_)
    refine AL.region follows_Tryz (Nat.le_refl _) (by kernel_rfl) ?_
    simp
    repeat (first | refine AL.seq ?_ | refine AL.block ?_ | refine AL.skip ?_ | refine AL.blk ?_)
    refine AL.ret ?_
    try simp only [AU]
    refine ⟨by simp, Fin.data (by simp [resAs, resA]; rfl) hbox rfl htok (fun _ h => h) (Nat.le_refl _) ?_⟩
    simp [packA, sizeR, h0]

/-! ### Over a graph -/
inductive Cd.Fit : Cd → Prop
  | mk {c : Cd} (hk : c.kids.length ≤ kidN) (hm : c.m.Fit) (hg : c.g.Fit) (hs : c.sl.length ≤ bigN) (ht : c.te.length ≤ bigN) (h : ∀ x ∈ c.kids, Cd.Fit x) : Cd.Fit c
theorem Cd.Fit.kids {c : Cd} (h : c.Fit) : c.kids.length ≤ kidN := by cases h; assumption
theorem Cd.Fit.kid {c : Cd} (h : c.Fit) : ∀ x ∈ c.kids, Cd.Fit x := by cases h; assumption
theorem Cd.Fit.m {c : Cd} (h : c.Fit) : c.m.Fit := by cases h; assumption
theorem Cd.Fit.g {c : Cd} (h : c.Fit) : c.g.Fit := by cases h; assumption
theorem Cd.Fit.big {c : Cd} (h : c.Fit) : c.Big := by
  induction h with
  | mk hk hm hg hs ht _ ih =>
    refine ⟨hk, ?_, ?_, ?_, ?_, hs, ht, ih⟩
    · have := hm.n; rw [bigN_eq]; omega
    · have := hm.e; rw [bigN_eq]; omega
    · have := hg.n; rw [bigN_eq]; omega
    · have := hg.e; rw [bigN_eq]; omega

def ovrStep (a : Gr) (k : Int) (m : Mo) (g : Gr) : Int := if k = 5 then (if validM a g m ≠ 0 then validM a g m else if injM a g m = true then 0 else 1) else 0
mutual
def Cd.ovr : Cd → Gr → Int
  | .mk k c m g s v t, a => if shapeC (.mk k c m g s v t) = 0 then if ovrStep a k m g = 0 then Cd.ovrL c (if k = 5 then g else a) else ovrStep a k m g else shapeC (.mk k c m g s v t)
def Cd.ovrL : List Cd → Gr → Int
  | [], _ => 0
  | x :: r, a => if Cd.ovr x a = 0 then Cd.ovrL r a else Cd.ovr x a
end
theorem Cd.ovrL_eq (a : Gr) : ∀ l : List Cd, Cd.ovrL l a = errL (fun x => Cd.ovr x a) l
  | [] => by simp [Cd.ovrL, errL]
  | x :: r => by simp [Cd.ovrL, errL, Cd.ovrL_eq a r]
abbrev Cd.inn (c : Cd) (a : Gr) : Gr := if c.kind = 5 then c.g else a
theorem Cd.ovr_eq (c : Cd) (a : Gr) : c.ovr a = if shapeC c = 0 then if ovrStep a c.kind c.m c.g = 0 then errL (fun x => Cd.ovr x (c.inn a)) c.kids else ovrStep a c.kind c.m c.g else shapeC c := by
  cases c
  rw [Cd.ovr, Cd.ovrL_eq]
  rfl

theorem AL.midP {cx : Cx} {nt0 : Nat} {K : Exit → AState → Prop} {r : List CI} {S : AState} {x y : Code} (T : AState) (p : Prop)
    (h1 : AL Tryz.prog cx nt0 (fun e S' => match e with
      | .normal => p ∧ Weaks cx nt0 S' T
      | e => AU Tryz.prog cx nt0 K (.c y :: r) e S') [.c x] S) (h2 : p → AL Tryz.prog cx nt0 K (.c y :: r) T) : AL Tryz.prog cx nt0 K (.c x :: .c y :: r) S := by
  have h3 := AL.start h1
  simp only [AL] at h2 ⊢
  refine h3.mono fun e S' h => ?_
  cases e with
  | normal => exact AT.weaks h.2 (h2 h.1)
  | _ => exact h

abbrev Gr.cells2 (g : Gr) : List AV := [.d (ints g.nodes), .d (AM.edges g.edges)]
def stOv (a : Gr) (c : Cd) (nb : Nat) (box : Nat → Option (List (List AV))) (tok : Nat → Bool) (nt : Nat) (i : Nat) : AState :=
  ⟨tl [(38, .d (conds c.kids)), (39, I c.kids.length), (40, I i), (6, .ptr (nb + 6) 0 0)], lb nb box [(6, [a.cells2])], tok, nt⟩

theorem over_c : ∀ (n : Nat) (c : Cd), SizeOf.sizeOf c < n → c.Fit → ∀ (a : Gr), a.Fit → ∀ (tok : Nat → Bool) (nt : Nat), DCall Tryz.prog 46 [a.av, c.av] tok nt (I (c.ovr a)) tok nt
  | 0, c, hn, _, a, _, tok, nt => absurd hn (Nat.not_lt_zero _)
  | n + 1, c, hn, hb, a, ha, tok, nt => by
    intro box nb
    have ih := fun x (hx : x ∈ c.kids) => over_c n x (by have := Cd.kid_lt hx; omega) (hb.kid x hx)
    have hkb := hb.kids
    rw [kidN_eq] at hkb
    have hR := c.ovr_eq a
    have hsh := shape_c c
    have hva := valid51_c a c.g c.m ha hb.g
    have hin := injective56_c a c.g c.m ha hb.g hb.m
    have hinn : (c.inn a).Fit := by unfold Cd.inn; split; exact hb.g; exact ha
    refine ACalls.of_body Tryz.func46 rfl (by kernel_rfl) follows_Tryz (by kernel_rfl) (by simp [Tryz.ntmps46]) ?_
    intro hbox htok
    simp only at hbox htok
    apply AL.start
    repeat (first | refine AL.seq ?_ | refine AL.block ?_ | refine AL.skip ?_ | refine AL.blk ?_)
    refine AL.region follows_Tryz (Nat.le_refl _) (by kernel_rfl) ?_
    simp
    repeat (first | refine AL.seq ?_ | refine AL.block ?_ | refine AL.skip ?_ | refine AL.blk ?_)
    refine AL.region follows_Tryz (Nat.le_refl _) (by kernel_rfl) ?_
    simp
    refine Stop.of_d (hsh _ _) ?_
    simp
    repeat (first | refine AL.seq ?_ | refine AL.block ?_ | refine AL.skip ?_ | refine AL.blk ?_)
    refine AL.region follows_Tryz (Nat.le_refl _) (by kernel_rfl) ?_
    simp
    by_cases h0 : shapeC c = 0
    · simp [h0]
      repeat (first | refine AL.seq ?_ | refine AL.block ?_ | refine AL.skip ?_ | refine AL.blk ?_)
      refine AL.cond ?_
      simp
      repeat (first | refine AL.seq ?_ | refine AL.block ?_ | refine AL.skip ?_ | refine AL.blk ?_)
      refine AL.region follows_Tryz (Nat.le_refl _) (by kernel_rfl) ?_
      simp
      repeat (first | refine AL.seq ?_ | refine AL.block ?_ | refine AL.skip ?_ | refine AL.blk ?_)
      refine AL.region follows_Tryz (Nat.le_refl _) (by kernel_rfl) ?_
      simp
      refine AL.midP ⟨tl [(6, .ptr (nb + 6) 0 0), (3, .ptr (nb + 3) 0 0)], lb nb box [(6, [(c.inn a).cells2]), (3, [c.row])], tok, nt⟩ (ovrStep a c.kind c.m c.g = 0) ?_ ?_
      · have hst : ovrStep a c.kind c.m c.g = if c.kind = 5 then (if validM a c.g c.m ≠ 0 then validM a c.g c.m else if injM a c.g c.m = true then 0 else 1) else 0 := rfl
        by_cases k5 : c.kind = 5
        · have hii : c.inn a = c.g := if_pos k5
          rw [if_pos k5] at hst
          simp [k5]
          repeat (first | refine AL.seq ?_ | refine AL.block ?_ | refine AL.skip ?_ | refine AL.blk ?_)
          refine AL.cond ?_
          simp
          repeat (first | refine AL.seq ?_ | refine AL.block ?_ | refine AL.skip ?_ | refine AL.blk ?_)
          refine AL.region follows_Tryz (Nat.le_refl _) (by kernel_rfl) ?_
          simp
          repeat (first | refine AL.seq ?_ | refine AL.block ?_ | refine AL.skip ?_ | refine AL.blk ?_)
          refine AL.region follows_Tryz (Nat.le_refl _) (by kernel_rfl) ?_
          simp
          refine Stop.of_d (hva _ _) ?_
          simp
          repeat (first | refine AL.seq ?_ | refine AL.block ?_ | refine AL.skip ?_ | refine AL.blk ?_)
          refine AL.region follows_Tryz (Nat.le_refl _) (by kernel_rfl) ?_
          simp
          by_cases h1 : validM a c.g c.m = 0
          · rw [if_neg (by simp [h1])] at hst
            simp [h1]
            repeat (first | refine AL.seq ?_ | refine AL.block ?_ | refine AL.skip ?_ | refine AL.blk ?_)
            refine AL.cond ?_
            simp
            repeat (first | refine AL.seq ?_ | refine AL.block ?_ | refine AL.skip ?_ | refine AL.blk ?_)
            refine AL.region follows_Tryz (Nat.le_refl _) (by kernel_rfl) ?_
            simp
            refine Stop.of_d (hin _ _) ?_
            simp
            cases h2 : injM a c.g c.m
            · simp [h2] at hst
              repeat (first | refine AL.seq ?_ | refine AL.block ?_ | refine AL.skip ?_ | refine AL.blk ?_)
              refine AL.cond ?_
              simp
              repeat (first | refine AL.seq ?_ | refine AL.block ?_ | refine AL.skip ?_ | refine AL.blk ?_)
              refine AL.region follows_Tryz (Nat.le_refl _) (by kernel_rfl) ?_
              simp
              repeat (first | refine AL.seq ?_ | refine AL.block ?_ | refine AL.skip ?_ | refine AL.blk ?_)
              refine AL.ret ?_
              try simp only [AU]
              refine ⟨by simp, Fin.data (by simp [resAs, resA]; rfl) hbox rfl htok (fun _ h => h) (Nat.le_refl _) ?_⟩
              simp [packA, hR, h0, hst]
            · simp [h2] at hst
              repeat (first | refine AL.seq ?_ | refine AL.block ?_ | refine AL.skip ?_ | refine AL.blk ?_)
              refine AL.cond ?_
              simp
              repeat (first | refine AL.seq ?_ | refine AL.block ?_ | refine AL.skip ?_ | refine AL.blk ?_)
              refine AL.nil ?_
              refine ⟨by simpa [k5] using hst, ?_⟩
              exact Weaks.mk (Nat.le_refl _) rfl (by simp [ToL, lk]) (by simp [BoxL, lk, hii])
          · rw [if_pos (by simpa using h1)] at hst
            have b1 : (validM a c.g c.m != 0) = true := by simp [h1]
            simp only [b1]
            repeat (first | refine AL.seq ?_ | refine AL.block ?_ | refine AL.skip ?_ | refine AL.blk ?_)
            refine AL.cond ?_
            simp
            repeat (first | refine AL.seq ?_ | refine AL.block ?_ | refine AL.skip ?_ | refine AL.blk ?_)
            refine AL.region follows_Tryz (Nat.le_refl _) (by kernel_rfl) ?_
            simp
            repeat (first | refine AL.seq ?_ | refine AL.block ?_ | refine AL.skip ?_ | refine AL.blk ?_)
            refine AL.ret ?_
            try simp only [AU]
            refine ⟨by simp, Fin.data (by simp [resAs, resA]; rfl) hbox rfl htok (fun _ h => h) (Nat.le_refl _) ?_⟩
            simp [packA, hR, h0, hst, h1]
        · have hii : c.inn a = a := if_neg k5
          have n5 : (c.kind == 5) = false := by simp [k5]
          simp only [n5]
          repeat (first | refine AL.seq ?_ | refine AL.block ?_ | refine AL.skip ?_ | refine AL.blk ?_)
          refine AL.cond ?_
          simp
          repeat (first | refine AL.seq ?_ | refine AL.block ?_ | refine AL.skip ?_ | refine AL.blk ?_)
          refine AL.nil ?_
          refine ⟨by rw [hst, if_neg k5], ?_⟩
          exact Weaks.mk (Nat.le_refl _) rfl (by simp [ToL, lk]) (by simp [BoxL, lk, hii])
      · intro hst
        rw [if_pos h0, if_pos hst] at hR
        generalize c.inn a = b at *
        repeat (first | refine AL.seq ?_ | refine AL.block ?_ | refine AL.skip ?_ | refine AL.blk ?_)
        refine AL.region follows_Tryz (Nat.le_refl _) (by kernel_rfl) ?_
        simp
        repeat (first | refine AL.seq ?_ | refine AL.block ?_ | refine AL.skip ?_ | refine AL.blk ?_)
        refine AL.loopT (stOv b c nb box tok nt) (fun i => i ≤ c.kids.length ∧ ∀ x ∈ c.kids.take i, Cd.ovr x b = 0) (fun i => c.kids.length - i) 0 ⟨Nat.zero_le _, by simp⟩ (Weaks.mk (Nat.le_refl _) rfl (by simp [ToL, lk]) (by simp [BoxL, lk])) ?_
        rintro i S ⟨hi, hz⟩ hS
        simp only [stOv] at hS
        subst hS
        have hw : IntKind.i64.wrap (↑i + 1) = ((i + 1 : Nat) : Int) := by rw [wrap_in (by omega) (by omega)]; rfl
        repeat (first | refine AL.seq ?_ | refine AL.block ?_ | refine AL.skip ?_ | refine AL.blk ?_)
        refine AL.region follows_Tryz (Nat.le_refl _) (by kernel_rfl) ?_
        simp
        repeat (first | refine AL.seq ?_ | refine AL.block ?_ | refine AL.skip ?_ | refine AL.blk ?_)
        refine AL.cond ?_
        simp
        refine ⟨fun hlt => ?_, fun hge => ?_⟩
        · have ihx := fun a ha => ih _ (List.getElem_mem hlt) a ha
          have hyes := errL_more (f := fun x => Cd.ovr x b) hlt hz
          have hno := errL_at (f := fun x => Cd.ovr x b) hlt hz
          repeat (first | refine AL.seq ?_ | refine AL.block ?_ | refine AL.skip ?_ | refine AL.blk ?_)
          refine AL.region follows_Tryz (Nat.le_refl _) (by kernel_rfl) ?_
          simp [hlt, Cd.cells_eq]
          generalize c.kids[i] = x at *
          repeat (first | refine AL.seq ?_ | refine AL.block ?_ | refine AL.skip ?_ | refine AL.blk ?_)
          refine AL.region follows_Tryz (Nat.le_refl _) (by kernel_rfl) ?_
          simp
          refine Stop.of_d (ihx b hinn _ _) ?_
          simp
          repeat (first | refine AL.seq ?_ | refine AL.block ?_ | refine AL.skip ?_ | refine AL.blk ?_)
          refine AL.region follows_Tryz (Nat.le_refl _) (by kernel_rfl) ?_
          simp
          by_cases h1 : x.ovr b = 0
          · simp only [h1]
            repeat (first | refine AL.seq ?_ | refine AL.block ?_ | refine AL.skip ?_ | refine AL.blk ?_)
            refine AL.cond ?_
            simp
            repeat (first | refine AL.seq ?_ | refine AL.block ?_ | refine AL.skip ?_ | refine AL.blk ?_)
            refine AL.region follows_Tryz (Nat.le_refl _) (by kernel_rfl) ?_
            simp [hw]
            repeat (first | refine AL.seq ?_ | refine AL.block ?_ | refine AL.skip ?_ | refine AL.blk ?_)
            refine AL.nil ?_
            exact ⟨i + 1, ⟨hlt, hyes h1⟩, by omega, Weaks.mk (Nat.le_refl _) rfl (by simp [ToL, lk]) (by simp [BoxL, lk])⟩
          · have b1 : (x.ovr b != 0) = true := by simp [h1]
            simp only [b1]
            repeat (first | refine AL.seq ?_ | refine AL.block ?_ | refine AL.skip ?_ | refine AL.blk ?_)
            refine AL.cond ?_
            simp
            repeat (first | refine AL.seq ?_ | refine AL.block ?_ | refine AL.skip ?_ | refine AL.blk ?_)
            refine AL.region follows_Tryz (Nat.le_refl _) (by kernel_rfl) ?_
            simp
            repeat (first | refine AL.seq ?_ | refine AL.block ?_ | refine AL.skip ?_ | refine AL.blk ?_)
            refine AL.ret ?_
            try simp only [AU]
            refine ⟨by simp, Fin.data (by simp [resAs, resA]; rfl) hbox rfl htok (fun _ h => h) (Nat.le_refl _) ?_⟩
            simp [packA, hR, hno h1]
        · repeat (first | refine AL.seq ?_ | refine AL.block ?_ | refine AL.skip ?_ | refine AL.blk ?_)
          refine AL.exit ?_
          simp only [AU, ↓reduceIte]
          rw [List.take_of_length_le hge] at hz
          repeat (first | refine AL.seq ?_ | refine AL.block ?_ | refine AL.skip ?_ | refine AL.blk ?_)
          refine AL.region follows_Tryz (Nat.le_refl _) (by kernel_rfl) ?_
          simp
          repeat (first | refine AL.seq ?_ | refine AL.block ?_ | refine AL.skip ?_ | refine AL.blk ?_)
          refine AL.ret ?_
          try simp only [AU]
          refine ⟨by simp, Fin.data (by simp [resAs, resA]; rfl) hbox rfl htok (fun _ h => h) (Nat.le_refl _) ?_⟩
          simp [packA, hR, errL_all (f := fun x => Cd.ovr x b) hz]
    · rw [if_neg h0] at hR
      have b0 : (shapeC c != 0) = true := by simp [h0]
      simp only [b0]
      repeat (first | refine AL.seq ?_ | refine AL.block ?_ | refine AL.skip ?_ | refine AL.blk ?_)
      refine AL.cond ?_
      simp
      repeat (first | refine AL.seq ?_ | refine AL.block ?_ | refine AL.skip ?_ | refine AL.blk ?_)
      refine AL.region follows_Tryz (Nat.le_refl _) (by kernel_rfl) ?_
      simp
      repeat (first | refine AL.seq ?_ | refine AL.block ?_ | refine AL.skip ?_ | refine AL.blk ?_)
      refine AL.ret ?_
      try simp only [AU]
      refine ⟨by simp, Fin.data (by simp [resAs, resA]; rfl) hbox rfl htok (fun _ h => h) (Nat.le_refl _) ?_⟩
      simp [packA, hR]

def validC (a : Gr) (c : Cd) : Int := if validG a ≠ 0 then validG a else if c.ovr a ≠ 0 then c.ovr a else smallC c
theorem validC_c (a : Gr) (c : Cd) (ha : a.Fit) (hb : c.Fit) (tok : Nat → Bool) (nt : Nat) : DCall Tryz.prog 29 [a.av, c.av] tok nt (I (validC a c)) tok nt := by
  intro box nb
  have hg := graphValid_c a ha
  have ho := over_c _ c (Nat.lt_succ_self _) hb a ha
  have hs := cdSmall_c c hb.big
  refine ACalls.of_body Tryz.func29 rfl (by kernel_rfl) follows_Tryz (by kernel_rfl) (by simp [Tryz.ntmps29]) ?_
  intro hbox htok
  simp only at hbox htok
  apply AL.start
  try (simp)
  repeat ((repeat (first | refine AL.seq ?_ | refine AL.block ?_ | refine AL.skip ?_ | refine AL.blk ?_)); (refine AL.region follows_Tryz (Nat.le_refl _) (by kernel_rfl) ?_); simp)
  refine Stop.of_d (hg _ _) ?_
  simp
  try (simp)
  repeat ((repeat (first | refine AL.seq ?_ | refine AL.block ?_ | refine AL.skip ?_ | refine AL.blk ?_)); (refine AL.region follows_Tryz (Nat.le_refl _) (by kernel_rfl) ?_); simp)
  by_cases h0 : validG a = 0
  · simp only [h0]
    repeat (first | refine AL.seq ?_ | refine AL.block ?_ | refine AL.skip ?_ | refine AL.blk ?_)
    refine AL.cond ?_
    simp
    try (simp)
    repeat ((repeat (first | refine AL.seq ?_ | refine AL.block ?_ | refine AL.skip ?_ | refine AL.blk ?_)); (refine AL.region follows_Tryz (Nat.le_refl _) (by kernel_rfl) ?_); simp)
    refine Stop.of_d (ho _ _) ?_
    simp
    try (simp)
    repeat ((repeat (first | refine AL.seq ?_ | refine AL.block ?_ | refine AL.skip ?_ | refine AL.blk ?_)); (refine AL.region follows_Tryz (Nat.le_refl _) (by kernel_rfl) ?_); simp)
    by_cases h1 : c.ovr a = 0
    · simp only [h1]
      repeat (first | refine AL.seq ?_ | refine AL.block ?_ | refine AL.skip ?_ | refine AL.blk ?_)
      refine AL.cond ?_
      simp
      try (simp)
      repeat ((repeat (first | refine AL.seq ?_ | refine AL.block ?_ | refine AL.skip ?_ | refine AL.blk ?_)); (refine AL.region follows_Tryz (Nat.le_refl _) (by kernel_rfl) ?_); simp)
      refine Stop.of_d (hs _ _) ?_
      simp
      try (simp)
      repeat ((repeat (first | refine AL.seq ?_ | refine AL.block ?_ | refine AL.skip ?_ | refine AL.blk ?_)); (refine AL.region follows_Tryz (Nat.le_refl _) (by kernel_rfl) ?_); simp)
      repeat (first | refine AL.seq ?_ | refine AL.block ?_ | refine AL.skip ?_ | refine AL.blk ?_)
      refine AL.ret ?_
      try simp only [AU]
      refine ⟨by simp, Fin.data (by simp [resAs, resA]; rfl) hbox rfl htok (fun _ h => h) (Nat.le_refl _) ?_⟩
      simp [packA, validC, h0, h1]
    · have b1 : (c.ovr a != 0) = true := by simp [h1]
      simp only [b1]
      repeat (first | refine AL.seq ?_ | refine AL.block ?_ | refine AL.skip ?_ | refine AL.blk ?_)
      refine AL.cond ?_
      simp
      try (simp)
      repeat ((repeat (first | refine AL.seq ?_ | refine AL.block ?_ | refine AL.skip ?_ | refine AL.blk ?_)); (refine AL.region follows_Tryz (Nat.le_refl _) (by kernel_rfl) ?_); simp)
      repeat (first | refine AL.seq ?_ | refine AL.block ?_ | refine AL.skip ?_ | refine AL.blk ?_)
      refine AL.ret ?_
      try simp only [AU]
      refine ⟨by simp, Fin.data (by simp [resAs, resA]; rfl) hbox rfl htok (fun _ h => h) (Nat.le_refl _) ?_⟩
      simp [packA, validC, h0, h1]
  · have b0 : (validG a != 0) = true := by simp [h0]
    simp only [b0]
    repeat (first | refine AL.seq ?_ | refine AL.block ?_ | refine AL.skip ?_ | refine AL.blk ?_)
    refine AL.cond ?_
    simp
    try (simp)
    repeat ((repeat (first | refine AL.seq ?_ | refine AL.block ?_ | refine AL.skip ?_ | refine AL.blk ?_)); (refine AL.region follows_Tryz (Nat.le_refl _) (by kernel_rfl) ?_); simp)
    repeat (first | refine AL.seq ?_ | refine AL.block ?_ | refine AL.skip ?_ | refine AL.blk ?_)
    refine AL.ret ?_
    try simp only [AU]
    refine ⟨by simp, Fin.data (by simp [resAs, resA]; rfl) hbox rfl htok (fun _ h => h) (Nat.le_refl _) ?_⟩
    simp [packA, validC, h0]

def arrR (a b : Gr) (m : Mo) : Int := if validM a b m ≠ 0 then validM a b m else if injM a b m = true then 0 else 1
theorem cdInj_c (a b : Gr) (m : Mo) (ha : a.Fit) (hb : b.Fit) (hm : m.Fit) (tok : Nat → Bool) (nt : Nat) : DCall Tryz.prog 28 [a.av, b.av, m.av] tok nt (I (arrR a b m)) tok nt := by
  intro box nb
  have hva := valid51_c a b m ha hb
  have hin := injective56_c a b m ha hb hm
  refine ACalls.of_body Tryz.func28 rfl (by kernel_rfl) follows_Tryz (by kernel_rfl) (by simp [Tryz.ntmps28]) ?_
  intro hbox htok
  simp only at hbox htok
  apply AL.start
  try (simp)
  repeat ((repeat (first | refine AL.seq ?_ | refine AL.block ?_ | refine AL.skip ?_ | refine AL.blk ?_)); (refine AL.region follows_Tryz (Nat.le_refl _) (by kernel_rfl) ?_); simp)
  refine Stop.of_d (hva _ _) ?_
  simp
  try (simp)
  repeat ((repeat (first | refine AL.seq ?_ | refine AL.block ?_ | refine AL.skip ?_ | refine AL.blk ?_)); (refine AL.region follows_Tryz (Nat.le_refl _) (by kernel_rfl) ?_); simp)
  by_cases h0 : validM a b m = 0
  · simp only [h0]
    repeat (first | refine AL.seq ?_ | refine AL.block ?_ | refine AL.skip ?_ | refine AL.blk ?_)
    refine AL.cond ?_
    simp
    try (simp)
    repeat ((repeat (first | refine AL.seq ?_ | refine AL.block ?_ | refine AL.skip ?_ | refine AL.blk ?_)); (refine AL.region follows_Tryz (Nat.le_refl _) (by kernel_rfl) ?_); simp)
    refine Stop.of_d (hin _ _) ?_
    simp
    cases h1 : injM a b m
    · repeat (first | refine AL.seq ?_ | refine AL.block ?_ | refine AL.skip ?_ | refine AL.blk ?_)
      refine AL.cond ?_
      simp
      try (simp)
      repeat ((repeat (first | refine AL.seq ?_ | refine AL.block ?_ | refine AL.skip ?_ | refine AL.blk ?_)); (refine AL.region follows_Tryz (Nat.le_refl _) (by kernel_rfl) ?_); simp)
      repeat (first | refine AL.seq ?_ | refine AL.block ?_ | refine AL.skip ?_ | refine AL.blk ?_)
      refine AL.ret ?_
      try simp only [AU]
      refine ⟨by simp, Fin.data (by simp [resAs, resA]; rfl) hbox rfl htok (fun _ h => h) (Nat.le_refl _) ?_⟩
      simp [packA, arrR, h0, h1]
    · repeat (first | refine AL.seq ?_ | refine AL.block ?_ | refine AL.skip ?_ | refine AL.blk ?_)
      refine AL.cond ?_
      simp
      try (simp)
      repeat ((repeat (first | refine AL.seq ?_ | refine AL.block ?_ | refine AL.skip ?_ | refine AL.blk ?_)); (refine AL.region follows_Tryz (Nat.le_refl _) (by kernel_rfl) ?_); simp)
      repeat (first | refine AL.seq ?_ | refine AL.block ?_ | refine AL.skip ?_ | refine AL.blk ?_)
      refine AL.ret ?_
      try simp only [AU]
      refine ⟨by simp, Fin.data (by simp [resAs, resA]; rfl) hbox rfl htok (fun _ h => h) (Nat.le_refl _) ?_⟩
      simp [packA, arrR, h0, h1]
  · have b0 : (validM a b m != 0) = true := by simp [h0]
    simp only [b0]
    repeat (first | refine AL.seq ?_ | refine AL.block ?_ | refine AL.skip ?_ | refine AL.blk ?_)
    refine AL.cond ?_
    simp
    try (simp)
    repeat ((repeat (first | refine AL.seq ?_ | refine AL.block ?_ | refine AL.skip ?_ | refine AL.blk ?_)); (refine AL.region follows_Tryz (Nat.le_refl _) (by kernel_rfl) ?_); simp)
    repeat (first | refine AL.seq ?_ | refine AL.block ?_ | refine AL.skip ?_ | refine AL.blk ?_)
    refine AL.ret ?_
    try simp only [AU]
    refine ⟨by simp, Fin.data (by simp [resAs, resA]; rfl) hbox rfl htok (fun _ h => h) (Nat.le_refl _) ?_⟩
    simp [packA, arrR, h0]
end Go.AM
