import Derived.Test.YtgonmjghdkoekaaOm7
import Derived.Shelf.Sort.Plain
import Derived.Ground.Names2Prog
import Derived.Shelf.Slices.Clone
import Derived.Shelf.Slices.CompactI
import Derived.Shelf.Slices.In.SortNone
import Derived.Test.YtgonmjghdkoekaaProg
import Derived.Test.YtgonmjghdkoekaaChecked
import Derived.WalkKit
import Derived.Deep.LoopGhost
import Derived.Sort.OwnSortedInts
import Derived.Lib.OwnBridge
namespace Go.AM
open Go Go.Proofs
set_option linter.unusedSimpArgs false
set_option linter.unusedVariables false

def st53a (a b : Gr) (m : Mo) (nb : Nat) (box : Nat → Option (List (List AV))) (tok : Nat → Bool) (nt : Nat) (i : Nat) : AState :=
  ⟨tl [(3, .ptr (nb + 3) 0 0), (4, .ptr (nb + 4) 0 0), (5, .ptr (nb + 5) 0 0), (9, I i)],
    lb nb box [(3, [[.d (ints a.nodes), .d (AM.edges a.edges)]]), (4, [[.d (ints b.nodes), .d (AM.edges b.edges)]]), (5, [[.d (ints m.nodes), .d (ints m.edges)]])], tok, nt⟩

def st53b (a b : Gr) (m : Mo) (nb : Nat) (box : Nat → Option (List (List AV))) (tok : Nat → Bool) (nt : Nat) (i : Nat) : AState :=
  ⟨tl [(3, .ptr (nb + 3) 0 0), (4, .ptr (nb + 4) 0 0), (5, .ptr (nb + 5) 0 0), (10, I i)],
    lb nb box [(3, [[.d (ints a.nodes), .d (AM.edges a.edges)]]), (4, [[.d (ints b.nodes), .d (AM.edges b.edges)]]), (5, [[.d (ints m.nodes), .d (ints m.edges)]])], tok, nt⟩

theorem valid53_c (a b : Gr) (m : Mo) (ha : a.Fit) (hb : b.Fit) (tok : Nat → Bool) (nt : Nat) : DCall Try.prog 53 [a.av, b.av, m.av] tok nt (I (validM a b m)) tok nt := by
  intro box nb
  have han := ha.n
  have hae := ha.e
  have hbn := hb.n
  have hbe := hb.e
  refine ACalls.of_body Try.func53 rfl (by kernel_rfl) follows_Try (by kernel_rfl) (by simp [Try.ntmps53]) ?_
  intro hbox htok
  simp only at hbox htok
  apply AL.start
  repeat (first | refine AL.seq ?_ | refine AL.block ?_ | refine AL.skip ?_ | refine AL.blk ?_)
  refine AL.region follows_Try (Nat.le_refl _) (by kernel_rfl) ?_
  simp
  repeat (first | refine AL.seq ?_ | refine AL.block ?_ | refine AL.skip ?_ | refine AL.blk ?_)
  refine AL.region follows_Try (Nat.le_refl _) (by kernel_rfl) ?_
  simp
  refine Stop.of_d (valid05_c a ha _ _) ?_
  simp
  by_cases hva : validG a = 0
  · repeat (first | refine AL.seq ?_ | refine AL.block ?_ | refine AL.skip ?_ | refine AL.blk ?_)
    refine AL.region follows_Try (Nat.le_refl _) (by kernel_rfl) ?_
    simp [hva]
    repeat (first | refine AL.seq ?_ | refine AL.block ?_ | refine AL.skip ?_ | refine AL.blk ?_)
    refine AL.cond ?_
    simp
    repeat (first | refine AL.seq ?_ | refine AL.block ?_ | refine AL.skip ?_ | refine AL.blk ?_)
    refine AL.region follows_Try (Nat.le_refl _) (by kernel_rfl) ?_
    simp
    refine Stop.of_d (valid05_c b hb _ _) ?_
    simp
    by_cases hvb : validG b = 0
    · repeat (first | refine AL.seq ?_ | refine AL.block ?_ | refine AL.skip ?_ | refine AL.blk ?_)
      refine AL.region follows_Try (Nat.le_refl _) (by kernel_rfl) ?_
      simp [hvb]
      repeat (first | refine AL.seq ?_ | refine AL.block ?_ | refine AL.skip ?_ | refine AL.blk ?_)
      refine AL.cond ?_
      simp
      have hxa := validG_edges hva
      have hxb := validG_edges hvb
      repeat (first | refine AL.seq ?_ | refine AL.block ?_ | refine AL.skip ?_ | refine AL.blk ?_)
      refine AL.region follows_Try (Nat.le_refl _) (by kernel_rfl) ?_
      simp
      by_cases hl1 : m.nodes.length = a.nodes.length
      · simp [hl1]
        repeat (first | refine AL.seq ?_ | refine AL.block ?_ | refine AL.skip ?_ | refine AL.blk ?_)
        refine AL.cond ?_
        simp
        refine ⟨fun hl2 => ?_, fun hl2 => ?_⟩
        · repeat (first | refine AL.seq ?_ | refine AL.block ?_ | refine AL.skip ?_ | refine AL.blk ?_)
          refine AL.region follows_Try (Nat.le_refl _) (by kernel_rfl) ?_
          simp
          have hR : validM a b m = 20 := by
            have : ¬ m.edges.length = a.edges.length := by omega
            simp [validM, hva, hvb, this]
          repeat (first | refine AL.seq ?_ | refine AL.block ?_ | refine AL.skip ?_ | refine AL.blk ?_)
          refine AL.ret ?_
          try simp only [AU]
          refine ⟨by simp, Fin.data (by simp [resAs, resA]; rfl) hbox rfl htok (fun _ h => h) (Nat.le_refl _) ?_⟩
          simp [packA, hR]
        · repeat (first | refine AL.seq ?_ | refine AL.block ?_ | refine AL.skip ?_ | refine AL.blk ?_)
          refine AL.region follows_Try (Nat.le_refl _) (by kernel_rfl) ?_
          simp
          repeat (first | refine AL.seq ?_ | refine AL.block ?_ | refine AL.skip ?_ | refine AL.blk ?_)
          have hl2' : m.edges.length = a.edges.length := by omega
          have hRn : ∀ i, i < a.nodes.length → firstE (nodeE a b m) i = 0 → nodeE a b m i ≠ 0 → validM a b m = nodeE a b m i := fun i hi h0 hne => by
            have := firstE_stop h0 hne a.nodes.length hi
            simp [validM, hva, hvb, hl1, hl2', this, hne]
          refine AL.loopT (st53a a b m nb box tok nt) (fun i => i ≤ a.nodes.length ∧ firstE (nodeE a b m) i = 0) (fun i => a.nodes.length - i) 0 ⟨Nat.zero_le _, rfl⟩ (Weaks.mk (Nat.le_refl _) rfl (by simp [ToL, lk]) (by simp [BoxL, lk])) ?_
          rintro i S ⟨hi, hok⟩ hS
          simp only [st53a] at hS
          subst hS
          have hw : IntKind.i64.wrap (↑i + 1) = ((i + 1 : Nat) : Int) := by rw [wrap_in (by omega) (by omega)]; rfl
          repeat (first | refine AL.seq ?_ | refine AL.block ?_ | refine AL.skip ?_ | refine AL.blk ?_)
          refine AL.region follows_Try (Nat.le_refl _) (by kernel_rfl) ?_
          simp
          repeat (first | refine AL.seq ?_ | refine AL.block ?_ | refine AL.skip ?_ | refine AL.blk ?_)
          refine AL.cond ?_
          simp
          refine ⟨fun hlt => ?_, fun hge => ?_⟩
          · have hia : i < a.nodes.length := by omega
            have hlt : i < m.nodes.length := by omega
            have hgm : m.nodes.getD i 0 = m.nodes[i] := by simp [hlt]
            have hga : a.nodes.getD i 0 = a.nodes[i] := by simp [hia]
            repeat (first | refine AL.seq ?_ | refine AL.block ?_ | refine AL.skip ?_ | refine AL.blk ?_)
            refine AL.region follows_Try (Nat.le_refl _) (by kernel_rfl) ?_
            simp [hlt]
            by_cases hneg : m.nodes[i] < 0
            · simp [hneg, hlt]
              repeat (first | refine AL.seq ?_ | refine AL.block ?_ | refine AL.skip ?_ | refine AL.blk ?_)
              refine AL.cond ?_
              simp
              repeat (first | refine AL.seq ?_ | refine AL.block ?_ | refine AL.skip ?_ | refine AL.blk ?_)
              refine AL.region follows_Try (Nat.le_refl _) (by kernel_rfl) ?_
              simp
              have hN : nodeE a b m i = 6 := by simp only [nodeE, hgm]; rw [if_pos (.inl hneg)]
              have hR := hRn i hia hok (by rw [hN]; decide)
              repeat (first | refine AL.seq ?_ | refine AL.block ?_ | refine AL.skip ?_ | refine AL.blk ?_)
              refine AL.ret ?_
              try simp only [AU]
              refine ⟨by simp, Fin.data (by simp [resAs, resA]; rfl) hbox rfl htok (fun _ h => h) (Nat.le_refl _) ?_⟩
              simp [packA, hR, hN]
            · simp [hneg, hlt]
              repeat (first | refine AL.seq ?_ | refine AL.block ?_ | refine AL.skip ?_ | refine AL.blk ?_)
              refine AL.cond ?_
              simp
              refine ⟨fun hbig => ?_, fun hsm => ?_⟩
              · repeat (first | refine AL.seq ?_ | refine AL.block ?_ | refine AL.skip ?_ | refine AL.blk ?_)
                refine AL.region follows_Try (Nat.le_refl _) (by kernel_rfl) ?_
                simp
                have hN : nodeE a b m i = 6 := by simp only [nodeE, hgm]; rw [if_pos (.inr (by omega))]
                have hR := hRn i hia hok (by rw [hN]; decide)
                repeat (first | refine AL.seq ?_ | refine AL.block ?_ | refine AL.skip ?_ | refine AL.blk ?_)
                refine AL.ret ?_
                try simp only [AU]
                refine ⟨by simp, Fin.data (by simp [resAs, resA]; rfl) hbox rfl htok (fun _ h => h) (Nat.le_refl _) ?_⟩
                simp [packA, hR, hN]
              · have hkb : m.nodes[i].toNat < b.nodes.length := by omega
                have h0 : 0 ≤ m.nodes[i] := by omega
                have hgb : b.nodes.getD m.nodes[i].toNat 0 = b.nodes[m.nodes[i].toNat] := by simp [hkb]
                have hnb : ¬ (b.nodes.length : Int) ≤ m.nodes[i] := by omega
                repeat (first | refine AL.seq ?_ | refine AL.block ?_ | refine AL.skip ?_ | refine AL.blk ?_)
                refine AL.region follows_Try (Nat.le_refl _) (by kernel_rfl) ?_
                simp [hkb, h0, hsm, hia, hlt]
                repeat (first | refine AL.seq ?_ | refine AL.block ?_ | refine AL.skip ?_ | refine AL.blk ?_)
                refine AL.cond ?_
                simp
                refine ⟨fun hne => ?_, fun heq => ?_⟩
                · repeat (first | refine AL.seq ?_ | refine AL.block ?_ | refine AL.skip ?_ | refine AL.blk ?_)
                  refine AL.region follows_Try (Nat.le_refl _) (by kernel_rfl) ?_
                  simp
                  have hN : nodeE a b m i = 13 := by simp only [nodeE, hgm, hga, hgb]; rw [if_neg (by omega), if_neg hne]
                  have hR := hRn i hia hok (by rw [hN]; decide)
                  repeat (first | refine AL.seq ?_ | refine AL.block ?_ | refine AL.skip ?_ | refine AL.blk ?_)
                  refine AL.ret ?_
                  try simp only [AU]
                  refine ⟨by simp, Fin.data (by simp [resAs, resA]; rfl) hbox rfl htok (fun _ h => h) (Nat.le_refl _) ?_⟩
                  simp [packA, hR, hN]
                · repeat (first | refine AL.seq ?_ | refine AL.block ?_ | refine AL.skip ?_ | refine AL.blk ?_)
                  refine AL.region follows_Try (Nat.le_refl _) (by kernel_rfl) ?_
                  simp [hw]
                  repeat (first | refine AL.seq ?_ | refine AL.block ?_ | refine AL.skip ?_ | refine AL.blk ?_)
                  refine AL.nil ?_
                  refine ⟨i + 1, ⟨hia, ?_⟩, by omega, Weaks.mk (Nat.le_refl _) rfl (by simp [ToL, lk]) (by simp [BoxL, lk])⟩
                  have hN : nodeE a b m i = 0 := by simp only [nodeE, hgm, hga, hgb]; rw [if_neg (by omega), if_pos heq]
                  simp only [firstE, hok, hN, ↓reduceIte]
          · repeat (first | refine AL.seq ?_ | refine AL.block ?_ | refine AL.skip ?_ | refine AL.blk ?_)
            refine AL.exit ?_
            simp only [AU, ↓reduceIte]
            have hin : i = a.nodes.length := by omega
            subst hin
            repeat (first | refine AL.seq ?_ | refine AL.block ?_ | refine AL.skip ?_ | refine AL.blk ?_)
            refine AL.region follows_Try (Nat.le_refl _) (by kernel_rfl) ?_
            simp
            repeat (first | refine AL.seq ?_ | refine AL.block ?_ | refine AL.skip ?_ | refine AL.blk ?_)
            have hRe : ∀ i, i < a.edges.length → firstE (edgeE a b m) i = 0 → edgeE a b m i ≠ 0 → validM a b m = edgeE a b m i := fun i hi h0 hne => by
              have := firstE_stop h0 hne a.edges.length hi
              simp [validM, hva, hvb, hl1, hl2', hok, this]
            refine AL.loopT (st53b a b m nb box tok nt) (fun i => i ≤ a.edges.length ∧ firstE (edgeE a b m) i = 0) (fun i => a.edges.length - i) 0 ⟨Nat.zero_le _, rfl⟩ (Weaks.mk (Nat.le_refl _) rfl (by simp [ToL, lk]) (by simp [BoxL, lk])) ?_
            rintro i S ⟨hi, hoke⟩ hS
            simp only [st53b] at hS
            subst hS
            have hw : IntKind.i64.wrap (↑i + 1) = ((i + 1 : Nat) : Int) := by rw [wrap_in (by omega) (by omega)]; rfl
            repeat (first | refine AL.seq ?_ | refine AL.block ?_ | refine AL.skip ?_ | refine AL.blk ?_)
            refine AL.region follows_Try (Nat.le_refl _) (by kernel_rfl) ?_
            simp
            repeat (first | refine AL.seq ?_ | refine AL.block ?_ | refine AL.skip ?_ | refine AL.blk ?_)
            refine AL.cond ?_
            simp
            refine ⟨fun hlt => ?_, fun hge => ?_⟩
            · have hia : i < a.edges.length := by omega
              have hlt : i < m.edges.length := by omega
              have hgm : m.edges.getD i 0 = m.edges[i] := by simp [hlt]
              have hga : a.edges.getD i default = a.edges[i] := by simp [hia]
              obtain ⟨x1, x2, x3, x4⟩ := hxa _ (List.getElem_mem hia)
              rw [← hl1] at x2 x4
              have y1 : a.edges[i].fr.toNat < m.nodes.length := by omega
              have y2 : a.edges[i].to.toNat < m.nodes.length := by omega
              have hg1 : m.nodes.getD a.edges[i].fr.toNat 0 = m.nodes[a.edges[i].fr.toNat] := by simp [y1]
              have hg2 : m.nodes.getD a.edges[i].to.toNat 0 = m.nodes[a.edges[i].to.toNat] := by simp [y2]
              repeat (first | refine AL.seq ?_ | refine AL.block ?_ | refine AL.skip ?_ | refine AL.blk ?_)
              refine AL.region follows_Try (Nat.le_refl _) (by kernel_rfl) ?_
              simp [hlt]
              by_cases hneg : m.edges[i] < 0
              · simp [hneg, hlt]
                repeat (first | refine AL.seq ?_ | refine AL.block ?_ | refine AL.skip ?_ | refine AL.blk ?_)
                refine AL.cond ?_
                simp
                repeat (first | refine AL.seq ?_ | refine AL.block ?_ | refine AL.skip ?_ | refine AL.blk ?_)
                refine AL.region follows_Try (Nat.le_refl _) (by kernel_rfl) ?_
                simp
                have hN : edgeE a b m i = 6 := by simp only [edgeE, hgm]; rw [if_pos (.inl hneg)]
                have hR := hRe i hia hoke (by rw [hN]; decide)
                repeat (first | refine AL.seq ?_ | refine AL.block ?_ | refine AL.skip ?_ | refine AL.blk ?_)
                refine AL.ret ?_
                try simp only [AU]
                refine ⟨by simp, Fin.data (by simp [resAs, resA]; rfl) hbox rfl htok (fun _ h => h) (Nat.le_refl _) ?_⟩
                simp [packA, hR, hN]
              · simp [hneg, hlt]
                repeat (first | refine AL.seq ?_ | refine AL.block ?_ | refine AL.skip ?_ | refine AL.blk ?_)
                refine AL.cond ?_
                simp
                refine ⟨fun hbig => ?_, fun hsm => ?_⟩
                · repeat (first | refine AL.seq ?_ | refine AL.block ?_ | refine AL.skip ?_ | refine AL.blk ?_)
                  refine AL.region follows_Try (Nat.le_refl _) (by kernel_rfl) ?_
                  simp
                  have hN : edgeE a b m i = 6 := by simp only [edgeE, hgm]; rw [if_pos (.inr (by omega))]
                  have hR := hRe i hia hoke (by rw [hN]; decide)
                  repeat (first | refine AL.seq ?_ | refine AL.block ?_ | refine AL.skip ?_ | refine AL.blk ?_)
                  refine AL.ret ?_
                  try simp only [AU]
                  refine ⟨by simp, Fin.data (by simp [resAs, resA]; rfl) hbox rfl htok (fun _ h => h) (Nat.le_refl _) ?_⟩
                  simp [packA, hR, hN]
                · have hkb : m.edges[i].toNat < b.edges.length := by omega
                  have h0 : 0 ≤ m.edges[i] := by omega
                  have hgb : b.edges.getD m.edges[i].toNat default = b.edges[m.edges[i].toNat] := by simp [hkb]
                  have hnn : ¬ (m.edges[i] < 0 ∨ (b.edges.length : Int) ≤ m.edges[i]) := by omega
                  repeat (first | refine AL.seq ?_ | refine AL.block ?_ | refine AL.skip ?_ | refine AL.blk ?_)
                  refine AL.region2 follows_Try (Nat.le_refl _) (by kernel_rfl) (Side.of (by simp)) ?_
                  simp [hkb, h0, hsm, hia, hlt]
                  generalize hy : b.edges[m.edges[i].toNat] = y at *
                  repeat (first | refine AL.seq ?_ | refine AL.block ?_ | refine AL.skip ?_ | refine AL.blk ?_)
                  refine AL.region follows_Try (Nat.le_refl _) (by kernel_rfl) ?_
                  simp
                  repeat (first | refine AL.seq ?_ | refine AL.block ?_ | refine AL.skip ?_ | refine AL.blk ?_)
                  refine AL.cond ?_
                  simp
                  refine ⟨fun hty => ?_, fun hty => ?_⟩
                  · repeat (first | refine AL.seq ?_ | refine AL.block ?_ | refine AL.skip ?_ | refine AL.blk ?_)
                    refine AL.region follows_Try (Nat.le_refl _) (by kernel_rfl) ?_
                    simp
                    have hN : edgeE a b m i = 13 := by simp only [edgeE, hgm, hga, hgb]; rw [if_neg hnn, if_pos hty]
                    have hR := hRe i hia hoke (by rw [hN]; decide)
                    repeat (first | refine AL.seq ?_ | refine AL.block ?_ | refine AL.skip ?_ | refine AL.blk ?_)
                    refine AL.ret ?_
                    try simp only [AU]
                    refine ⟨by simp, Fin.data (by simp [resAs, resA]; rfl) hbox rfl htok (fun _ h => h) (Nat.le_refl _) ?_⟩
                    simp [packA, hR, hN]
                  · repeat (first | refine AL.seq ?_ | refine AL.block ?_ | refine AL.skip ?_ | refine AL.blk ?_)
                    refine AL.region follows_Try (Nat.le_refl _) (by kernel_rfl) ?_
                    simp [x1, x2, x3, x4, y1, y2]
                    by_cases hfr : m.nodes[a.edges[i].fr.toNat] = y.fr
                    · have hb1 : (m.nodes[a.edges[i].fr.toNat] != y.fr) = false := by simp [hfr]
                      simp only [hb1]
                      simp [x1, x2, x3, x4, y1, y2]
                      repeat (first | refine AL.seq ?_ | refine AL.block ?_ | refine AL.skip ?_ | refine AL.blk ?_)
                      refine AL.cond ?_
                      simp
                      refine ⟨fun hto => ?_, fun hto => ?_⟩
                      · repeat (first | refine AL.seq ?_ | refine AL.block ?_ | refine AL.skip ?_ | refine AL.blk ?_)
                        refine AL.region follows_Try (Nat.le_refl _) (by kernel_rfl) ?_
                        simp
                        have hN : edgeE a b m i = 11 := by simp only [edgeE, hgm, hga, hgb, hg1, hg2]; rw [if_neg hnn, if_neg (by simp [hty]), if_pos (.inr hto)]
                        have hR := hRe i hia hoke (by rw [hN]; decide)
                        repeat (first | refine AL.seq ?_ | refine AL.block ?_ | refine AL.skip ?_ | refine AL.blk ?_)
                        refine AL.ret ?_
                        try simp only [AU]
                        refine ⟨by simp, Fin.data (by simp [resAs, resA]; rfl) hbox rfl htok (fun _ h => h) (Nat.le_refl _) ?_⟩
                        simp [packA, hR, hN]
                      · repeat (first | refine AL.seq ?_ | refine AL.block ?_ | refine AL.skip ?_ | refine AL.blk ?_)
                        refine AL.region follows_Try (Nat.le_refl _) (by kernel_rfl) ?_
                        simp [hw]
                        repeat (first | refine AL.seq ?_ | refine AL.block ?_ | refine AL.skip ?_ | refine AL.blk ?_)
                        refine AL.nil ?_
                        refine ⟨i + 1, ⟨hia, ?_⟩, by omega, Weaks.mk (Nat.le_refl _) rfl (by simp [ToL, lk]) (by simp [BoxL, lk])⟩
                        have hN : edgeE a b m i = 0 := by simp only [edgeE, hgm, hga, hgb, hg1, hg2]; rw [if_neg hnn, if_neg (by simp [hty]), if_neg (by simp [hfr, hto])]
                        simp only [firstE, hoke, hN, ↓reduceIte]
                    · have hb1 : (m.nodes[a.edges[i].fr.toNat] != y.fr) = true := by simp [hfr]
                      simp only [hb1]
                      simp
                      repeat (first | refine AL.seq ?_ | refine AL.block ?_ | refine AL.skip ?_ | refine AL.blk ?_)
                      refine AL.cond ?_
                      simp
                      repeat (first | refine AL.seq ?_ | refine AL.block ?_ | refine AL.skip ?_ | refine AL.blk ?_)
                      refine AL.region follows_Try (Nat.le_refl _) (by kernel_rfl) ?_
                      simp
                      have hN : edgeE a b m i = 11 := by simp only [edgeE, hgm, hga, hgb, hg1, hg2]; rw [if_neg hnn, if_neg (by simp [hty]), if_pos (.inl hfr)]
                      have hR := hRe i hia hoke (by rw [hN]; decide)
                      repeat (first | refine AL.seq ?_ | refine AL.block ?_ | refine AL.skip ?_ | refine AL.blk ?_)
                      refine AL.ret ?_
                      try simp only [AU]
                      refine ⟨by simp, Fin.data (by simp [resAs, resA]; rfl) hbox rfl htok (fun _ h => h) (Nat.le_refl _) ?_⟩
                      simp [packA, hR, hN]
            · repeat (first | refine AL.seq ?_ | refine AL.block ?_ | refine AL.skip ?_ | refine AL.blk ?_)
              refine AL.exit ?_
              simp only [AU, ↓reduceIte]
              have hin : i = a.edges.length := by omega
              subst hin
              repeat (first | refine AL.seq ?_ | refine AL.block ?_ | refine AL.skip ?_ | refine AL.blk ?_)
              refine AL.region follows_Try (Nat.le_refl _) (by kernel_rfl) ?_
              simp
              have hR : validM a b m = 0 := by simp [validM, hva, hvb, hl1, hl2', hok, hoke]
              repeat (first | refine AL.seq ?_ | refine AL.block ?_ | refine AL.skip ?_ | refine AL.blk ?_)
              refine AL.ret ?_
              try simp only [AU]
              refine ⟨by simp, Fin.data (by simp [resAs, resA]; rfl) hbox rfl htok (fun _ h => h) (Nat.le_refl _) ?_⟩
              simp [packA, hR]
      · have hb1 : ((m.nodes.length : Int) != (a.nodes.length : Int)) = true := by simp; omega
        simp only [hb1]
        simp
        repeat (first | refine AL.seq ?_ | refine AL.block ?_ | refine AL.skip ?_ | refine AL.blk ?_)
        refine AL.cond ?_
        simp
        repeat (first | refine AL.seq ?_ | refine AL.block ?_ | refine AL.skip ?_ | refine AL.blk ?_)
        refine AL.region follows_Try (Nat.le_refl _) (by kernel_rfl) ?_
        simp
        have hR : validM a b m = 20 := by simp [validM, hva, hvb, hl1]
        repeat (first | refine AL.seq ?_ | refine AL.block ?_ | refine AL.skip ?_ | refine AL.blk ?_)
        refine AL.ret ?_
        try simp only [AU]
        refine ⟨by simp, Fin.data (by simp [resAs, resA]; rfl) hbox rfl htok (fun _ h => h) (Nat.le_refl _) ?_⟩
        simp [packA, hR]
    · repeat (first | refine AL.seq ?_ | refine AL.block ?_ | refine AL.skip ?_ | refine AL.blk ?_)
      refine AL.region follows_Try (Nat.le_refl _) (by kernel_rfl) ?_
      simp
      repeat (first | refine AL.seq ?_ | refine AL.block ?_ | refine AL.skip ?_ | refine AL.blk ?_)
      refine AL.cond ?_
      simp [hvb]
      repeat (first | refine AL.seq ?_ | refine AL.block ?_ | refine AL.skip ?_ | refine AL.blk ?_)
      refine AL.region follows_Try (Nat.le_refl _) (by kernel_rfl) ?_
      simp
      repeat (first | refine AL.seq ?_ | refine AL.block ?_ | refine AL.skip ?_ | refine AL.blk ?_)
      refine AL.ret ?_
      try simp only [AU]
      refine ⟨by simp, Fin.data (by simp [resAs, resA]; rfl) hbox rfl htok (fun _ h => h) (Nat.le_refl _) ?_⟩
      simp [packA, validM, hva, hvb]
  · repeat (first | refine AL.seq ?_ | refine AL.block ?_ | refine AL.skip ?_ | refine AL.blk ?_)
    refine AL.region follows_Try (Nat.le_refl _) (by kernel_rfl) ?_
    simp
    repeat (first | refine AL.seq ?_ | refine AL.block ?_ | refine AL.skip ?_ | refine AL.blk ?_)
    refine AL.cond ?_
    simp [hva]
    repeat (first | refine AL.seq ?_ | refine AL.block ?_ | refine AL.skip ?_ | refine AL.blk ?_)
    refine AL.region follows_Try (Nat.le_refl _) (by kernel_rfl) ?_
    simp
    repeat (first | refine AL.seq ?_ | refine AL.block ?_ | refine AL.skip ?_ | refine AL.blk ?_)
    refine AL.ret ?_
    try simp only [AU]
    refine ⟨by simp, Fin.data (by simp [resAs, resA]; rfl) hbox rfl htok (fun _ h => h) (Nat.le_refl _) ?_⟩
    simp [packA, validM, hva]
end Go.AM
namespace Go.AM
open Go Go.Proofs
set_option linter.unusedSimpArgs false
set_option linter.unusedVariables false

/-! ### covered, covers, Few, Jointly -/
def covK (l k : List Int) (i : Nat) : Bool := (List.range i).all fun j => decide ((j : Int) ∈ l) || decide ((j : Int) ∈ k)
theorem covK_succ (l k : List Int) (i : Nat) : covK l k (i + 1) = (covK l k i && (decide ((i : Int) ∈ l) || decide ((i : Int) ∈ k))) := by
  simp [covK, List.range_succ]
theorem covK_stop {l k : List Int} {i n : Nat} (hi : i < n) (h1 : ¬ (i : Int) ∈ l) (h2 : ¬ (i : Int) ∈ k) : covK l k n = false := by
  unfold covK
  rw [List.all_eq_false]
  exact ⟨i, by simp [hi], by simp [h1, h2]⟩

def st52 (l k : List Int) (n : Nat) (nb : Nat) (box : Nat → Option (List (List AV))) (tok : Nat → Bool) (nt : Nat) (i : Nat) : AState := ⟨tl [(1, .d (ints l)), (2, .d (ints k)), (8, I n), (9, I i)], lb nb box [], tok, nt⟩

theorem covered52_c (l k : List Int) (n : Nat) (hl : l.length ≤ 1000000) (hk : k.length ≤ 1000000) (hn : n ≤ 1000000) (tok : Nat → Bool) (nt : Nat) : DCall Try.prog 52 [I n, .d (ints l), .d (ints k)] tok nt (B (covK l k n)) tok nt := by
  intro box nb
  refine ACalls.of_body Try.func52 rfl (by kernel_rfl) follows_Try (by kernel_rfl) (by simp [Try.ntmps52]) ?_
  intro hbox htok
  simp only at hbox htok
  apply AL.start
  repeat (first | refine AL.seq ?_ | refine AL.block ?_ | refine AL.skip ?_ | refine AL.blk ?_)
  refine AL.region follows_Try (Nat.le_refl _) (by kernel_rfl) ?_
  simp
  repeat (first | refine AL.seq ?_ | refine AL.block ?_ | refine AL.skip ?_ | refine AL.blk ?_)
  refine AL.region follows_Try (Nat.le_refl _) (by kernel_rfl) ?_
  simp
  repeat (first | refine AL.seq ?_ | refine AL.block ?_ | refine AL.skip ?_ | refine AL.blk ?_)
  refine AL.loopT (st52 l k n nb box tok nt) (fun i => i ≤ n ∧ covK l k i = true) (fun i => n - i) 0 ⟨Nat.zero_le _, rfl⟩ (Weaks.mk (Nat.le_refl _) rfl (by simp [ToL]) trivial) ?_
  rintro i S ⟨hi, htk⟩ hS
  simp only [st52] at hS
  subst hS
  have hw : IntKind.i64.wrap (↑i + 1) = ((i + 1 : Nat) : Int) := by rw [wrap_in (by omega) (by omega)]; rfl
  repeat (first | refine AL.seq ?_ | refine AL.block ?_ | refine AL.skip ?_ | refine AL.blk ?_)
  refine AL.region follows_Try (Nat.le_refl _) (by kernel_rfl) ?_
  simp
  repeat (first | refine AL.seq ?_ | refine AL.block ?_ | refine AL.skip ?_ | refine AL.blk ?_)
  refine AL.cond ?_
  simp
  refine ⟨fun hlt => ?_, fun hge => ?_⟩
  · repeat (first | refine AL.seq ?_ | refine AL.block ?_ | refine AL.skip ?_ | refine AL.blk ?_)
    refine AL.region follows_Try (Nat.le_refl _) (by kernel_rfl) ?_
    simp
    repeat (first | refine AL.seq ?_ | refine AL.block ?_ | refine AL.skip ?_ | refine AL.blk ?_)
    refine AL.region follows_Try (Nat.le_refl _) (by kernel_rfl) ?_
    simp
    refine Stop.of_d (contains_c l i hl _ _) ?_
    simp
    by_cases h1 : (i : Int) ∈ l
    · simp [h1]
      repeat (first | refine AL.seq ?_ | refine AL.block ?_ | refine AL.skip ?_ | refine AL.blk ?_)
      refine AL.cond ?_
      simp
      repeat (first | refine AL.seq ?_ | refine AL.block ?_ | refine AL.skip ?_ | refine AL.blk ?_)
      refine AL.region follows_Try (Nat.le_refl _) (by kernel_rfl) ?_
      simp [hw]
      repeat (first | refine AL.seq ?_ | refine AL.block ?_ | refine AL.skip ?_ | refine AL.blk ?_)
      refine AL.nil ?_
      refine ⟨i + 1, ⟨hlt, ?_⟩, by omega, Weaks.mk (Nat.le_refl _) rfl (by simp [ToL]) trivial⟩
      rw [covK_succ, htk]; simp [h1]
    · simp [h1]
      refine Stop.of_d (contains_c k i hk _ _) ?_
      simp [h1]
      by_cases h2 : (i : Int) ∈ k
      · simp [h2]
        repeat (first | refine AL.seq ?_ | refine AL.block ?_ | refine AL.skip ?_ | refine AL.blk ?_)
        refine AL.cond ?_
        simp
        repeat (first | refine AL.seq ?_ | refine AL.block ?_ | refine AL.skip ?_ | refine AL.blk ?_)
        refine AL.region follows_Try (Nat.le_refl _) (by kernel_rfl) ?_
        simp [hw]
        repeat (first | refine AL.seq ?_ | refine AL.block ?_ | refine AL.skip ?_ | refine AL.blk ?_)
        refine AL.nil ?_
        refine ⟨i + 1, ⟨hlt, ?_⟩, by omega, Weaks.mk (Nat.le_refl _) rfl (by simp [ToL]) trivial⟩
        rw [covK_succ, htk]; simp [h2]
      · simp [h2]
        repeat (first | refine AL.seq ?_ | refine AL.block ?_ | refine AL.skip ?_ | refine AL.blk ?_)
        refine AL.cond ?_
        simp
        repeat (first | refine AL.seq ?_ | refine AL.block ?_ | refine AL.skip ?_ | refine AL.blk ?_)
        refine AL.region follows_Try (Nat.le_refl _) (by kernel_rfl) ?_
        simp
        have hR := covK_stop hlt h1 h2
        repeat (first | refine AL.seq ?_ | refine AL.block ?_ | refine AL.skip ?_ | refine AL.blk ?_)
        refine AL.ret ?_
        try simp only [AU]
        refine ⟨by simp, Fin.data (by simp [resAs, resA]; rfl) hbox rfl htok (fun _ h => h) (Nat.le_refl _) ?_⟩
        simp [packA, hR]
  · repeat (first | refine AL.seq ?_ | refine AL.block ?_ | refine AL.skip ?_ | refine AL.blk ?_)
    refine AL.exit ?_
    simp only [AU, ↓reduceIte]
    have : i = n := by omega
    subst this
    repeat (first | refine AL.seq ?_ | refine AL.block ?_ | refine AL.skip ?_ | refine AL.blk ?_)
    refine AL.region follows_Try (Nat.le_refl _) (by kernel_rfl) ?_
    simp
    repeat (first | refine AL.seq ?_ | refine AL.block ?_ | refine AL.skip ?_ | refine AL.blk ?_)
    refine AL.ret ?_
    try simp only [AU]
    refine ⟨by simp, Fin.data (by simp [resAs, resA]; rfl) hbox rfl htok (fun _ h => h) (Nat.le_refl _) ?_⟩
    simp [packA, htk]

def st54 (l k : List Int) (n : Nat) (nb : Nat) (box : Nat → Option (List (List AV))) (tok : Nat → Bool) (nt : Nat) (i : Nat) : AState := ⟨tl [(0, .d (ints l)), (1, .d (ints k)), (2, I n), (7, I i)], lb nb box [], tok, nt⟩

theorem covers54_c (l k : List Int) (n : Nat) (hl : l.length ≤ 1000000) (hk : k.length ≤ 1000000) (hn : n ≤ 1000000) (tok : Nat → Bool) (nt : Nat) : DCall Try.prog 54 [.d (ints l), .d (ints k), I n] tok nt (B (covK l k n)) tok nt := by
  intro box nb
  refine ACalls.of_body Try.func54 rfl (by kernel_rfl) follows_Try (by kernel_rfl) (by simp [Try.ntmps54]) ?_
  intro hbox htok
  simp only at hbox htok
  apply AL.start
  repeat (first | refine AL.seq ?_ | refine AL.block ?_ | refine AL.skip ?_ | refine AL.blk ?_)
  refine AL.region follows_Try (Nat.le_refl _) (by kernel_rfl) ?_
  simp
  repeat (first | refine AL.seq ?_ | refine AL.block ?_ | refine AL.skip ?_ | refine AL.blk ?_)
  refine AL.region follows_Try (Nat.le_refl _) (by kernel_rfl) ?_
  simp
  repeat (first | refine AL.seq ?_ | refine AL.block ?_ | refine AL.skip ?_ | refine AL.blk ?_)
  refine AL.loopT (st54 l k n nb box tok nt) (fun i => i ≤ n ∧ covK l k i = true) (fun i => n - i) 0 ⟨Nat.zero_le _, rfl⟩ (Weaks.mk (Nat.le_refl _) rfl (by simp [ToL]) trivial) ?_
  rintro i S ⟨hi, htk⟩ hS
  simp only [st54] at hS
  subst hS
  have hw : IntKind.i64.wrap (↑i + 1) = ((i + 1 : Nat) : Int) := by rw [wrap_in (by omega) (by omega)]; rfl
  repeat (first | refine AL.seq ?_ | refine AL.block ?_ | refine AL.skip ?_ | refine AL.blk ?_)
  refine AL.region follows_Try (Nat.le_refl _) (by kernel_rfl) ?_
  simp
  repeat (first | refine AL.seq ?_ | refine AL.block ?_ | refine AL.skip ?_ | refine AL.blk ?_)
  refine AL.cond ?_
  simp
  refine ⟨fun hlt => ?_, fun hge => ?_⟩
  · repeat (first | refine AL.seq ?_ | refine AL.block ?_ | refine AL.skip ?_ | refine AL.blk ?_)
    refine AL.region follows_Try (Nat.le_refl _) (by kernel_rfl) ?_
    simp
    refine Stop.of_d (in_c l i hl _ _) ?_
    simp
    by_cases h1 : (i : Int) ∈ l
    · simp [h1]
      repeat (first | refine AL.seq ?_ | refine AL.block ?_ | refine AL.skip ?_ | refine AL.blk ?_)
      refine AL.cond ?_
      simp
      repeat (first | refine AL.seq ?_ | refine AL.block ?_ | refine AL.skip ?_ | refine AL.blk ?_)
      refine AL.region follows_Try (Nat.le_refl _) (by kernel_rfl) ?_
      simp [hw]
      repeat (first | refine AL.seq ?_ | refine AL.block ?_ | refine AL.skip ?_ | refine AL.blk ?_)
      refine AL.nil ?_
      refine ⟨i + 1, ⟨hlt, ?_⟩, by omega, Weaks.mk (Nat.le_refl _) rfl (by simp [ToL]) trivial⟩
      rw [covK_succ, htk]; simp [h1]
    · simp [h1]
      refine Stop.of_d (in_c k i hk _ _) ?_
      simp [h1]
      by_cases h2 : (i : Int) ∈ k
      · simp [h2]
        repeat (first | refine AL.seq ?_ | refine AL.block ?_ | refine AL.skip ?_ | refine AL.blk ?_)
        refine AL.cond ?_
        simp
        repeat (first | refine AL.seq ?_ | refine AL.block ?_ | refine AL.skip ?_ | refine AL.blk ?_)
        refine AL.region follows_Try (Nat.le_refl _) (by kernel_rfl) ?_
        simp [hw]
        repeat (first | refine AL.seq ?_ | refine AL.block ?_ | refine AL.skip ?_ | refine AL.blk ?_)
        refine AL.nil ?_
        refine ⟨i + 1, ⟨hlt, ?_⟩, by omega, Weaks.mk (Nat.le_refl _) rfl (by simp [ToL]) trivial⟩
        rw [covK_succ, htk]; simp [h2]
      · simp [h2]
        repeat (first | refine AL.seq ?_ | refine AL.block ?_ | refine AL.skip ?_ | refine AL.blk ?_)
        refine AL.cond ?_
        simp
        repeat (first | refine AL.seq ?_ | refine AL.block ?_ | refine AL.skip ?_ | refine AL.blk ?_)
        refine AL.region follows_Try (Nat.le_refl _) (by kernel_rfl) ?_
        simp
        have hR := covK_stop hlt h1 h2
        repeat (first | refine AL.seq ?_ | refine AL.block ?_ | refine AL.skip ?_ | refine AL.blk ?_)
        refine AL.ret ?_
        try simp only [AU]
        refine ⟨by simp, Fin.data (by simp [resAs, resA]; rfl) hbox rfl htok (fun _ h => h) (Nat.le_refl _) ?_⟩
        simp [packA, hR]
  · repeat (first | refine AL.seq ?_ | refine AL.block ?_ | refine AL.skip ?_ | refine AL.blk ?_)
    refine AL.exit ?_
    simp only [AU, ↓reduceIte]
    have : i = n := by omega
    subst this
    repeat (first | refine AL.seq ?_ | refine AL.block ?_ | refine AL.skip ?_ | refine AL.blk ?_)
    refine AL.region follows_Try (Nat.le_refl _) (by kernel_rfl) ?_
    simp
    repeat (first | refine AL.seq ?_ | refine AL.block ?_ | refine AL.skip ?_ | refine AL.blk ?_)
    refine AL.ret ?_
    try simp only [AU]
    refine ⟨by simp, Fin.data (by simp [resAs, resA]; rfl) hbox rfl htok (fun _ h => h) (Nat.le_refl _) ?_⟩
    simp [packA, htk]

def fewM (m : Mo) (n : Int) : Bool := decide ((m.nodes.length : Int) + m.edges.length ≤ n)
theorem few06_c (m : Mo) (n : Int) (h1 : m.nodes.length ≤ 281474976710656) (h2 : m.edges.length ≤ 281474976710656) (tok : Nat → Bool) (nt : Nat) : DCall Try.prog 21 [m.av, I n] tok nt (B (fewM m n)) tok nt := by
  intro box nb
  have hw : IntKind.i64.wrap (↑m.nodes.length + ↑m.edges.length) = (m.nodes.length : Int) + m.edges.length := wrap_in (by omega) (by omega)
  refine ACalls.of_body Try.func21 rfl (by kernel_rfl) follows_Try (by kernel_rfl) (by simp [Try.ntmps21]) ?_
  intro hbox htok
  simp only at hbox htok
  apply AL.start
  repeat (first | refine AL.seq ?_ | refine AL.block ?_ | refine AL.skip ?_ | refine AL.blk ?_)
  refine AL.region follows_Try (Nat.le_refl _) (by kernel_rfl) ?_
  simp
  repeat (first | refine AL.seq ?_ | refine AL.block ?_ | refine AL.skip ?_ | refine AL.blk ?_)
  refine AL.region follows_Try (Nat.le_refl _) (by kernel_rfl) ?_
  simp [hw]
  repeat (first | refine AL.seq ?_ | refine AL.block ?_ | refine AL.skip ?_ | refine AL.blk ?_)
  refine AL.ret ?_
  try simp only [AU]
  refine ⟨by simp, Fin.data (by simp [resAs, resA]; rfl) hbox rfl htok (fun _ h => h) (Nat.le_refl _) ?_⟩
  simp [packA, fewM]

def jointly (a b x : Gr) (h k : Mo) : Bool := decide (validM a x h = 0) && (decide (validM b x k = 0) && (covK h.nodes k.nodes x.nodes.length && covK h.edges k.edges x.edges.length))

theorem jointlyF_c (a b x : Gr) (h k : Mo) (ha : a.Fit) (hb : b.Fit) (hx : x.Fit) (hh : h.Fit) (hk : k.Fit) (tok : Nat → Bool) (nt : Nat) : DCall Try.prog 22 [a.av, b.av, x.av, h.av, k.av] tok nt (B (jointly a b x h k)) tok nt := by
  intro box nb
  refine ACalls.of_body Try.func22 rfl (by kernel_rfl) follows_Try (by kernel_rfl) (by simp [Try.ntmps22]) ?_
  intro hbox htok
  simp only at hbox htok
  apply AL.start
  repeat (first | refine AL.seq ?_ | refine AL.block ?_ | refine AL.skip ?_ | refine AL.blk ?_)
  refine AL.region follows_Try (Nat.le_refl _) (by kernel_rfl) ?_
  simp
  repeat (first | refine AL.seq ?_ | refine AL.block ?_ | refine AL.skip ?_ | refine AL.blk ?_)
  refine AL.region follows_Try (Nat.le_refl _) (by kernel_rfl) ?_
  simp
  refine Stop.of_d (valid51_c a x h ha hx _ _) ?_
  simp
  by_cases h1 : validM a x h = 0
  · simp [h1]
    refine Stop.of_d (valid51_c b x k hb hx _ _) ?_
    simp [h1]
    by_cases h2 : validM b x k = 0
    · simp [h2]
      repeat (first | refine AL.seq ?_ | refine AL.block ?_ | refine AL.skip ?_ | refine AL.blk ?_)
      refine AL.cond ?_
      simp
      repeat (first | refine AL.seq ?_ | refine AL.block ?_ | refine AL.skip ?_ | refine AL.blk ?_)
      refine AL.region follows_Try (Nat.le_refl _) (by kernel_rfl) ?_
      simp
      refine Stop.of_d (covered52_c h.nodes k.nodes x.nodes.length hh.n hk.n hx.n _ _) ?_
      simp
      by_cases h3 : covK h.nodes k.nodes x.nodes.length = true
      · simp [h3]
        refine Stop.of_d (covered52_c h.edges k.edges x.edges.length hh.e hk.e hx.e _ _) ?_
        simp [h3]
        repeat (first | refine AL.seq ?_ | refine AL.block ?_ | refine AL.skip ?_ | refine AL.blk ?_)
        refine AL.ret ?_
        try simp only [AU]
        refine ⟨by simp, Fin.data (by simp [resAs, resA]; rfl) hbox rfl htok (fun _ h => h) (Nat.le_refl _) ?_⟩
        simp [packA, jointly, h1, h2, h3]
      · simp [h3]
        repeat (first | refine AL.seq ?_ | refine AL.block ?_ | refine AL.skip ?_ | refine AL.blk ?_)
        refine AL.ret ?_
        try simp only [AU]
        refine ⟨by simp, Fin.data (by simp [resAs, resA]; rfl) hbox rfl htok (fun _ h => h) (Nat.le_refl _) ?_⟩
        simp [packA, jointly, h3]
    · have hb1 : (validM b x k != 0) = true := by simp [h2]
      simp only [hb1]
      try simp
      repeat (first | refine AL.seq ?_ | refine AL.block ?_ | refine AL.skip ?_ | refine AL.blk ?_)
      refine AL.cond ?_
      simp
      repeat (first | refine AL.seq ?_ | refine AL.block ?_ | refine AL.skip ?_ | refine AL.blk ?_)
      refine AL.region follows_Try (Nat.le_refl _) (by kernel_rfl) ?_
      simp
      repeat (first | refine AL.seq ?_ | refine AL.block ?_ | refine AL.skip ?_ | refine AL.blk ?_)
      refine AL.ret ?_
      try simp only [AU]
      refine ⟨by simp, Fin.data (by simp [resAs, resA]; rfl) hbox rfl htok (fun _ h => h) (Nat.le_refl _) ?_⟩
      simp [packA, jointly, h2]
  · have hb1 : (validM a x h != 0) = true := by simp [h1]
    simp only [hb1]
    simp
    repeat (first | refine AL.seq ?_ | refine AL.block ?_ | refine AL.skip ?_ | refine AL.blk ?_)
    refine AL.cond ?_
    simp
    repeat (first | refine AL.seq ?_ | refine AL.block ?_ | refine AL.skip ?_ | refine AL.blk ?_)
    refine AL.region follows_Try (Nat.le_refl _) (by kernel_rfl) ?_
    simp
    repeat (first | refine AL.seq ?_ | refine AL.block ?_ | refine AL.skip ?_ | refine AL.blk ?_)
    refine AL.ret ?_
    try simp only [AU]
    refine ⟨by simp, Fin.data (by simp [resAs, resA]; rfl) hbox rfl htok (fun _ h => h) (Nat.le_refl _) ?_⟩
    simp [packA, jointly, h1]

theorem jointly13_c (a b x : Gr) (h k : Mo) (ha : a.Fit) (hb : b.Fit) (hx : x.Fit) (hh : h.Fit) (hk : k.Fit) (tok : Nat → Bool) (nt : Nat) : DCall Try.prog 23 [a.av, b.av, x.av, h.av, k.av] tok nt (B (jointly a b x h k)) tok nt := by
  intro box nb
  refine ACalls.of_body Try.func23 rfl (by kernel_rfl) follows_Try (by kernel_rfl) (by simp [Try.ntmps23]) ?_
  intro hbox htok
  simp only at hbox htok
  apply AL.start
  repeat (first | refine AL.seq ?_ | refine AL.block ?_ | refine AL.skip ?_ | refine AL.blk ?_)
  refine AL.region follows_Try (Nat.le_refl _) (by kernel_rfl) ?_
  simp
  repeat (first | refine AL.seq ?_ | refine AL.block ?_ | refine AL.skip ?_ | refine AL.blk ?_)
  refine AL.region follows_Try (Nat.le_refl _) (by kernel_rfl) ?_
  simp
  refine Stop.of_d (valid53_c a x h ha hx _ _) ?_
  simp
  by_cases h1 : validM a x h = 0
  · simp [h1]
    refine Stop.of_d (valid53_c b x k hb hx _ _) ?_
    simp [h1]
    by_cases h2 : validM b x k = 0
    · simp [h2]
      refine Stop.of_d (covers54_c h.nodes k.nodes x.nodes.length hh.n hk.n hx.n _ _) ?_
      simp [h1, h2]
      by_cases h3 : covK h.nodes k.nodes x.nodes.length = true
      · simp [h3]
        refine Stop.of_d (covers54_c h.edges k.edges x.edges.length hh.e hk.e hx.e _ _) ?_
        simp [h3]
        repeat (first | refine AL.seq ?_ | refine AL.block ?_ | refine AL.skip ?_ | refine AL.blk ?_)
        refine AL.ret ?_
        try simp only [AU]
        refine ⟨by simp, Fin.data (by simp [resAs, resA]; rfl) hbox rfl htok (fun _ h => h) (Nat.le_refl _) ?_⟩
        simp [packA, jointly, h1, h2, h3]
      · simp [h3]
        repeat (first | refine AL.seq ?_ | refine AL.block ?_ | refine AL.skip ?_ | refine AL.blk ?_)
        refine AL.ret ?_
        try simp only [AU]
        refine ⟨by simp, Fin.data (by simp [resAs, resA]; rfl) hbox rfl htok (fun _ h => h) (Nat.le_refl _) ?_⟩
        simp [packA, jointly, h3]
    · have hb1 : (validM b x k == 0) = false := by simp [h2]
      simp only [hb1]
      try simp
      repeat (first | refine AL.seq ?_ | refine AL.block ?_ | refine AL.skip ?_ | refine AL.blk ?_)
      refine AL.ret ?_
      try simp only [AU]
      refine ⟨by simp, Fin.data (by simp [resAs, resA]; rfl) hbox rfl htok (fun _ h => h) (Nat.le_refl _) ?_⟩
      simp [packA, jointly, h2]
  · have hb1 : (validM a x h == 0) = false := by simp [h1]
    simp only [hb1]
    simp
    repeat (first | refine AL.seq ?_ | refine AL.block ?_ | refine AL.skip ?_ | refine AL.blk ?_)
    refine AL.ret ?_
    try simp only [AU]
    refine ⟨by simp, Fin.data (by simp [resAs, resA]; rfl) hbox rfl htok (fun _ h => h) (Nat.le_refl _) ?_⟩
    simp [packA, jointly, h1]

structure Mo.Big (m : Mo) : Prop where
  n : m.nodes.length ≤ 281474976710656
  e : m.edges.length ≤ 281474976710656
theorem fewM_fit {m : Mo} (h : fewM m 200 = true) : m.Fit := by
  simp [fewM] at h
  exact ⟨by omega, by omega⟩

theorem law5_c (a b : Gr) (o : Ov) (hl : o.l.Big) (hr : o.r.Big) (tok : Nat → Bool) (nt : Nat) : ∃ tok' nt', DCall Try.prog 5 [a.av, b.av, o.av] tok nt (B true) tok' nt' := by
  refine ⟨tok, nt, ?_⟩
  intro box nb
  refine ACalls.of_body Try.func5 rfl (by kernel_rfl) follows_Try (by kernel_rfl) (by simp [Try.ntmps5]) ?_
  intro hbox htok
  simp only at hbox htok
  apply AL.start
  repeat (first | refine AL.seq ?_ | refine AL.block ?_ | refine AL.skip ?_ | refine AL.blk ?_)
  refine AL.region follows_Try (Nat.le_refl _) (by kernel_rfl) ?_
  simp
  repeat (first | refine AL.seq ?_ | refine AL.block ?_ | refine AL.skip ?_ | refine AL.blk ?_)
  refine AL.region follows_Try (Nat.le_refl _) (by kernel_rfl) ?_
  simp
  refine Stop.of_d (awake_c _ _) ?_
  simp
  refine Stop.of_d (few05_c a _ _) ?_
  simp
  by_cases h1 : fewG a = true
  · simp [h1]
    refine Stop.of_d (few05_c b _ _) ?_
    simp [h1]
    by_cases h2 : fewG b = true
    · simp [h2]
      refine Stop.of_d (few05_c o.g _ _) ?_
      simp [h2]
      by_cases h3 : fewG o.g = true
      · simp [h3]
        refine Stop.of_d (few06_c o.l 200 hl.n hl.e _ _) ?_
        simp [h3]
        by_cases h4 : fewM o.l 200 = true
        · simp [h4]
          refine Stop.of_d (few06_c o.r 200 hr.n hr.e _ _) ?_
          simp [h4]
          by_cases h5 : fewM o.r 200 = true
          · simp [h5]
            repeat (first | refine AL.seq ?_ | refine AL.block ?_ | refine AL.skip ?_ | refine AL.blk ?_)
            refine AL.cond ?_
            simp
            repeat (first | refine AL.seq ?_ | refine AL.block ?_ | refine AL.skip ?_ | refine AL.blk ?_)
            refine AL.region follows_Try (Nat.le_refl _) (by kernel_rfl) ?_
            simp
            refine Stop.of_d (jointlyF_c a b o.g o.l o.r (fewG_fit h1) (fewG_fit h2) (fewG_fit h3) (fewM_fit h4) (fewM_fit h5) _ _) ?_
            simp
            refine Stop.of_d (jointly13_c a b o.g o.l o.r (fewG_fit h1) (fewG_fit h2) (fewG_fit h3) (fewM_fit h4) (fewM_fit h5) _ _) ?_
            simp
            repeat (first | refine AL.seq ?_ | refine AL.block ?_ | refine AL.skip ?_ | refine AL.blk ?_)
            refine AL.ret ?_
            try simp only [AU]
            refine ⟨by simp, Fin.data (by simp [resAs, resA]; rfl) hbox rfl htok (fun _ h => h) (Nat.le_refl _) ?_⟩
            simp [packA]
          · simp [h5]
            repeat (first | refine AL.seq ?_ | refine AL.block ?_ | refine AL.skip ?_ | refine AL.blk ?_)
            refine AL.cond ?_
            simp
            repeat (first | refine AL.seq ?_ | refine AL.block ?_ | refine AL.skip ?_ | refine AL.blk ?_)
            refine AL.region follows_Try (Nat.le_refl _) (by kernel_rfl) ?_
            simp
            refine Stop.of_d (awake_c _ _) ?_
            simp
            repeat (first | refine AL.seq ?_ | refine AL.block ?_ | refine AL.skip ?_ | refine AL.blk ?_)
            refine AL.ret ?_
            try simp only [AU]
            refine ⟨by simp, Fin.data (by simp [resAs, resA]; rfl) hbox rfl htok (fun _ h => h) (Nat.le_refl _) ?_⟩
            simp [packA]
        · simp [h4]
          repeat (first | refine AL.seq ?_ | refine AL.block ?_ | refine AL.skip ?_ | refine AL.blk ?_)
          refine AL.cond ?_
          simp
          repeat (first | refine AL.seq ?_ | refine AL.block ?_ | refine AL.skip ?_ | refine AL.blk ?_)
          refine AL.region follows_Try (Nat.le_refl _) (by kernel_rfl) ?_
          simp
          refine Stop.of_d (awake_c _ _) ?_
          simp
          repeat (first | refine AL.seq ?_ | refine AL.block ?_ | refine AL.skip ?_ | refine AL.blk ?_)
          refine AL.ret ?_
          try simp only [AU]
          refine ⟨by simp, Fin.data (by simp [resAs, resA]; rfl) hbox rfl htok (fun _ h => h) (Nat.le_refl _) ?_⟩
          simp [packA]
      · simp [h3]
        repeat (first | refine AL.seq ?_ | refine AL.block ?_ | refine AL.skip ?_ | refine AL.blk ?_)
        refine AL.cond ?_
        simp
        repeat (first | refine AL.seq ?_ | refine AL.block ?_ | refine AL.skip ?_ | refine AL.blk ?_)
        refine AL.region follows_Try (Nat.le_refl _) (by kernel_rfl) ?_
        simp
        refine Stop.of_d (awake_c _ _) ?_
        simp
        repeat (first | refine AL.seq ?_ | refine AL.block ?_ | refine AL.skip ?_ | refine AL.blk ?_)
        refine AL.ret ?_
        try simp only [AU]
        refine ⟨by simp, Fin.data (by simp [resAs, resA]; rfl) hbox rfl htok (fun _ h => h) (Nat.le_refl _) ?_⟩
        simp [packA]
    · simp [h2]
      repeat (first | refine AL.seq ?_ | refine AL.block ?_ | refine AL.skip ?_ | refine AL.blk ?_)
      refine AL.cond ?_
      simp
      repeat (first | refine AL.seq ?_ | refine AL.block ?_ | refine AL.skip ?_ | refine AL.blk ?_)
      refine AL.region follows_Try (Nat.le_refl _) (by kernel_rfl) ?_
      simp
      refine Stop.of_d (awake_c _ _) ?_
      simp
      repeat (first | refine AL.seq ?_ | refine AL.block ?_ | refine AL.skip ?_ | refine AL.blk ?_)
      refine AL.ret ?_
      try simp only [AU]
      refine ⟨by simp, Fin.data (by simp [resAs, resA]; rfl) hbox rfl htok (fun _ h => h) (Nat.le_refl _) ?_⟩
      simp [packA]
  · simp [h1]
    repeat (first | refine AL.seq ?_ | refine AL.block ?_ | refine AL.skip ?_ | refine AL.blk ?_)
    refine AL.cond ?_
    simp
    repeat (first | refine AL.seq ?_ | refine AL.block ?_ | refine AL.skip ?_ | refine AL.blk ?_)
    refine AL.region follows_Try (Nat.le_refl _) (by kernel_rfl) ?_
    simp
    refine Stop.of_d (awake_c _ _) ?_
    simp
    repeat (first | refine AL.seq ?_ | refine AL.block ?_ | refine AL.skip ?_ | refine AL.blk ?_)
    refine AL.ret ?_
    try simp only [AU]
    refine ⟨by simp, Fin.data (by simp [resAs, resA]; rfl) hbox rfl htok (fun _ h => h) (Nat.le_refl _) ?_⟩
    simp [packA]
end Go.AM
/-
  The plain law of the standard overlaps: what is listed are the partial matchings, each once; turning one around matches the other way. No program in sight.
-/
namespace Go.AM
open Go
set_option linter.unusedSimpArgs false
set_option linter.unusedVariables false

/-! ### Partial matchings, listed -/
def choicesM (ok : Nat → Nat → Bool) (na : Nat) (l : List Int) : List Int := -1 :: ((List.range na).filter fun k => ok l.length k && !decide ((k : Int) ∈ l)).map fun (k : Nat) => (k : Int)
def dM (ok : Nat → Nat → Bool) (na : Nat) : Nat → List Int → List (List Int)
  | 0, l => [l]
  | n + 1, l => (choicesM ok na l).flatMap fun k => dM ok na n (l ++ [k])

def okAt (ok : Nat → Nat → Bool) (na : Nat) (x : List Int) (i : Nat) : Prop := x.getD i 0 = -1 ∨ ∃ k : Nat, x.getD i 0 = k ∧ k < na ∧ ok i k = true ∧ (k : Int) ∉ x.take i

theorem dM_mem (ok : Nat → Nat → Bool) (na : Nat) : ∀ (n : Nat) (l x : List Int), x ∈ dM ok na n l ↔ (x.take l.length = l ∧ x.length = l.length + n ∧ ∀ i, l.length ≤ i → i < x.length → okAt ok na x i)
  | 0, l, x => by
    simp only [dM, List.mem_singleton, Nat.add_zero]
    constructor
    · rintro rfl
      exact ⟨by simp, rfl, fun i h1 h2 => by omega⟩
    · rintro ⟨h1, h2, _⟩
      rw [← h1, List.take_of_length_le (by omega)]
  | n + 1, l, x => by
    simp only [dM, List.mem_flatMap]
    constructor
    · rintro ⟨k, hk, hx⟩
      rw [dM_mem ok na n (l ++ [k]) x] at hx
      obtain ⟨h1, h2, h3⟩ := hx
      simp only [List.length_append, List.length_cons, List.length_nil] at h1 h2 h3
      have hlt : l.length < x.length := by omega
      have h4 : x.take l.length = l := by
        have := congrArg (List.take l.length) h1
        rw [List.take_take, Nat.min_eq_left (by omega)] at this
        simpa using this
      have h5 : x.getD l.length 0 = k := by
        have := congrArg (fun y => y[l.length]?) h1
        simp only [List.getElem?_take] at this
        rw [if_pos (by omega)] at this
        rw [List.getD_eq_getElem?_getD, this]
        simp
      refine ⟨h4, by omega, fun i hi1 hi2 => ?_⟩
      by_cases e : i = l.length
      · subst e
        unfold okAt
        rw [h5, h4]
        simp only [choicesM, List.mem_cons, List.mem_map, List.mem_filter, List.mem_range, Bool.and_eq_true, Bool.not_eq_true', decide_eq_false_iff_not] at hk
        rcases hk with rfl | ⟨q, ⟨hq1, hq2, hq3⟩, rfl⟩
        · exact .inl rfl
        · exact .inr ⟨q, rfl, hq1, hq2, hq3⟩
      · exact h3 i (by omega) hi2
    · rintro ⟨h1, h2, h3⟩
      have hlt : l.length < x.length := by omega
      refine ⟨x.getD l.length 0, ?_, ?_⟩
      · have := h3 l.length (Nat.le_refl _) hlt
        unfold okAt at this
        rw [h1] at this
        simp only [choicesM, List.mem_cons, List.mem_map, List.mem_filter, List.mem_range, Bool.and_eq_true, Bool.not_eq_true', decide_eq_false_iff_not]
        rcases this with h | ⟨k, hk1, hk2, hk3, hk4⟩
        · exact .inl h
        · exact .inr ⟨k, ⟨hk2, hk3, hk4⟩, hk1.symm⟩
      · rw [dM_mem ok na n _ x]
        refine ⟨?_, by simp; omega, fun i hi1 hi2 => h3 i (by simp at hi1; omega) hi2⟩
        simp only [List.length_append, List.length_cons, List.length_nil, Nat.zero_add]
        rw [List.take_succ_eq_append_getElem hlt, h1]
        simp [hlt]

theorem nodup_flatMap {α β : Type} (f : α → List β) (key : β → α) : ∀ (l : List α), l.Nodup → (∀ x ∈ l, (f x).Nodup) → (∀ x ∈ l, ∀ y ∈ f x, key y = x) → (l.flatMap f).Nodup
  | [], _, _, _ => by simp
  | x :: l, hn, h1, h2 => by
    rw [List.flatMap_cons]
    have hn' := List.nodup_cons.1 hn
    refine List.nodup_append.2 ⟨h1 x (by simp), nodup_flatMap f key l hn'.2 (fun x hx => h1 x (by simp [hx])) (fun x hx => h2 x (by simp [hx])), ?_⟩
    intro y hy z hz e
    subst e
    obtain ⟨w, hw, hz⟩ := List.mem_flatMap.1 hz
    have e1 := h2 x (by simp) y hy
    have e2 := h2 w (by simp [hw]) y hz
    rw [e1] at e2
    exact hn'.1 (e2 ▸ hw)

theorem choicesM_nodup (ok : Nat → Nat → Bool) (na : Nat) (l : List Int) : (choicesM ok na l).Nodup := by
  unfold choicesM
  refine List.nodup_cons.2 ⟨?_, ?_⟩
  · intro h
    obtain ⟨k, _, hk⟩ := List.mem_map.1 h
    omega
  · refine List.Pairwise.map _ ?_ ((List.nodup_range).filter _)
    intro x y h e
    exact h (by omega)

theorem dM_nodup (ok : Nat → Nat → Bool) (na : Nat) : ∀ (n : Nat) (l : List Int), (dM ok na n l).Nodup
  | 0, l => by simp [dM]
  | n + 1, l => by
    unfold dM
    refine nodup_flatMap _ (fun x => x.getD l.length 0) _ (choicesM_nodup ok na l) (fun k _ => dM_nodup ok na n _) fun k _ x hx => ?_
    rw [dM_mem] at hx
    obtain ⟨h1, h2, _⟩ := hx
    have := congrArg (fun y => y[l.length]?) h1
    simp only [List.getElem?_take, List.length_append, List.length_cons, List.length_nil] at this
    rw [if_pos (by omega)] at this
    show x.getD l.length 0 = k
    rw [List.getD_eq_getElem?_getD, this]
    simp

/-- A partial matching. -/
def isM (ok : Nat → Nat → Bool) (na nb : Nat) (x : List Int) : Prop := x.length = nb ∧ ∀ i, i < nb → okAt ok na x i
theorem dM_isM (ok : Nat → Nat → Bool) (na nb : Nat) (x : List Int) : x ∈ dM ok na nb [] ↔ isM ok na nb x := by
  rw [dM_mem]
  simp only [List.length_nil, Nat.zero_add, Nat.zero_le, true_implies, List.take_zero, true_and, isM]
  constructor
  · rintro ⟨h1, h2⟩; exact ⟨h1, fun i hi => h2 i (by omega)⟩
  · rintro ⟨h1, h2⟩; exact ⟨h1, fun i hi => h2 i (by omega)⟩

/-! ### Turned around -/
theorem isM_inj {ok : Nat → Nat → Bool} {na nb : Nat} {x : List Int} (h : isM ok na nb x) {i j k : Nat} (hi : i < nb) (hj : j < nb) (h1 : x.getD i 0 = (k : Int)) (h2 : x.getD j 0 = (k : Int)) : i = j := by
  have key : ∀ i j : Nat, i < j → j < nb → x.getD i 0 = (k : Int) → x.getD j 0 = (k : Int) → False := by
    intro i j hij hj h1 h2
    rcases h.2 j hj with e | ⟨q, e, _, _, hq⟩
    · rw [e] at h2; omega
    · have : (q : Int) = k := e.symm.trans h2
      rw [this] at hq
      apply hq
      have hlen := h.1
      rw [List.mem_take_iff_getElem]
      refine ⟨i, by omega, ?_⟩
      have : x.getD i 0 = x[i]'(by omega) := by rw [List.getD_eq_getElem?_getD, List.getElem?_eq_getElem (by omega)]; rfl
      rw [← this]; exact h1
  rcases Nat.lt_trichotomy i j with h' | h' | h'
  · exact (key i j h' hj h1 h2).elim
  · exact h'
  · exact (key j i h' hi h2 h1).elim

def invM (x : List Int) (na : Nat) : List Int := (List.range na).map fun (k : Nat) => indexI x k

theorem invM_get {x : List Int} {na k : Nat} (hk : k < na) : (invM x na).getD k 0 = indexI x k := by
  unfold invM
  rw [List.getD_eq_getElem?_getD]
  simp [hk]

theorem indexI_spec (x : List Int) (k : Int) : (indexI x k = -1 ∧ k ∉ x) ∨ ∃ i : Nat, indexI x k = i ∧ i < x.length ∧ x.getD i 0 = k := by
  unfold indexI
  by_cases h : k ∈ x
  · right
    rw [if_pos h]
    have h1 := List.idxOf_lt_length_of_mem h
    refine ⟨x.idxOf k, rfl, h1, ?_⟩
    rw [List.getD_eq_getElem?_getD, List.getElem?_eq_getElem h1]
    simp
  · left
    rw [if_neg h]
    exact ⟨rfl, h⟩

/-- k stands at i exactly if i stands at k, turned around. -/
theorem invM_iff {ok : Nat → Nat → Bool} {na nb : Nat} {x : List Int} (h : isM ok na nb x) {i k : Nat} (hi : i < nb) (hk : k < na) : (invM x na).getD k 0 = (i : Int) ↔ x.getD i 0 = (k : Int) := by
  rw [invM_get hk]
  constructor
  · intro e
    rcases indexI_spec x k with ⟨e1, _⟩ | ⟨j, e1, hj, e2⟩
    · rw [e1] at e; omega
    · have : j = i := by rw [e1] at e; omega
      subst this
      exact e2
  · intro e
    rcases indexI_spec x k with ⟨_, e1⟩ | ⟨j, e1, hj, e2⟩
    · exfalso
      apply e1
      have hlen := h.1
      have h1 : i < x.length := by omega
      have : x.getD i 0 = x[i] := by rw [List.getD_eq_getElem?_getD, List.getElem?_eq_getElem h1]; rfl
      rw [← e, this]
      exact List.getElem_mem _
    · rw [e1]
      have hlen := h.1
      have := isM_inj h (by omega) hi e2 e
      omega

theorem invM_isM {ok : Nat → Nat → Bool} {na nb : Nat} {x : List Int} (h : isM ok na nb x) {ok' : Nat → Nat → Bool} (hok : ∀ i k, i < nb → k < na → ok i k = true → ok' k i = true) : isM ok' nb na (invM x na) := by
  have hlen : (invM x na).length = na := by simp [invM]
  refine ⟨hlen, fun k hk => ?_⟩
  unfold okAt
  rw [invM_get hk]
  rcases indexI_spec x k with ⟨e1, _⟩ | ⟨i, e1, hi, e2⟩
  · exact .inl e1
  · have hxl := h.1
    have hinb : i < nb := by omega
    refine .inr ⟨i, e1, hinb, ?_, ?_⟩
    · rcases h.2 i hinb with e | ⟨q, e, _, hq, _⟩
      · rw [e] at e2; omega
      · have : q = k := by rw [e] at e2; omega
        subst this
        exact hok i q hinb hk hq
    · intro hm
      rw [List.mem_take_iff_getElem] at hm
      obtain ⟨j, hj, e3⟩ := hm
      have hjn : j < na := by omega
      have e4 : (invM x na).getD j 0 = (i : Int) := by
        rw [List.getD_eq_getElem?_getD, List.getElem?_eq_getElem (by omega)]
        exact e3
      have e5 := (invM_iff h hinb hjn).1 e4
      rw [e5] at e2
      omega

theorem invM_invM {ok : Nat → Nat → Bool} {na nb : Nat} {x : List Int} (h : isM ok na nb x) : invM (invM x na) nb = x := by
  have hlen := h.1
  have h' : isM (fun _ _ => true) nb na (invM x na) := invM_isM h fun _ _ _ _ _ => rfl
  apply List.ext_getElem
  · simp [invM, hlen]
  · intro i h1 h2
    have hi : i < nb := by omega
    have e1 : (invM (invM x na) nb).getD i 0 = (invM (invM x na) nb)[i] := by rw [List.getD_eq_getElem?_getD, List.getElem?_eq_getElem h1]; rfl
    have e2 : x.getD i 0 = x[i] := by rw [List.getD_eq_getElem?_getD, List.getElem?_eq_getElem h2]; rfl
    rw [← e1, ← e2]
    rcases h.2 i hi with e | ⟨k, e, hk, _, _⟩
    · rw [e, invM_get hi]
      rcases indexI_spec (invM x na) i with ⟨e3, _⟩ | ⟨k, e3, hk, e4⟩
      · exact e3
      · have hkn : k < na := by simpa [invM] using hk
        have := (invM_iff h hi hkn).1 e4
        rw [e] at this
        omega
    · rw [e]
      exact (invM_iff h' hk hi).2 ((invM_iff h hi hk).2 e)

/-! ### Counting -/
theorem nodup_le {α : Type} [DecidableEq α] : ∀ (l m : List α), l.Nodup → (∀ x ∈ l, x ∈ m) → l.length ≤ m.length
  | [], m, _, _ => Nat.zero_le _
  | x :: l, m, hn, h => by
    have hn' := List.nodup_cons.1 hn
    have hx := h x (by simp)
    have := nodup_le l (m.erase x) hn'.2 fun y hy => (List.mem_erase_of_ne (show y ≠ x from fun e => hn'.1 (by rw [← e]; exact hy))).2 (h y (by simp [hy]))
    rw [List.length_erase_of_mem hx] at this
    have hp : 0 < m.length := List.length_pos_of_mem hx
    simp only [List.length_cons]
    omega

def okN (a b : Gr) (i k : Nat) : Bool := decide (a.nodes.getD k 0 = b.nodes.getD i 0)
def okE (a b : Gr) (x : List Int) (i k : Nat) : Bool := decide (a.edges.getD k default = ⟨(b.edges.getD i default).ty, x.getD (b.edges.getD i default).fr.toNat 0, x.getD (b.edges.getD i default).to.toNat 0⟩)

def pairsM (a b : Gr) : List (List Int × List Int) := (dM (okN a b) a.nodes.length b.nodes.length []).flatMap fun x => (dM (okE a b x) a.edges.length b.edges.length []).map fun es => (x, es)

def isPair (a b : Gr) (p : List Int × List Int) : Prop := isM (okN a b) a.nodes.length b.nodes.length p.1 ∧ isM (okE a b p.1) a.edges.length b.edges.length p.2

theorem pairsM_mem (a b : Gr) (p : List Int × List Int) : p ∈ pairsM a b ↔ isPair a b p := by
  simp only [pairsM, List.mem_flatMap, List.mem_map, dM_isM, isPair]
  constructor
  · rintro ⟨x, hx, es, hes, rfl⟩; exact ⟨hx, hes⟩
  · rintro ⟨h1, h2⟩; exact ⟨p.1, h1, p.2, h2, rfl⟩

theorem pairsM_nodup (a b : Gr) : (pairsM a b).Nodup := by
  unfold pairsM
  refine nodup_flatMap _ (fun p => p.1) _ (dM_nodup _ _ _ _) (fun x _ => ?_) fun x _ y hy => ?_
  · refine List.Pairwise.map _ ?_ (dM_nodup _ _ _ _)
    intro u v h e
    exact h (Prod.mk.inj e).2
  · obtain ⟨_, _, rfl⟩ := List.mem_map.1 hy
    rfl

def EOk (g : Gr) : Prop := ∀ e ∈ g.edges, 0 ≤ e.fr ∧ e.fr < g.nodes.length ∧ 0 ≤ e.to ∧ e.to < g.nodes.length

theorem okE_turn {a b : Gr} (ha : EOk a) (hb : EOk b) {x : List Int} (hx : isM (okN a b) a.nodes.length b.nodes.length x) (i k : Nat) (hi : i < b.edges.length) (hk : k < a.edges.length) (h : okE a b x i k = true) : okE b a (invM x a.nodes.length) k i = true := by
  unfold okE at h ⊢
  rw [decide_eq_true_eq] at h ⊢
  have g1 : a.edges.getD k default = a.edges[k] := by simp [hk]
  have g2 : b.edges.getD i default = b.edges[i] := by simp [hi]
  rw [g1, g2] at h ⊢
  obtain ⟨a1, a2, a3, a4⟩ := ha _ (List.getElem_mem hk)
  obtain ⟨b1, b2, b3, b4⟩ := hb _ (List.getElem_mem hi)
  have e1 : a.edges[k].ty = b.edges[i].ty := by rw [h]
  have e2 : x.getD b.edges[i].fr.toNat 0 = ((a.edges[k].fr.toNat : Nat) : Int) := by rw [Int.toNat_of_nonneg a1]; exact (congrArg E.fr h).symm
  have e3 : x.getD b.edges[i].to.toNat 0 = ((a.edges[k].to.toNat : Nat) : Int) := by rw [Int.toNat_of_nonneg a3]; exact (congrArg E.to h).symm
  have f2 := (invM_iff hx (by omega) (by omega)).2 e2
  have f3 := (invM_iff hx (by omega) (by omega)).2 e3
  rw [f2, f3, e1, Int.toNat_of_nonneg b1, Int.toNat_of_nonneg b3]

def turnP (a b : Gr) (p : List Int × List Int) : List Int × List Int := (invM p.1 a.nodes.length, invM p.2 a.edges.length)

theorem turnP_isPair {a b : Gr} (ha : EOk a) (hb : EOk b) {p : List Int × List Int} (h : isPair a b p) : isPair b a (turnP a b p) :=
  ⟨invM_isM h.1 fun i k _ _ hok => by unfold okN at hok ⊢; rw [decide_eq_true_eq] at hok ⊢; exact hok.symm, invM_isM h.2 fun i k hi hk hok => okE_turn ha hb h.1 i k hi hk hok⟩

theorem turnP_turnP {a b : Gr} {p : List Int × List Int} (h : isPair a b p) : turnP b a (turnP a b p) = p := by
  unfold turnP
  rw [invM_invM h.1, invM_invM h.2]

theorem pairsM_le {a b : Gr} (ha : EOk a) (hb : EOk b) : (pairsM a b).length ≤ (pairsM b a).length := by
  have h1 : ((pairsM a b).map (turnP a b)).Nodup := by
    have : (pairsM a b).Pairwise fun p q => turnP a b p ≠ turnP a b q := by
      refine List.Pairwise.imp_of_mem ?_ (pairsM_nodup a b)
      intro p q hp hq hne e
      apply hne
      rw [← turnP_turnP ((pairsM_mem a b p).1 hp), ← turnP_turnP ((pairsM_mem a b q).1 hq), e]
    exact List.Pairwise.map _ (fun _ _ h => h) this
  have h2 := nodup_le _ (pairsM b a) h1 fun y hy => by
    obtain ⟨p, hp, rfl⟩ := List.mem_map.1 hy
    exact (pairsM_mem b a _).2 (turnP_isPair ha hb ((pairsM_mem a b p).1 hp))
  simpa using h2

theorem pairsM_len {a b : Gr} (ha : EOk a) (hb : EOk b) : (pairsM a b).length = (pairsM b a).length := Nat.le_antisymm (pairsM_le ha hb) (pairsM_le hb ha)

/-! ### What the program lists -/
theorem foldl_lim' {α : Type} (c : Nat → Bool) (f : Nat → List α → List α) (g : Nat → List α) (ks : List Nat) (out : List α) (h : ∀ k ∈ ks, ∀ out, f k out = lim out (g k)) :
    ks.foldl (fun out k => if c k = true then f k out else out) out = lim out ((ks.filter c).flatMap g) := foldl_lim c f g ks out h

theorem ovE_lim (a b : Gr) (nodes : List Int) : ∀ (n : Nat) (es : List Int) (out : List Ov), ovE a b nodes n es out = lim out ((dM (okE a b nodes) a.edges.length n es).map (glue a b nodes))
  | 0, es, out => by
    unfold ovE
    split
    · rename_i h; rw [lim_full _ _ h]
    · rename_i h; simp only [dM, List.map_cons, List.map_nil]; rw [lim_one _ _ h]
  | n + 1, es, out => by
    unfold ovE
    split
    · rename_i h; rw [lim_full _ _ h]
    · have h1 : (fun (out : List Ov) (k : Nat) => if a.edges.getD k default = wantE b nodes es ∧ (k : Int) ∉ es then ovE a b nodes n (es ++ [(k : Int)]) out else out) =
          fun out k => if (okE a b nodes es.length k && !decide ((k : Int) ∈ es)) = true then ovE a b nodes n (es ++ [(k : Int)]) out else out := by
        funext out k
        have ic : ∀ {p q : Prop} [Decidable p] [Decidable q] {x y : List Ov}, (p ↔ q) → (if p then x else y) = if q then x else y := by
          intro p q _ _ x y h
          by_cases hp : p
          · rw [if_pos hp, if_pos (h.1 hp)]
          · rw [if_neg hp, if_neg fun hq => hp (h.2 hq)]
        refine ic ?_
        simp only [okE, wantE, Bool.and_eq_true, decide_eq_true_eq, Bool.not_eq_true', decide_eq_false_iff_not]
      rw [h1, foldl_lim' _ (fun (k : Nat) out => ovE a b nodes n (es ++ [(k : Int)]) out) (fun (k : Nat) => (dM (okE a b nodes) a.edges.length n (es ++ [(k : Int)])).map (glue a b nodes)) _ _ (fun k _ out => ovE_lim a b nodes n _ out), ovE_lim a b nodes n, lim_append]
      congr 1
      simp only [dM, choicesM, List.flatMap_cons, List.map_append, List.map_flatMap, List.flatMap_map]

theorem ovN_lim (a b : Gr) : ∀ (n : Nat) (l : List Int) (out : List Ov), ovN a b n l out = lim out ((dM (okN a b) a.nodes.length n l).flatMap fun x => (dM (okE a b x) a.edges.length b.edges.length []).map (glue a b x))
  | 0, l, out => by
    unfold ovN
    split
    · rename_i h; rw [lim_full _ _ h]
    · simp only [dM, List.flatMap_cons, List.flatMap_nil, List.append_nil]; rw [ovE_lim]
  | n + 1, l, out => by
    unfold ovN
    split
    · rename_i h; rw [lim_full _ _ h]
    · have h1 : (ovStepN a b (ovN a b n) l) = fun out k => if (okN a b l.length k && !decide ((k : Int) ∈ l)) = true then ovN a b n (l ++ [(k : Int)]) out else out := by
        funext out k
        unfold ovStepN
        have ic : ∀ {p q : Prop} [Decidable p] [Decidable q] {x y : List Ov}, (p ↔ q) → (if p then x else y) = if q then x else y := by
          intro p q _ _ x y h
          by_cases hp : p
          · rw [if_pos hp, if_pos (h.1 hp)]
          · rw [if_neg hp, if_neg fun hq => hp (h.2 hq)]
        refine ic ?_
        simp only [okN, Bool.and_eq_true, decide_eq_true_eq, Bool.not_eq_true', decide_eq_false_iff_not]
      rw [h1, foldl_lim' _ (fun (k : Nat) out => ovN a b n (l ++ [(k : Int)]) out) (fun (k : Nat) => (dM (okN a b) a.nodes.length n (l ++ [(k : Int)])).flatMap fun x => (dM (okE a b x) a.edges.length b.edges.length []).map (glue a b x)) _ _ (fun k _ out => ovN_lim a b n _ out), ovN_lim a b n, lim_append]
      congr 1
      simp only [dM, choicesM, List.flatMap_cons, List.flatMap_append, List.flatMap_assoc, List.flatMap_map]

def listO (a b : Gr) : List Ov := (pairsM a b).map fun p => glue a b p.1 p.2

theorem ovN_list (a b : Gr) : ovN a b b.nodes.length [] [] = (listO a b).take 2001 := by
  rw [ovN_lim]
  have : ((dM (okN a b) a.nodes.length b.nodes.length []).flatMap fun x => (dM (okE a b x) a.edges.length b.edges.length []).map (glue a b x)) = listO a b := by
    unfold listO pairsM
    rw [List.map_flatMap]
    congr 1
    funext x
    rw [List.map_map]
    rfl
  rw [this]
  simp [lim]

theorem overlapsR_list (a b : Gr) (ha : validG a = 0) (hb : validG b = 0) (hs : ¬ (40 < a.nodes.length + b.nodes.length ∨ 80 < a.edges.length + b.edges.length)) : overlapsR a b = if 2000 < (pairsM a b).length then ([], 3) else (listO a b, 0) := by
  have hl : (listO a b).length = (pairsM a b).length := by simp [listO]
  unfold overlapsR
  simp only [ha, hb, hs, ovN_list, ne_eq, not_true_eq_false, ↓reduceIte]
  by_cases hb : 2000 < (pairsM a b).length
  · have : 2000 < ((listO a b).take 2001).length := by simp; omega
    rw [if_pos this, if_pos hb]
  · have : (listO a b).take 2001 = listO a b := List.take_of_length_le (by omega)
    rw [this, if_neg (by omega), if_neg hb]
end Go.AM
namespace Go.AM
open Go Go.Proofs
set_option linter.unusedSimpArgs false
set_option linter.unusedVariables false

/-! ### Distinct, Injective; small, Made -/
structure Dr where
  nodes : List Int
  edges : List (Int × Int × Int)
abbrev u8 (n : Int) : D := .raw (.int .u8 n)
abbrev Dr.av (x : Dr) : AV := .agg [.d (.sl 1 (x.nodes.map fun n => [u8 n])), .d (.sl 3 (x.edges.map fun e => [u8 e.1, u8 e.2.1, u8 e.2.2]))]

def smallD (x : Dr) (n m : Int) : Bool := decide ((x.nodes.length : Int) ≤ n) && decide ((x.edges.length : Int) ≤ m)
theorem small24_c (x : Dr) (n m : Int) (tok : Nat → Bool) (nt : Nat) : DCall Try.prog 24 [x.av, I n, I m] tok nt (B (smallD x n m)) tok nt := by
  intro box nb
  refine ACalls.of_body Try.func24 rfl (by kernel_rfl) follows_Try (by kernel_rfl) (by simp [Try.ntmps24]) ?_
  intro hbox htok
  simp only at hbox htok
  apply AL.start
  repeat (first | refine AL.seq ?_ | refine AL.block ?_ | refine AL.skip ?_ | refine AL.blk ?_)
  refine AL.region follows_Try (Nat.le_refl _) (by kernel_rfl) ?_
  simp
  repeat (first | refine AL.seq ?_ | refine AL.block ?_ | refine AL.skip ?_ | refine AL.blk ?_)
  refine AL.region follows_Try (Nat.le_refl _) (by kernel_rfl) ?_
  simp
  first | refine Gd.dt (fun h1 => ?_) (fun h1 => ?_) | refine Gd.df (fun h1 => ?_) (fun h1 => ?_) | refine Gd.t (fun h1 => ?_) (fun h1 => ?_) | refine Gd.f (fun h1 => ?_) (fun h1 => ?_)
  · simp [h1]
    repeat (first | refine AL.seq ?_ | refine AL.block ?_ | refine AL.skip ?_ | refine AL.blk ?_)
    refine AL.ret ?_
    try simp only [AU]
    refine ⟨by simp, Fin.data (by simp [resAs, resA]; rfl) hbox rfl htok (fun _ h => h) (Nat.le_refl _) ?_⟩
    simp [packA, smallD, h1]
  · simp [h1]
    repeat (first | refine AL.seq ?_ | refine AL.block ?_ | refine AL.skip ?_ | refine AL.blk ?_)
    refine AL.ret ?_
    try simp only [AU]
    refine ⟨by simp, Fin.data (by simp [resAs, resA]; rfl) hbox rfl htok (fun _ h => h) (Nat.le_refl _) ?_⟩
    simp [packA, smallD, h1]

/-- The first i elements of a list differ. -/
def distK (l : List Int) (i : Nat) : Bool := (List.range i).all fun j => (List.range j).all fun k => decide (l.getD j 0 ≠ l.getD k 0)
def distJ (l : List Int) (i k : Nat) : Bool := (List.range k).all fun k => decide (l.getD i 0 ≠ l.getD k 0)
theorem distK_succ (l : List Int) (i : Nat) : distK l (i + 1) = (distK l i && distJ l i i) := by simp [distK, distJ, List.range_succ]
theorem distJ_succ (l : List Int) (i k : Nat) : distJ l i (k + 1) = (distJ l i k && decide (l.getD i 0 ≠ l.getD k 0)) := by simp only [distJ, List.range_succ, List.all_append, List.all_cons, List.all_nil, Bool.and_true]
theorem distK_stop {l : List Int} {n i k : Nat} (hi : i < n) (hk : k < i) (h : l.getD i 0 = l.getD k 0) : distK l n = false := by
  rw [Bool.eq_false_iff]
  intro ha
  simp only [distK, List.all_eq_true, List.mem_range, decide_eq_true_eq] at ha
  exact ha i hi k hk h

def st55a (l : List Int) (nb : Nat) (box : Nat → Option (List (List AV))) (tok : Nat → Bool) (nt : Nat) (i : Nat) : AState := ⟨tl [(0, .d (ints l)), (3, I i)], lb nb box [], tok, nt⟩
def st55b (l : List Int) (i : Nat) (nb : Nat) (box : Nat → Option (List (List AV))) (tok : Nat → Bool) (nt : Nat) (k : Nat) : AState := ⟨tl [(0, .d (ints l)), (3, I i), (4, I k)], lb nb box [], tok, nt⟩

theorem distinct55_c (l : List Int) (hl : l.length ≤ 1000000) (tok : Nat → Bool) (nt : Nat) : DCall Try.prog 55 [.d (ints l)] tok nt (B (distK l l.length)) tok nt := by
  intro box nb
  refine ACalls.of_body Try.func55 rfl (by kernel_rfl) follows_Try (by kernel_rfl) (by simp [Try.ntmps55]) ?_
  intro hbox htok
  simp only at hbox htok
  apply AL.start
  repeat (first | refine AL.seq ?_ | refine AL.block ?_ | refine AL.skip ?_ | refine AL.blk ?_)
  refine AL.region follows_Try (Nat.le_refl _) (by kernel_rfl) ?_
  simp
  repeat (first | refine AL.seq ?_ | refine AL.block ?_ | refine AL.skip ?_ | refine AL.blk ?_)
  refine AL.region follows_Try (Nat.le_refl _) (by kernel_rfl) ?_
  simp
  repeat (first | refine AL.seq ?_ | refine AL.block ?_ | refine AL.skip ?_ | refine AL.blk ?_)
  refine AL.loopT (st55a l nb box tok nt) (fun i => i ≤ l.length ∧ distK l i = true) (fun i => l.length - i) 0 ⟨Nat.zero_le _, rfl⟩ (Weaks.mk (Nat.le_refl _) rfl (by simp [ToL]) trivial) ?_
  rintro i S ⟨hi, hok⟩ hS
  simp only [st55a] at hS
  subst hS
  have hw : IntKind.i64.wrap (↑i + 1) = ((i + 1 : Nat) : Int) := by rw [wrap_in (by omega) (by omega)]; rfl
  repeat (first | refine AL.seq ?_ | refine AL.block ?_ | refine AL.skip ?_ | refine AL.blk ?_)
  refine AL.region follows_Try (Nat.le_refl _) (by kernel_rfl) ?_
  simp
  repeat (first | refine AL.seq ?_ | refine AL.block ?_ | refine AL.skip ?_ | refine AL.blk ?_)
  refine AL.cond ?_
  simp
  refine ⟨fun hlt => ?_, fun hge => ?_⟩
  · repeat (first | refine AL.seq ?_ | refine AL.block ?_ | refine AL.skip ?_ | refine AL.blk ?_)
    refine AL.region follows_Try (Nat.le_refl _) (by kernel_rfl) ?_
    simp
    repeat (first | refine AL.seq ?_ | refine AL.block ?_ | refine AL.skip ?_ | refine AL.blk ?_)
    refine AL.loopT (st55b l i nb box tok nt) (fun k => k ≤ i ∧ distJ l i k = true) (fun k => i - k) 0 ⟨Nat.zero_le _, rfl⟩ (Weaks.mk (Nat.le_refl _) rfl (by simp [ToL]) trivial) ?_
    rintro k S ⟨hk, hokk⟩ hS
    simp only [st55b] at hS
    subst hS
    have hwk : IntKind.i64.wrap (↑k + 1) = ((k + 1 : Nat) : Int) := by rw [wrap_in (by omega) (by omega)]; rfl
    have gi : l.getD i 0 = l[i] := by simp [hlt]
    repeat (first | refine AL.seq ?_ | refine AL.block ?_ | refine AL.skip ?_ | refine AL.blk ?_)
    refine AL.region follows_Try (Nat.le_refl _) (by kernel_rfl) ?_
    simp
    repeat (first | refine AL.seq ?_ | refine AL.block ?_ | refine AL.skip ?_ | refine AL.blk ?_)
    refine AL.cond ?_
    simp
    refine ⟨fun hki => ?_, fun hki => ?_⟩
    · have hkl : k < l.length := by omega
      have gk : l.getD k 0 = l[k] := by simp [hkl]
      repeat (first | refine AL.seq ?_ | refine AL.block ?_ | refine AL.skip ?_ | refine AL.blk ?_)
      refine AL.region follows_Try (Nat.le_refl _) (by kernel_rfl) ?_
      simp [hlt, hkl]
      repeat (first | refine AL.seq ?_ | refine AL.block ?_ | refine AL.skip ?_ | refine AL.blk ?_)
      refine AL.cond ?_
      simp
      refine ⟨fun heq => ?_, fun hne => ?_⟩
      · repeat (first | refine AL.seq ?_ | refine AL.block ?_ | refine AL.skip ?_ | refine AL.blk ?_)
        refine AL.region follows_Try (Nat.le_refl _) (by kernel_rfl) ?_
        simp
        have hR := distK_stop hlt hki (by rw [gi, gk]; exact heq)
        repeat (first | refine AL.seq ?_ | refine AL.block ?_ | refine AL.skip ?_ | refine AL.blk ?_)
        refine AL.ret ?_
        try simp only [AU]
        refine ⟨by simp, Fin.data (by simp [resAs, resA]; rfl) hbox rfl htok (fun _ h => h) (Nat.le_refl _) ?_⟩
        simp [packA, hR]
      · repeat (first | refine AL.seq ?_ | refine AL.block ?_ | refine AL.skip ?_ | refine AL.blk ?_)
        refine AL.region follows_Try (Nat.le_refl _) (by kernel_rfl) ?_
        simp [hwk]
        repeat (first | refine AL.seq ?_ | refine AL.block ?_ | refine AL.skip ?_ | refine AL.blk ?_)
        refine AL.nil ?_
        refine ⟨k + 1, ⟨hki, ?_⟩, by omega, Weaks.mk (Nat.le_refl _) rfl (by simp [ToL]) trivial⟩
        rw [distJ_succ, hokk, gi, gk]; simp [hne]
    · repeat (first | refine AL.seq ?_ | refine AL.block ?_ | refine AL.skip ?_ | refine AL.blk ?_)
      refine AL.exit ?_
      simp only [AU, ↓reduceIte]
      have : k = i := by omega
      subst this
      repeat (first | refine AL.seq ?_ | refine AL.block ?_ | refine AL.skip ?_ | refine AL.blk ?_)
      refine AL.region follows_Try (Nat.le_refl _) (by kernel_rfl) ?_
      simp [hw]
      repeat (first | refine AL.seq ?_ | refine AL.block ?_ | refine AL.skip ?_ | refine AL.blk ?_)
      refine AL.nil ?_
      refine ⟨k + 1, ⟨hlt, ?_⟩, by omega, Weaks.mk (Nat.le_refl _) rfl (by simp [ToL]) trivial⟩
      rw [distK_succ, hok, hokk]; rfl
  · repeat (first | refine AL.seq ?_ | refine AL.block ?_ | refine AL.skip ?_ | refine AL.blk ?_)
    refine AL.exit ?_
    simp only [AU, ↓reduceIte]
    have : i = l.length := by omega
    subst this
    repeat (first | refine AL.seq ?_ | refine AL.block ?_ | refine AL.skip ?_ | refine AL.blk ?_)
    refine AL.region follows_Try (Nat.le_refl _) (by kernel_rfl) ?_
    simp
    repeat (first | refine AL.seq ?_ | refine AL.block ?_ | refine AL.skip ?_ | refine AL.blk ?_)
    refine AL.ret ?_
    try simp only [AU]
    refine ⟨by simp, Fin.data (by simp [resAs, resA]; rfl) hbox rfl htok (fun _ h => h) (Nat.le_refl _) ?_⟩
    simp [packA, hok]

def injM (a b : Gr) (m : Mo) : Bool := decide (validM a b m = 0) && (distK m.nodes m.nodes.length && distK m.edges m.edges.length)
theorem injective26_c (a b : Gr) (m : Mo) (ha : a.Fit) (hb : b.Fit) (hm : m.Fit) (tok : Nat → Bool) (nt : Nat) : DCall Try.prog 26 [a.av, b.av, m.av] tok nt (B (injM a b m)) tok nt := by
  intro box nb
  refine ACalls.of_body Try.func26 rfl (by kernel_rfl) follows_Try (by kernel_rfl) (by simp [Try.ntmps26]) ?_
  intro hbox htok
  simp only at hbox htok
  apply AL.start
  repeat (first | refine AL.seq ?_ | refine AL.block ?_ | refine AL.skip ?_ | refine AL.blk ?_)
  refine AL.region follows_Try (Nat.le_refl _) (by kernel_rfl) ?_
  simp
  repeat (first | refine AL.seq ?_ | refine AL.block ?_ | refine AL.skip ?_ | refine AL.blk ?_)
  refine AL.region follows_Try (Nat.le_refl _) (by kernel_rfl) ?_
  simp
  refine Stop.of_d (valid53_c a b m ha hb _ _) ?_
  simp
  by_cases h1 : validM a b m = 0
  · simp [h1]
    refine Stop.of_d (distinct55_c m.nodes hm.n _ _) ?_
    simp [h1]
    by_cases h2 : distK m.nodes m.nodes.length = true
    · simp [h1, h2]
      refine Stop.of_d (distinct55_c m.edges hm.e _ _) ?_
      simp [h1, h2]
      repeat (first | refine AL.seq ?_ | refine AL.block ?_ | refine AL.skip ?_ | refine AL.blk ?_)
      refine AL.ret ?_
      try simp only [AU]
      refine ⟨by simp, Fin.data (by simp [resAs, resA]; rfl) hbox rfl htok (fun _ h => h) (Nat.le_refl _) ?_⟩
      simp [packA, injM, h1, h2]
    · have h3 : distK m.nodes m.nodes.length = false := by simpa using h2
      simp only [h3]
      simp
      repeat (first | refine AL.seq ?_ | refine AL.block ?_ | refine AL.skip ?_ | refine AL.blk ?_)
      refine AL.ret ?_
      try simp only [AU]
      refine ⟨by simp, Fin.data (by simp [resAs, resA]; rfl) hbox rfl htok (fun _ h => h) (Nat.le_refl _) ?_⟩
      simp [packA, injM, h1, h3]
  · have hb1 : (validM a b m == 0) = false := by simp [h1]
    simp only [hb1]
    try simp
    repeat (first | refine AL.seq ?_ | refine AL.block ?_ | refine AL.skip ?_ | refine AL.blk ?_)
    refine AL.ret ?_
    try simp only [AU]
    refine ⟨by simp, Fin.data (by simp [resAs, resA]; rfl) hbox rfl htok (fun _ h => h) (Nat.le_refl _) ?_⟩
    simp [packA, injM, h1]

structure Dr.U8 (x : Dr) : Prop where
  n : ∀ k ∈ x.nodes, 0 ≤ k ∧ k < 256
  e : ∀ k ∈ x.edges, (0 ≤ k.1 ∧ k.1 < 256) ∧ (0 ≤ k.2.1 ∧ k.2.1 < 256) ∧ (0 ≤ k.2.2 ∧ k.2.2 < 256)

def mN (x : Dr) (i : Nat) : List Int := (x.nodes.take i).map fun n => n % 3
theorem mN_zero (x : Dr) : mN x 0 = [] := by simp [mN]
@[simp] theorem mN_len (x : Dr) (i : Nat) : (mN x i).length = min i x.nodes.length := by simp [mN]
theorem mN_succ (x : Dr) {i : Nat} (h : i < x.nodes.length) : mN x (i + 1) = mN x i ++ [x.nodes[i] % 3] := by simp only [mN, List.take_add_one, List.getElem?_eq_getElem h, Option.toList, List.map_append, List.map_cons, List.map_nil]
def mE (x : Dr) (n : Int) (i : Nat) : List E := (x.edges.take i).map fun e => ⟨e.1 % 2, e.2.1 % n, e.2.2 % n⟩
theorem mE_zero (x : Dr) (n : Int) : mE x n 0 = [] := by simp [mE]
@[simp] theorem mE_len (x : Dr) (n : Int) (i : Nat) : (mE x n i).length = min i x.edges.length := by simp [mE]
theorem mE_succ (x : Dr) (n : Int) {i : Nat} (h : i < x.edges.length) : mE x n (i + 1) = mE x n i ++ [⟨x.edges[i].1 % 2, x.edges[i].2.1 % n, x.edges[i].2.2 % n⟩] := by simp only [mE, List.take_add_one, List.getElem?_eq_getElem h, Option.toList, List.map_append, List.map_cons, List.map_nil]

/-- The graph of a draft. -/
def madeG (x : Dr) : Gr := ⟨mN x 8, if x.nodes.length = 0 then [] else mE x (mN x 8).length 10⟩

def dN (x : Dr) : D := .sl 1 (x.nodes.map fun n => [u8 n])
def dE (x : Dr) : D := .sl 3 (x.edges.map fun e => [u8 e.1, u8 e.2.1, u8 e.2.2])

def st25a (x : Dr) (nb : Nat) (box : Nat → Option (List (List AV))) (a : Acc) : AState :=
  ⟨tl [(4, I a.i), (3, AV.ptr (nb + 3) 0 0), (2, AV.ptr (nb + 2) 0 0), (1, AV.ptr (nb + 1) 0 0)],
    lb nb box [(3, [[.osl 1 (rI (mN x a.i)) a.own, .osl 3 [] Own.full]]),
            (1, [[AV.d (D.sl 1 (List.map (fun n => [u8 n]) x.nodes)), AV.d (D.sl 3 (List.map (fun e => [u8 e.fst, u8 e.snd.fst, u8 e.snd.snd]) x.edges))]]), (2, [[.bot, .bot]])], a.tok, a.nt⟩

theorem madeG_eq (x : Dr) (i k : Nat) (hi : i = min 8 x.nodes.length) (hk : k = min 10 x.edges.length ∨ i = 0) (hk0 : i = 0 → k = 0) : madeG x = ⟨mN x i, mE x i k⟩ := by
  have h1 : mN x 8 = mN x i := by rw [hi]; unfold mN; rw [List.take_eq_take_min]
  unfold madeG
  rw [h1]
  by_cases h0 : x.nodes.length = 0
  · have : i = 0 := by omega
    rw [if_pos h0, hk0 this, mE_zero]
  · have hi0 : ¬ i = 0 := by omega
    have hk' : k = min 10 x.edges.length := by rcases hk with h | h; exact h; exact absurd h hi0
    have h2 : (mN x i).length = i := by rw [mN_len]; omega
    rw [if_neg h0, h2]
    congr 1
    rw [hk']; unfold mE; rw [List.take_eq_take_min]

def st25b (x : Dr) (n : Nat) (nb : Nat) (box : Nat → Option (List (List AV))) (a : Acc) : AState :=
  ⟨tl [(5, I n), (6, I a.i), (3, AV.ptr (nb + 3) 0 0), (2, AV.ptr (nb + 2) 0 0), (1, AV.ptr (nb + 1) 0 0)],
    lb nb box [(3, [[.d (ints (mN x n)), .osl 3 (rE (mE x n a.i)) a.own]]),
            (1, [[AV.d (D.sl 1 (List.map (fun n => [u8 n]) x.nodes)), AV.d (D.sl 3 (List.map (fun e => [u8 e.fst, u8 e.snd.fst, u8 e.snd.snd]) x.edges))]]), (2, [[.bot, .bot]])], a.tok, a.nt⟩

theorem made25_c (x : Dr) (hx : x.U8) (tok : Nat → Bool) (nt : Nat) : DCall Try.prog 25 [x.av] tok nt (madeG x).av tok nt := by
  intro box nb
  refine ACalls.of_body Try.func25 rfl (by kernel_rfl) follows_Try (by kernel_rfl) (by simp [Try.ntmps25]) ?_
  intro hbox htok
  simp only at hbox htok
  apply AL.start
  repeat (first | refine AL.seq ?_ | refine AL.block ?_ | refine AL.skip ?_ | refine AL.blk ?_)
  refine AL.region follows_Try (Nat.le_refl _) (by kernel_rfl) ?_
  simp
  repeat (first | refine AL.seq ?_ | refine AL.block ?_ | refine AL.skip ?_ | refine AL.blk ?_)
  refine AL.region follows_Try (Nat.le_refl _) (by kernel_rfl) ?_
  simp
  repeat (first | refine AL.seq ?_ | refine AL.block ?_ | refine AL.skip ?_ | refine AL.blk ?_)
  refine AL.region follows_Try (Nat.le_refl _) (by kernel_rfl) ?_
  simp
  repeat (first | refine AL.seq ?_ | refine AL.block ?_ | refine AL.skip ?_ | refine AL.blk ?_)
  refine AL.loopT (st25a x nb box) (fun a => a.i ≤ x.nodes.length ∧ a.i ≤ 8 ∧ TK tok nt a.tok a.nt [a.own]) (fun a => x.nodes.length - a.i) ⟨0, .full, tok, nt⟩ ⟨Nat.zero_le _, Nat.zero_le _, (TK.start htok).full⟩ ?_ ?_
  · simp only [st25a]
    exact Weaks.mk (Nat.le_refl _) rfl (by simp [ToL, lk]) (by simp [BoxL, lk, mN_zero])
  rintro ⟨i, own, tok', nt'⟩ S ⟨hi, hi8, htk⟩ hS
  simp only [st25a] at hS hi hi8 htk
  subst hS
  have hw : IntKind.i64.wrap (↑i + 1) = ((i + 1 : Nat) : Int) := by rw [wrap_in (by omega) (by omega)]; rfl
  repeat (first | refine AL.seq ?_ | refine AL.block ?_ | refine AL.skip ?_ | refine AL.blk ?_)
  refine AL.region follows_Try (Nat.le_refl _) (by kernel_rfl) ?_
  simp
  by_cases h1 : i < x.nodes.length
  case' neg =>
    simp [h1]
    repeat (first | refine AL.seq ?_ | refine AL.block ?_ | refine AL.skip ?_ | refine AL.blk ?_)
    refine AL.cond ?_
    simp
    repeat (first | refine AL.seq ?_ | refine AL.block ?_ | refine AL.skip ?_ | refine AL.blk ?_)
    refine AL.exit ?_
    simp only [AU, ↓reduceIte]
    have hex : i = min 8 x.nodes.length := by omega
  case' pos =>
    simp [h1]
    repeat (first | refine AL.seq ?_ | refine AL.block ?_ | refine AL.skip ?_ | refine AL.blk ?_)
    refine AL.cond ?_
    simp
    refine ⟨fun hlt => ?stepg, fun hge => ?exg⟩
    case' exg =>
      repeat (first | refine AL.seq ?_ | refine AL.block ?_ | refine AL.skip ?_ | refine AL.blk ?_)
      refine AL.exit ?_
      simp only [AU, ↓reduceIte]
      have hex : i = min 8 x.nodes.length := by omega
    case stepg =>
      have hu := hx.n _ (List.getElem_mem h1)
      have hm : x.nodes[i].tmod 3 = x.nodes[i] % 3 := Int.tmod_eq_emod_of_nonneg hu.1
      have hwm : IntKind.i64.wrap (x.nodes[i] % 3) = x.nodes[i] % 3 := wrap_in (by omega) (by omega)
      repeat (first | refine AL.seq ?_ | refine AL.block ?_ | refine AL.skip ?_ | refine AL.blk ?_)
      refine AL.region follows_Try (Nat.le_refl _) (by kernel_rfl) ?_
      simp [h1]
      refine ⟨⟨by omega, htk.live⟩, ?_⟩
      repeat (first | refine AL.seq ?_ | refine AL.block ?_ | refine AL.skip ?_ | refine AL.blk ?_)
      refine AL.region follows_Try (Nat.le_refl _) (by kernel_rfl) ?_
      simp [hw]
      repeat (first | refine AL.seq ?_ | refine AL.block ?_ | refine AL.skip ?_ | refine AL.blk ?_)
      refine AL.nil ?_
      exact ⟨⟨i + 1, _, _, _⟩, ⟨h1, by simp only; omega, htk.app⟩, by simp; omega, Weaks.mk htk.app.le rfl (by simp [ToL, lk]) (by simp [BoxL, lk, mN_succ x h1, hm, hwm])⟩
  all_goals
    have hmin : min i x.nodes.length = i := by omega
    repeat (first | refine AL.seq ?_ | refine AL.block ?_ | refine AL.skip ?_ | refine AL.blk ?_)
    refine AL.region follows_Try (Nat.le_refl _) (by kernel_rfl) ?_
    simp [hmin]
    repeat (first | refine AL.seq ?_ | refine AL.block ?_ | refine AL.skip ?_ | refine AL.blk ?_)
    refine AL.region follows_Try (Nat.le_refl _) (by kernel_rfl) ?_
    simp
    repeat (first | refine AL.seq ?_ | refine AL.block ?_ | refine AL.skip ?_ | refine AL.blk ?_)
    refine AL.loopT (st25b x i nb box) (fun a => a.i ≤ x.edges.length ∧ a.i ≤ 10 ∧ (i = 0 → a.i = 0) ∧ TK tok nt a.tok a.nt [a.own]) (fun a => x.edges.length - a.i) ⟨0, .full, tok', nt'⟩ ⟨Nat.zero_le _, Nat.zero_le _, fun _ => rfl, htk.tail.full⟩ (Weaks.mk htk.le rfl (by simp [ToL, lk]) (by simp [BoxL, lk, mE_zero])) ?_
    rintro ⟨k, own2, tok2, nt2⟩ S ⟨hk, hk10, hk0, htk2⟩ hS
    simp only [st25b] at hS hk hk10 hk0 htk2
    subst hS
    have hw : IntKind.i64.wrap (↑k + 1) = ((k + 1 : Nat) : Int) := by rw [wrap_in (by omega) (by omega)]; rfl
    repeat (first | refine AL.seq ?_ | refine AL.block ?_ | refine AL.skip ?_ | refine AL.blk ?_)
    refine AL.region follows_Try (Nat.le_refl _) (by kernel_rfl) ?_
    simp
    have hzero : i = 0 → x.nodes.length = 0 := by omega
    by_cases g1 : k < x.edges.length
    case' neg =>
      simp [g1]
      repeat (first | refine AL.seq ?_ | refine AL.block ?_ | refine AL.skip ?_ | refine AL.blk ?_)
      refine AL.cond ?_
      simp
      repeat (first | refine AL.seq ?_ | refine AL.block ?_ | refine AL.skip ?_ | refine AL.blk ?_)
      refine AL.exit ?_
      simp only [AU, ↓reduceIte]
      have hR := madeG_eq x i k hex (by omega) hk0
    case' pos =>
      by_cases g2 : (k : Int) < 10
      case' neg =>
        simp [g1, g2]
        repeat (first | refine AL.seq ?_ | refine AL.block ?_ | refine AL.skip ?_ | refine AL.blk ?_)
        refine AL.cond ?_
        simp
        repeat (first | refine AL.seq ?_ | refine AL.block ?_ | refine AL.skip ?_ | refine AL.blk ?_)
        refine AL.exit ?_
        simp only [AU, ↓reduceIte]
        have hR := madeG_eq x i k hex (by omega) hk0
      case' pos =>
        by_cases g3 : 0 < i
        case' neg =>
          simp [g1, g2, g3]
          repeat (first | refine AL.seq ?_ | refine AL.block ?_ | refine AL.skip ?_ | refine AL.blk ?_)
          refine AL.cond ?_
          simp
          repeat (first | refine AL.seq ?_ | refine AL.block ?_ | refine AL.skip ?_ | refine AL.blk ?_)
          refine AL.exit ?_
          simp only [AU, ↓reduceIte]
          have hR := madeG_eq x i k hex (by omega) hk0
        case' pos =>
          obtain ⟨⟨u1, u2⟩, ⟨v1, v2⟩, ⟨w1, w2⟩⟩ := hx.e _ (List.getElem_mem g1)
          simp [g1, g2, g3]
          repeat (first | refine AL.seq ?_ | refine AL.block ?_ | refine AL.skip ?_ | refine AL.blk ?_)
          refine AL.cond ?_
          simp
          have hi0 : ¬ i = 0 := by omega
          repeat (first | refine AL.seq ?_ | refine AL.block ?_ | refine AL.skip ?_ | refine AL.blk ?_)
          refine AL.region follows_Try (Nat.le_refl _) (by kernel_rfl) ?_
          simp [g1, g3, hi0]
          refine ⟨⟨by omega, htk2.live⟩, ?_⟩
          repeat (first | refine AL.seq ?_ | refine AL.block ?_ | refine AL.skip ?_ | refine AL.blk ?_)
          refine AL.region follows_Try (Nat.le_refl _) (by kernel_rfl) ?_
          simp [hw]
          repeat (first | refine AL.seq ?_ | refine AL.block ?_ | refine AL.skip ?_ | refine AL.blk ?_)
          refine AL.nil ?_
          have q1 : IntKind.i64.wrap (x.edges[k].1.tmod 2) = x.edges[k].1 % 2 := by rw [Int.tmod_eq_emod_of_nonneg u1]; exact wrap_in (by omega) (by omega)
          have q2 : (IntKind.i64.wrap x.edges[k].2.1).tmod (i : Int) = x.edges[k].2.1 % (i : Int) := by rw [wrap_in (by omega) (by omega), Int.tmod_eq_emod_of_nonneg v1]
          have q3 : (IntKind.i64.wrap x.edges[k].2.2).tmod (i : Int) = x.edges[k].2.2 % (i : Int) := by rw [wrap_in (by omega) (by omega), Int.tmod_eq_emod_of_nonneg w1]
          exact ⟨⟨k + 1, _, _, _⟩, ⟨g1, by simp only; omega, htk2.app⟩, by simp; omega, Weaks.mk htk2.app.le rfl (by simp [ToL, lk]) (by simp [BoxL, lk, mE_succ x i g1, q1, q2, q3])⟩
    all_goals
      repeat (first | refine AL.seq ?_ | refine AL.block ?_ | refine AL.skip ?_ | refine AL.blk ?_)
      refine AL.region follows_Try (Nat.le_refl _) (by kernel_rfl) ?_
      simp
      repeat (first | refine AL.seq ?_ | refine AL.block ?_ | refine AL.skip ?_ | refine AL.blk ?_)
      refine AL.ret ?_
      try simp only [AU]
      refine ⟨by simp, Fin.data (by simp [resAs, resA]; rfl) hbox rfl htok htk2.old htk2.le ?_⟩
      simp [packA, hR]
end Go.AM
/-
  The plain law of the standard overlaps, second part: each gluing along partial matchings is a valid graph with two injective, jointly surjective morphisms, and it tells its matchings. No program in sight.
-/
namespace Go.AM
open Go
set_option linter.unusedSimpArgs false
set_option linter.unusedVariables false

theorem getD_lt {α : Type} {r : List α} {v d : α} {j : Nat} (h : j < r.length) : (r ++ [v]).getD j d = r.getD j d := by
  simp [List.getD_eq_getElem?_getD, List.getElem?_append_left h]
theorem getD_at {α : Type} {r : List α} {v d : α} : (r ++ [v]).getD r.length d = v := by
  simp [List.getD_eq_getElem?_getD]
theorem getD_pre {α : Type} {r t : List α} {d : α} {j : Nat} (h : j < r.length) : (r ++ t).getD j d = r.getD j d := by
  simp [List.getD_eq_getElem?_getD, List.getElem?_append_left h]
theorem getD_mem {α : Type} {r : List α} {d : α} {j : Nat} (h : j < r.length) : r.getD j d ∈ r := by
  simp [List.getD_eq_getElem?_getD, List.getElem?_eq_getElem h]
theorem iota_getD {n j : Nat} (h : j < n) : (iota n).getD j 0 = j := by
  simp [iota, List.getD_eq_getElem?_getD, h]

/-! ### A gluing, generally -/
def glueG {α : Type} [Inhabited α] (an bn : List α) (x : List Int) : Nat → List α × List Int
  | 0 => (an, [])
  | i + 1 => if x.getD i 0 < 0 then ((glueG an bn x i).1 ++ [bn.getD i default], (glueG an bn x i).2 ++ [((glueG an bn x i).1.length : Int)]) else ((glueG an bn x i).1, (glueG an bn x i).2 ++ [x.getD i 0])

theorem glueN_G (an bn l : List Int) : ∀ i, glueN an bn l i = glueG an bn l i
  | 0 => rfl
  | i + 1 => by
    simp only [glueN, glueG, glueN_G an bn l i]
    rfl

def mapE (rn : List Int) (e : E) : E := ⟨e.ty, rn.getD e.fr.toNat 0, rn.getD e.to.toNat 0⟩
theorem glueE_G (ae be : List E) (rn l : List Int) : ∀ i, i ≤ be.length → glueE ae be rn l i = glueG ae (be.map (mapE rn)) l i
  | 0, _ => rfl
  | i + 1, h => by
    have e : (be.map (mapE rn)).getD i default = mapE rn (be.getD i default) := by
      have : i < be.length := by omega
      simp [List.getD_eq_getElem?_getD, this]
    simp only [glueE, glueG, glueE_G ae be rn l i (by omega), e]
    rfl

structure GI {α : Type} [Inhabited α] (an bn : List α) (x : List Int) (i : Nat) (rn : List α) (r : List Int) : Prop where
  len : r.length = i
  pre : ∃ t, rn = an ++ t ∧ ∀ y ∈ t, y ∈ bn
  rng : ∀ j, j < i → 0 ≤ r.getD j 0 ∧ r.getD j 0 < rn.length
  val : ∀ j, j < i → rn.getD (r.getD j 0).toNat default = bn.getD j default
  neg : ∀ j, j < i → x.getD j 0 < 0 → (an.length : Int) ≤ r.getD j 0
  pos : ∀ j, j < i → ¬ x.getD j 0 < 0 → r.getD j 0 = x.getD j 0
  dist : ∀ j k, j < k → k < i → r.getD j 0 ≠ r.getD k 0
  cov : ∀ v : Nat, an.length ≤ v → v < rn.length → (v : Int) ∈ r

theorem glue_gi {α : Type} [Inhabited α] {an bn : List α} {x : List Int} {ok : Nat → Nat → Bool} (h : isM ok an.length bn.length x) (hok : ∀ i k, i < bn.length → k < an.length → ok i k = true → an.getD k default = bn.getD i default) :
    ∀ i, i ≤ bn.length → GI an bn x i (glueG an bn x i).1 (glueG an bn x i).2
  | 0, _ => ⟨rfl, ⟨[], by simp [glueG], by simp⟩, fun j hj => absurd hj (Nat.not_lt_zero _), fun j hj => absurd hj (Nat.not_lt_zero _), fun j hj => absurd hj (Nat.not_lt_zero _), fun j hj => absurd hj (Nat.not_lt_zero _), fun j k _ hj => absurd hj (Nat.not_lt_zero _), fun v h1 h2 => by simp only [glueG] at h2; omega⟩
  | i + 1, hi => by
    have g := glue_gi h hok i (by omega)
    simp only [glueG]
    generalize hrn : (glueG an bn x i).1 = rn at g ⊢
    generalize hr : (glueG an bn x i).2 = r at g ⊢
    obtain ⟨t, ht, htb⟩ := g.pre
    have hlen := g.len
    have hal : an.length ≤ rn.length := by rw [ht]; simp
    have hib : i < bn.length := by omega
    rcases h.2 i hib with hx | ⟨k, hx, hk, hkok, hnot⟩
    · rw [if_pos (by omega)]
      have old : ∀ j, j < i → (r ++ [(rn.length : Int)]).getD j 0 = r.getD j 0 := fun j hj => getD_lt (by omega)
      have new : (r ++ [(rn.length : Int)]).getD i 0 = rn.length := by rw [← hlen]; exact getD_at
      refine ⟨by simp [hlen], ⟨t ++ [bn.getD i default], by rw [ht, List.append_assoc], ?_⟩, fun j hj => ?_, fun j hj => ?_, fun j hj => ?_, fun j hj => ?_, fun j k hjk hk => ?_, fun v h1 h2 => ?_⟩
      · intro y hy
        rcases List.mem_append.1 hy with hy | hy
        · exact htb y hy
        · simp only [List.mem_singleton] at hy
          subst hy
          exact getD_mem hib
      · simp only [List.length_append, List.length_cons, List.length_nil]
        by_cases e : j = i
        · subst e; rw [new]; omega
        · rw [old j (by omega)]; have := g.rng j (by omega); omega
      · by_cases e : j = i
        · subst e; rw [new, Int.toNat_natCast]; exact getD_at
        · rw [old j (by omega), getD_lt (by have := g.rng j (by omega); omega)]; exact g.val j (by omega)
      · by_cases e : j = i
        · subst e; intro _; rw [new]; omega
        · rw [old j (by omega)]; exact g.neg j (by omega)
      · by_cases e : j = i
        · subst e; intro hn; omega
        · rw [old j (by omega)]; exact g.pos j (by omega)
      · by_cases e : k = i
        · subst e; rw [new, old j hjk]; have := g.rng j hjk; omega
        · rw [old j (by omega), old k (by omega)]; exact g.dist j k hjk (by omega)
      · simp only [List.length_append, List.length_cons, List.length_nil] at h2
        by_cases e : v = rn.length
        · subst e; simp
        · exact List.mem_append.2 (.inl (g.cov v h1 (by omega)))
    · rw [if_neg (by omega)]
      have old : ∀ j, j < i → (r ++ [x.getD i 0]).getD j 0 = r.getD j 0 := fun j hj => getD_lt (by omega)
      have new : (r ++ [x.getD i 0]).getD i 0 = x.getD i 0 := by
        have : (r ++ [x.getD i 0]).getD r.length 0 = x.getD i 0 := getD_at
        rw [hlen] at this; exact this
      refine ⟨by simp [hlen], ⟨t, ht, htb⟩, fun j hj => ?_, fun j hj => ?_, fun j hj => ?_, fun j hj => ?_, fun j k' hjk hk' => ?_, fun v h1 h2 => ?_⟩
      · by_cases e : j = i
        · subst e; have hkr : ((k : Nat) : Int) < rn.length := by omega
          rw [new, hx]; exact ⟨by omega, hkr⟩
        · rw [old j (by omega)]; exact g.rng j (by omega)
      · by_cases e : j = i
        · subst e; rw [new, hx, Int.toNat_natCast, ht, getD_pre hk]; exact hok j k hib hk hkok
        · rw [old j (by omega)]; exact g.val j (by omega)
      · by_cases e : j = i
        · subst e; intro hn; omega
        · rw [old j (by omega)]; exact g.neg j (by omega)
      · by_cases e : j = i
        · subst e; intro hn; exact new
        · rw [old j (by omega)]; exact g.pos j (by omega)
      · by_cases e : k' = i
        · subst e
          rw [new, old j hjk]
          by_cases hn : x.getD j 0 < 0
          · have := g.neg j hjk hn
            omega
          · rw [g.pos j hjk hn]
            intro e2
            have := isM_inj h (show j < bn.length by omega) hib (by rw [e2]; exact hx) hx
            omega
        · rw [old j (by omega), old k' (by omega)]; exact g.dist j k' hjk (by omega)
      · exact List.mem_append.2 (.inl (g.cov v h1 h2))

theorem gi_inj {α : Type} [Inhabited α] {an bn : List α} {ok ok' : Nat → Nat → Bool} {x x' : List Int} (h : isM ok an.length bn.length x) (h' : isM ok' an.length bn.length x') {rn rn' : List α} {r : List Int} {bn' : List α}
    (g : GI an bn x bn.length rn r) (g' : GI an bn' x' bn.length rn' r) : x = x' := by
  apply List.ext_getElem
  · rw [h.1, h'.1]
  · intro i h1 h2
    have hi : i < bn.length := by rw [← h.1]; exact h1
    have e1 : x.getD i 0 = x[i] := by simp [h1]
    have e2 : x'.getD i 0 = x'[i] := by simp [h2]
    rw [← e1, ← e2]
    rcases h.2 i hi with a | ⟨k, a, ak, _⟩ <;> rcases h'.2 i hi with b | ⟨k', b, bk, _⟩
    · omega
    · have := g.neg i hi (by omega); have := g'.pos i hi (by omega); omega
    · have := g'.neg i hi (by omega); have := g.pos i hi (by omega); omega
    · have := g'.pos i hi (by omega); have := g.pos i hi (by omega); omega

/-! ### The parts of the law -/
theorem firstE_zero {f : Nat → Int} : ∀ n, (∀ i, i < n → f i = 0) → firstE f n = 0
  | 0, _ => rfl
  | n + 1, h => by
    simp only [firstE, firstE_zero n fun i hi => h i (by omega), ↓reduceIte]
    exact h n (by omega)

theorem distK_of {l : List Int} {n : Nat} (h : ∀ j k, j < k → k < n → l.getD j 0 ≠ l.getD k 0) : distK l n = true := by
  simp only [distK, List.all_eq_true, List.mem_range, decide_eq_true_eq]
  exact fun j hj k hk e => h k j hk hj e.symm

theorem validG_types {g : Gr} (h : validG g = 0) : (g.nodes.length ≤ 40 ∧ g.edges.length ≤ 80) ∧ (∀ n ∈ g.nodes, withinB n 99 = true) ∧ ∀ e ∈ g.edges, fitsB e g.nodes.length = true := by
  unfold validG at h
  split at h
  · cases h
  · rename_i h0
    split at h
    · cases h
    · rename_i h1
      split at h
      · cases h
      · rename_i h2
        simp only [anyB, List.any_eq_true, not_exists, not_and, Bool.not_eq_true', Bool.not_eq_false] at h1 h2
        exact ⟨by omega, h1, h2⟩

theorem validG_of {g : Gr} (h0 : g.nodes.length ≤ 40 ∧ g.edges.length ≤ 80) (h1 : ∀ n ∈ g.nodes, withinB n 99 = true) (h2 : ∀ e ∈ g.edges, fitsB e g.nodes.length = true) : validG g = 0 := by
  unfold validG
  rw [if_neg (by omega), if_neg, if_neg]
  · simp only [anyB, List.any_eq_true, not_exists, not_and, Bool.not_eq_true', Bool.not_eq_false]; exact h2
  · simp only [anyB, List.any_eq_true, not_exists, not_and, Bool.not_eq_true', Bool.not_eq_false]; exact h1

theorem fitsB_iff (e : E) (n : Int) : fitsB e n = true ↔ withinB e.ty 99 = true ∧ (0 ≤ e.fr ∧ e.fr < n) ∧ (0 ≤ e.to ∧ e.to < n) := by
  simp only [fitsB, withinB, Bool.and_eq_true, decide_eq_true_eq]
  omega


/-- The parts of a gluing along two matchings. -/
structure Glued (a b : Gr) (x es : List Int) : Prop where
  n : GI a.nodes b.nodes x b.nodes.length (glue a b x es).g.nodes (glue a b x es).r.nodes
  e : GI a.edges (b.edges.map (mapE (glue a b x es).r.nodes)) es b.edges.length (glue a b x es).g.edges (glue a b x es).r.edges

theorem glued_of {a b : Gr} (ha : EOk a) (hb : EOk b) {x es : List Int} (h : isPair a b (x, es)) : Glued a b x es := by
  obtain ⟨h1, h2⟩ := h
  simp only at h1 h2
  have hxl : x.length = b.nodes.length := h1.1
  have hel : es.length = b.edges.length := h2.1
  have gn : GI a.nodes b.nodes x b.nodes.length (glue a b x es).g.nodes (glue a b x es).r.nodes := by
    simp only [glue, glueN_G, hxl]
    refine glue_gi h1 (fun i k hi hk hok => ?_) _ (Nat.le_refl _)
    unfold okN at hok
    rw [decide_eq_true_eq] at hok
    exact hok
  refine ⟨gn, ?_⟩
  have key : isM (okE a b x) a.edges.length (b.edges.map (mapE (glue a b x es).r.nodes)).length es := by rw [List.length_map]; exact h2
  have := glue_gi (an := a.edges) (bn := b.edges.map (mapE (glue a b x es).r.nodes)) (x := es) (ok := okE a b x) key (fun i k hi hk hok => ?_) b.edges.length (by simp)
  · have e0 : (glue a b x es).r.nodes = (glueN a.nodes b.nodes x x.length).2 := rfl
    have e1 : (glue a b x es).g.edges = (glueE a.edges b.edges (glueN a.nodes b.nodes x x.length).2 es es.length).1 := rfl
    have e2 : (glue a b x es).r.edges = (glueE a.edges b.edges (glueN a.nodes b.nodes x x.length).2 es es.length).2 := rfl
    rw [e1, e2, ← e0, hel, glueE_G _ _ _ _ _ (Nat.le_refl _)]
    exact this
  · have hib : i < b.edges.length := by simpa using hi
    unfold okE at hok
    rw [decide_eq_true_eq] at hok
    have g1 : a.edges.getD k default = a.edges[k] := by simp [hk]
    have g2 : b.edges.getD i default = b.edges[i] := by simp [hib]
    have g3 : (b.edges.map (mapE (glue a b x es).r.nodes)).getD i default = mapE (glue a b x es).r.nodes b.edges[i] := by simp [hib]
    rw [g1, g2] at hok
    rw [g1, g3]
    obtain ⟨a1, a2, a3, a4⟩ := ha _ (List.getElem_mem hk)
    obtain ⟨b1, b2, b3, b4⟩ := hb _ (List.getElem_mem hib)
    have f1 : a.edges[k].fr = x.getD b.edges[i].fr.toNat 0 := congrArg E.fr hok
    have f2 : a.edges[k].to = x.getD b.edges[i].to.toNat 0 := congrArg E.to hok
    have p1 := gn.pos b.edges[i].fr.toNat (by omega) (by omega)
    have p2 := gn.pos b.edges[i].to.toNat (by omega) (by omega)
    unfold mapE
    rw [p1, p2]
    exact hok

theorem glue_law0 {a b : Gr} (hva : validG a = 0) (hvb : validG b = 0) {x es : List Int} (h : isPair a b (x, es)) (hs : (glue a b x es).g.nodes.length ≤ 40 ∧ (glue a b x es).g.edges.length ≤ 80) :
    validG (glue a b x es).g = 0 ∧ validM a (glue a b x es).g (glue a b x es).l = 0 ∧ validM b (glue a b x es).g (glue a b x es).r = 0 := by
  have ha := validG_edges hva
  have hb := validG_edges hvb
  obtain ⟨_, ta, tea⟩ := validG_types hva
  obtain ⟨_, tb, teb⟩ := validG_types hvb
  obtain ⟨gn, ge⟩ := glued_of ha hb h
  have hl : (glue a b x es).l = idM a := rfl
  rw [hl]
  generalize glue a b x es = o at *
  obtain ⟨tn, htn, htnb⟩ := gn.pre
  obtain ⟨te, hte, hteb⟩ := ge.pre
  have nl : a.nodes.length ≤ o.g.nodes.length := by rw [htn]; simp
  have el : a.edges.length ≤ o.g.edges.length := by rw [hte]; simp
  have hv : validG o.g = 0 := by
    refine validG_of (by omega) (fun n hn => ?_) fun e he => ?_
    · rw [htn] at hn
      rcases List.mem_append.1 hn with hn | hn
      · exact ta n hn
      · exact tb n (htnb n hn)
    · rw [hte] at he
      rw [fitsB_iff]
      rcases List.mem_append.1 he with he | he
      · have := (fitsB_iff _ _).1 (tea e he)
        exact ⟨this.1, by omega, by omega⟩
      · obtain ⟨y, hy, rfl⟩ := List.mem_map.1 (hteb e he)
        have := (fitsB_iff _ _).1 (teb y hy)
        obtain ⟨y1, y2, y3, y4⟩ := hb y hy
        have r1 := gn.rng y.fr.toNat (by omega)
        have r2 := gn.rng y.to.toNat (by omega)
        exact ⟨this.1, r1, r2⟩
  refine ⟨hv, ?_, ?_⟩
  · unfold validM
    have z1 : firstE (nodeE a o.g (idM a)) a.nodes.length = 0 := firstE_zero _ fun i hi => by
      have e1 : (idM a).nodes.getD i 0 = i := iota_getD hi
      unfold nodeE
      rw [e1, if_neg (by omega), Int.toNat_natCast, if_pos]
      rw [htn, getD_pre hi]
    have z2 : firstE (edgeE a o.g (idM a)) a.edges.length = 0 := firstE_zero _ fun i hi => by
      have e1 : (idM a).edges.getD i 0 = i := iota_getD hi
      obtain ⟨a1, a2, a3, a4⟩ := ha _ (getD_mem (d := default) hi)
      have e2 : (idM a).nodes.getD (a.edges.getD i default).fr.toNat 0 = (a.edges.getD i default).fr.toNat := iota_getD (by omega)
      have e3 : (idM a).nodes.getD (a.edges.getD i default).to.toNat 0 = (a.edges.getD i default).to.toNat := iota_getD (by omega)
      unfold edgeE
      rw [e1, if_neg (by omega), Int.toNat_natCast]
      have e4 : o.g.edges.getD i default = a.edges.getD i default := by rw [hte, getD_pre hi]
      simp only [e4, e2, e3, ne_eq, not_true_eq_false, ↓reduceIte]
      rw [if_neg (by omega)]
    rw [if_neg (by simp [hva]), if_neg (by simp [hv]), if_neg (by simp [idM]), if_neg (by simp [z1]), z2]
  · unfold validM
    have ln := gn.len
    have le := ge.len
    have z1 : firstE (nodeE b o.g o.r) b.nodes.length = 0 := firstE_zero _ fun i hi => by
      have r1 := gn.rng i hi
      unfold nodeE
      rw [if_neg (by omega), if_pos]
      exact gn.val i hi
    have z2 : firstE (edgeE b o.g o.r) b.edges.length = 0 := firstE_zero _ fun i hi => by
      have r1 := ge.rng i hi
      have v1 := ge.val i hi
      have g3 : (b.edges.map (mapE o.r.nodes)).getD i default = mapE o.r.nodes (b.edges.getD i default) := by simp [hi]
      rw [g3] at v1
      unfold edgeE
      rw [if_neg (by omega)]
      simp only [v1, mapE, ne_eq, not_true_eq_false, or_self, ↓reduceIte]
    rw [if_neg (by simp [hvb]), if_neg (by simp [hv]), if_neg (by omega), if_neg (by simp [z1]), z2]

theorem glue_law {a b : Gr} (hva : validG a = 0) (hvb : validG b = 0) (hs : a.nodes.length + b.nodes.length ≤ 40 ∧ a.edges.length + b.edges.length ≤ 80) {x es : List Int} (h : isPair a b (x, es)) :
    validG (glue a b x es).g = 0 ∧ validM a (glue a b x es).g (glue a b x es).l = 0 ∧ validM b (glue a b x es).g (glue a b x es).r = 0 := by
  have hxl : x.length = b.nodes.length := h.1.1
  have hel : es.length = b.edges.length := h.2.1
  have l1 := (glueN_len a.nodes b.nodes x x.length).1
  have l2 := (glueE_len a.edges b.edges (glueN a.nodes b.nodes x x.length).2 es es.length).1
  have m1 : (glue a b x es).g.nodes.length ≤ a.nodes.length + x.length := l1
  have m2 : (glue a b x es).g.edges.length ≤ a.edges.length + es.length := l2
  exact glue_law0 hva hvb h (by omega)

theorem glue_law2 {a b : Gr} (hva : validG a = 0) (hvb : validG b = 0) (hs : a.nodes.length + b.nodes.length ≤ 40 ∧ a.edges.length + b.edges.length ≤ 80) {x es : List Int} (h : isPair a b (x, es)) :
    injM a (glue a b x es).g (glue a b x es).l = true ∧ injM b (glue a b x es).g (glue a b x es).r = true ∧ jointly a b (glue a b x es).g (glue a b x es).l (glue a b x es).r = true := by
  obtain ⟨hv, h1, h2⟩ := glue_law hva hvb hs h
  obtain ⟨gn, ge⟩ := glued_of (validG_edges hva) (validG_edges hvb) h
  have i1 : ∀ n, distK (iota n) n = true := fun n => distK_of fun j k hjk hk => by
    rw [iota_getD hk, iota_getD (by omega)]; omega
  have i2 : ∀ l : List Int, ∀ n m : Nat, (∀ v : Nat, n ≤ v → v < m → (v : Int) ∈ l) → covK (iota n) l m = true := fun l n m hc => by
    simp only [covK, List.all_eq_true, List.mem_range, Bool.or_eq_true, decide_eq_true_eq]
    intro v hv
    by_cases hvn : v < n
    · left; simp only [iota, List.mem_map, List.mem_range]; exact ⟨v, hvn, rfl⟩
    · right; exact hc v (by omega) hv
  refine ⟨?_, ?_, ?_⟩
  · have e1 : (glue a b x es).l = idM a := rfl
    unfold injM
    rw [h1, e1]
    simp [idM, i1]
  · unfold injM
    rw [h2, gn.len, ge.len, distK_of gn.dist, distK_of ge.dist]
    rfl
  · unfold jointly
    rw [h1, h2]
    have c1 := i2 _ _ _ gn.cov
    have c2 := i2 _ _ _ ge.cov
    have e1 : (glue a b x es).l.nodes = iota a.nodes.length := rfl
    have e2 : (glue a b x es).l.edges = iota a.edges.length := rfl
    rw [e1, e2, c1, c2]
    rfl

/-! ### The list of overlaps -/
theorem listO_nodup {a b : Gr} (hva : validG a = 0) (hvb : validG b = 0) : (listO a b).Nodup := by
  unfold listO
  refine List.Pairwise.map _ (fun _ _ h => h) ?_
  refine List.Pairwise.imp_of_mem ?_ (pairsM_nodup a b)
  rintro ⟨x, es⟩ ⟨x', es'⟩ hp hq hne e
  have p1 := (pairsM_mem a b _).1 hp
  have p2 := (pairsM_mem a b _).1 hq
  have g1 := glued_of (validG_edges hva) (validG_edges hvb) p1
  have g2 := glued_of (validG_edges hva) (validG_edges hvb) p2
  simp only at e
  have e1 : x = x' := by
    have := g2.n
    rw [← e] at this
    exact gi_inj p1.1 p2.1 g1.n this
  have e2 : es = es' := by
    have := g2.e
    rw [← e] at this
    have q1 : isM (okE a b x) a.edges.length (b.edges.map (mapE (glue a b x es).r.nodes)).length es := by rw [List.length_map]; exact p1.2
    have q2 : isM (okE a b x') a.edges.length (b.edges.map (mapE (glue a b x es).r.nodes)).length es' := by rw [List.length_map]; exact p2.2
    have w1 := g1.e
    have w2 := this
    have hlm : (b.edges.map (mapE (glue a b x es).r.nodes)).length = b.edges.length := by simp
    rw [← hlm] at w1 w2
    exact gi_inj q1 q2 w1 w2
  exact hne (by rw [e1, e2])

theorem dM_head (ok : Nat → Nat → Bool) (na : Nat) : ∀ (n : Nat) (l : List Int), ∃ t, dM ok na n l = (l ++ List.replicate n (-1)) :: t
  | 0, l => ⟨[], by simp [dM]⟩
  | n + 1, l => by
    obtain ⟨t, ht⟩ := dM_head ok na n (l ++ [-1])
    simp only [dM, choicesM, List.flatMap_cons, ht, List.cons_append]
    exact ⟨_, by rw [List.append_assoc, List.replicate_succ]; rfl⟩

theorem glueN_neg (an bn : List Int) (n : Nat) : ∀ i, i ≤ n → (glueN an bn (List.replicate n (-1)) i).1.length = an.length + i
  | 0, _ => by simp [glueN]
  | i + 1, h => by
    have e : (List.replicate n (-1 : Int)).getD i 0 = -1 := by
      have : i < n := by omega
      simp [List.getD_eq_getElem?_getD, this]
    simp only [glueN, e]
    rw [if_pos (by decide)]
    simp [glueN_neg an bn n i (by omega)]
    omega

theorem listO_head (a b : Gr) : ∃ o t, listO a b = o :: t ∧ o.g.nodes.length = a.nodes.length + b.nodes.length := by
  obtain ⟨t1, h1⟩ := dM_head (okN a b) a.nodes.length b.nodes.length []
  obtain ⟨t2, h2⟩ := dM_head (okE a b (List.replicate b.nodes.length (-1))) a.edges.length b.edges.length []
  have key : ∃ t, listO a b = glue a b (List.replicate b.nodes.length (-1)) (List.replicate b.edges.length (-1)) :: t := by
    unfold listO pairsM
    rw [h1]
    simp only [List.nil_append, List.flatMap_cons]
    rw [h2]
    simp only [List.nil_append, List.map_cons, List.cons_append]
    exact ⟨_, rfl⟩
  obtain ⟨t, ht⟩ := key
  refine ⟨_, t, ht, ?_⟩
  simp only [glue, List.length_replicate]
  exact glueN_neg _ _ _ _ (Nat.le_refl _)

/-! ### The graph of a draft -/
theorem madeG_small {x : Dr} (h : smallD x 4 3 = true) : (madeG x).nodes.length ≤ 4 ∧ (madeG x).edges.length ≤ 3 := by
  simp only [smallD, Bool.and_eq_true, decide_eq_true_eq] at h
  refine ⟨by simp only [madeG, mN_len]; omega, ?_⟩
  simp only [madeG]
  split
  · simp
  · simp only [mE_len]; omega
theorem madeG_len (x : Dr) : (madeG x).nodes.length ≤ 8 ∧ (madeG x).edges.length ≤ 10 := by
  refine ⟨by simp only [madeG, mN_len]; omega, ?_⟩
  simp only [madeG]
  split
  · simp
  · simp only [mE_len]; omega
theorem madeG_fit (x : Dr) : (madeG x).Fit := by
  have := madeG_len x
  exact ⟨by omega, by omega⟩
theorem madeG_valid {x : Dr} (hx : x.U8) : validG (madeG x) = 0 := by
  have hl := madeG_len x
  refine validG_of (by omega) (fun n hn => ?_) fun e he => ?_
  · simp only [madeG, mN, List.mem_map] at hn
    obtain ⟨k, hk, rfl⟩ := hn
    have := hx.n k (List.mem_of_mem_take hk)
    simp only [withinB, Bool.and_eq_true, decide_eq_true_eq]
    omega
  · simp only [madeG] at he
    split at he
    · simp at he
    · rename_i h0
      simp only [mE, List.mem_map] at he
      obtain ⟨k, hk, rfl⟩ := he
      have := hx.e k (List.mem_of_mem_take hk)
      have hp : 0 < ((mN x 8).length : Int) := by rw [mN_len]; omega
      rw [fitsB_iff]
      simp only [withinB, Bool.and_eq_true, decide_eq_true_eq, madeG]
      have m1 := Int.emod_nonneg k.2.1 (show ((mN x 8).length : Int) ≠ 0 by omega)
      have m2 := Int.emod_lt_of_pos k.2.1 hp
      have m3 := Int.emod_nonneg k.2.2 (show ((mN x 8).length : Int) ≠ 0 by omega)
      have m4 := Int.emod_lt_of_pos k.2.2 hp
      exact ⟨by omega, ⟨m1, m2⟩, m3, m4⟩
end Go.AM
namespace Go.AM
open Go Go.Proofs
set_option linter.unusedSimpArgs false
set_option linter.unusedVariables false

def st6 (a b : Gr) (L : List Ov) (nb : Nat) (box : Nat → Option (List (List AV))) (tok : Nat → Bool) (nt : Nat) (i : Nat) : AState :=
  ⟨tl [(63, .d (ovs L)), (64, I L.length), (65, I i), (7, .d (ovs L)), (6, .ptr (nb + 6) 0 0), (5, .ptr (nb + 5) 0 0)],
    lb nb box [(6, [[.d (ints b.nodes), .d (AM.edges b.edges)]]), (5, [[.d (ints a.nodes), .d (AM.edges a.edges)]])], tok, nt⟩

theorem law6_c (x y : Dr) (hx : x.U8) (hy : y.U8) (tok : Nat → Bool) (nt : Nat) : ∃ tok' nt', DCall Try.prog 6 [x.av, y.av] tok nt (B true) tok' nt' := by
  refine ⟨tok, nt, ?_⟩
  intro box nb
  refine ACalls.of_body Try.func6 rfl (by kernel_rfl) follows_Try (by kernel_rfl) (by simp [Try.ntmps6]) ?_
  intro hbox htok
  simp only at hbox htok
  apply AL.start
  repeat (first | refine AL.seq ?_ | refine AL.block ?_ | refine AL.skip ?_ | refine AL.blk ?_)
  refine AL.region follows_Try (Nat.le_refl _) (by kernel_rfl) ?_
  simp
  repeat (first | refine AL.seq ?_ | refine AL.block ?_ | refine AL.skip ?_ | refine AL.blk ?_)
  refine AL.region follows_Try (Nat.le_refl _) (by kernel_rfl) ?_
  simp
  refine Stop.of_d (awake_c _ _) ?_
  simp
  refine Stop.of_d (small24_c x 4 3 _ _) ?_
  simp
  by_cases h1 : smallD x 4 3 = true
  · simp [h1]
    refine Stop.of_d (small24_c y 4 3 _ _) ?_
    simp [h1]
    by_cases h2 : smallD y 4 3 = true
    · simp [h1, h2]
      repeat (first | refine AL.seq ?_ | refine AL.block ?_ | refine AL.skip ?_ | refine AL.blk ?_)
      refine AL.cond ?_
      simp
      repeat (first | refine AL.seq ?_ | refine AL.block ?_ | refine AL.skip ?_ | refine AL.blk ?_)
      refine AL.region follows_Try (Nat.le_refl _) (by kernel_rfl) ?_
      simp
      have m1 := made25_c x hx tok nt
      have m2 := made25_c y hy tok nt
      have hva := madeG_valid hx
      have hvb := madeG_valid hy
      have sa := madeG_small h1
      have sb := madeG_small h2
      have fa := madeG_fit x
      have fb := madeG_fit y
      generalize madeG x = a at *
      generalize madeG y = b at *
      have c1 := overlapsF_c a b fa fb tok nt
      have c2 := overlapsF_c b a fb fa tok nt
      have hlen := pairsM_len (validG_edges hva) (validG_edges hvb)
      have r1 := overlapsR_list a b hva hvb (by omega)
      have r2 := overlapsR_list b a hvb hva (by omega)
      rw [← hlen] at r2
      by_cases hbig : 2000 < (pairsM a b).length
      · rw [if_pos hbig] at r1 r2
        rw [r1] at c1
        rw [r2] at c2
        refine Stop.of_d (m1) ?_
        simp
        refine Stop.of_d (m2) ?_
        simp
        repeat (first | refine AL.seq ?_ | refine AL.block ?_ | refine AL.skip ?_ | refine AL.blk ?_)
        refine AL.region follows_Try (Nat.le_refl _) (by kernel_rfl) ?_
        simp
        refine Stop.of_d (c1) ?_
        simp
        repeat (first | refine AL.seq ?_ | refine AL.block ?_ | refine AL.skip ?_ | refine AL.blk ?_)
        refine AL.region follows_Try (Nat.le_refl _) (by kernel_rfl) ?_
        simp
        refine Stop.of_d (c2) ?_
        simp
        repeat (first | refine AL.seq ?_ | refine AL.block ?_ | refine AL.skip ?_ | refine AL.blk ?_)
        refine AL.region follows_Try (Nat.le_refl _) (by kernel_rfl) ?_
        simp
        repeat (first | refine AL.seq ?_ | refine AL.block ?_ | refine AL.skip ?_ | refine AL.blk ?_)
        refine AL.cond ?_
        simp
        repeat (first | refine AL.seq ?_ | refine AL.block ?_ | refine AL.skip ?_ | refine AL.blk ?_)
        refine AL.region follows_Try (Nat.le_refl _) (by kernel_rfl) ?_
        simp
        repeat (first | refine AL.seq ?_ | refine AL.block ?_ | refine AL.skip ?_ | refine AL.blk ?_)
        refine AL.ret ?_
        try simp only [AU]
        refine ⟨by simp, Fin.data (by simp [resAs, resA]; rfl) hbox rfl htok (fun _ h => h) (Nat.le_refl _) ?_⟩
        simp [packA]
      · rw [if_neg hbig] at r1 r2
        rw [r1] at c1
        rw [r2] at c2
        have hll : (listO a b).length = (listO b a).length := by simp only [listO, List.length_map]; exact hlen
        have hL : (listO a b).length ≤ 2000 := by simp only [listO, List.length_map]; omega
        have hK : (listO b a).length ≤ 2000 := by omega
        have hall : ∀ o ∈ listO a b, injM a o.g o.l = true ∧ injM b o.g o.r = true ∧ jointly a b o.g o.l o.r = true ∧ o.Fit := by
          intro o ho
          obtain ⟨p, hp, rfl⟩ := List.mem_map.1 ho
          have hp' := (pairsM_mem a b p).1 hp
          obtain ⟨k1, k2, k3⟩ := glue_law2 hva hvb (by omega) hp'
          have q1 := hp'.1.1
          have q2 := hp'.2.1
          exact ⟨k1, k2, k3, glue_fit a b p.1 p.2 (by omega) (by omega) (by omega)⟩
        have hnd := listO_nodup hva hvb
        obtain ⟨o0, t0, hhead, hh2⟩ := listO_head a b
        generalize listO a b = L at *
        generalize listO b a = K at *
        refine Stop.of_d (m1) ?_
        simp
        refine Stop.of_d (m2) ?_
        simp
        repeat (first | refine AL.seq ?_ | refine AL.block ?_ | refine AL.skip ?_ | refine AL.blk ?_)
        refine AL.region follows_Try (Nat.le_refl _) (by kernel_rfl) ?_
        simp
        refine Stop.of_d (c1) ?_
        simp
        repeat (first | refine AL.seq ?_ | refine AL.block ?_ | refine AL.skip ?_ | refine AL.blk ?_)
        refine AL.region follows_Try (Nat.le_refl _) (by kernel_rfl) ?_
        simp
        refine Stop.of_d (c2) ?_
        simp
        repeat (first | refine AL.seq ?_ | refine AL.block ?_ | refine AL.skip ?_ | refine AL.blk ?_)
        refine AL.region follows_Try (Nat.le_refl _) (by kernel_rfl) ?_
        simp [hll]
        repeat (first | refine AL.seq ?_ | refine AL.block ?_ | refine AL.skip ?_ | refine AL.blk ?_)
        refine AL.cond ?_
        simp
        repeat (first | refine AL.seq ?_ | refine AL.block ?_ | refine AL.skip ?_ | refine AL.blk ?_)
        refine AL.region follows_Try (Nat.le_refl _) (by kernel_rfl) ?_
        simp
        repeat (first | refine AL.seq ?_ | refine AL.block ?_ | refine AL.skip ?_ | refine AL.blk ?_)
        refine AL.loopT (st6 a b L nb box tok nt) (fun i => i ≤ L.length) (fun i => L.length - i) 0 (Nat.zero_le _) (Weaks.mk (Nat.le_refl _) rfl (by simp [ToL, lk]) (by simp [BoxL, lk])) ?_
        rintro i S hi hS
        simp only [st6] at hS
        subst hS
        have hw : IntKind.i64.wrap (↑i + 1) = ((i + 1 : Nat) : Int) := by rw [wrap_in (by omega) (by omega)]; rfl
        repeat (first | refine AL.seq ?_ | refine AL.block ?_ | refine AL.skip ?_ | refine AL.blk ?_)
        refine AL.region follows_Try (Nat.le_refl _) (by kernel_rfl) ?_
        simp
        repeat (first | refine AL.seq ?_ | refine AL.block ?_ | refine AL.skip ?_ | refine AL.blk ?_)
        refine AL.cond ?_
        simp
        refine ⟨fun hlt => ?_, fun hge => ?_⟩
        · repeat (first | refine AL.seq ?_ | refine AL.block ?_ | refine AL.skip ?_ | refine AL.blk ?_)
          refine AL.region follows_Try (Nat.le_refl _) (by kernel_rfl) ?_
          simp [hlt]
          obtain ⟨k1, k2, k3, k4⟩ := hall _ (List.getElem_mem hlt)
          have hprev : ∀ (h0 : 0 < i), L[i - 1]'(by omega) ≠ L[i] := fun h0 => List.pairwise_iff_getElem.1 hnd (i - 1) i (by omega) hlt (by omega)
          generalize ho : L[i] = o at *
          have d1 := injective26_c a o.g o.l fa k4.g k4.l tok nt
          have d2 := injective26_c b o.g o.r fb k4.g k4.r tok nt
          have d3 := jointlyF_c a b o.g o.l o.r fa fb k4.g k4.l k4.r tok nt
          rw [k1] at d1
          rw [k2] at d2
          rw [k3] at d3
          repeat (first | refine AL.seq ?_ | refine AL.block ?_ | refine AL.skip ?_ | refine AL.blk ?_)
          refine AL.region follows_Try (Nat.le_refl _) (by kernel_rfl) ?_
          simp
          refine Stop.of_d (d1) ?_
          simp
          refine Stop.of_d (d2) ?_
          simp
          refine Stop.of_d (d3) ?_
          simp
          repeat (first | refine AL.seq ?_ | refine AL.block ?_ | refine AL.skip ?_ | refine AL.blk ?_)
          refine AL.cond ?_
          simp
          by_cases h0 : 0 < i
          · have hw1 : IntKind.i64.wrap (↑i - 1) = ((i - 1 : Nat) : Int) := by rw [wrap_in (by omega) (by omega)]; omega
            have hlt1 : i - 1 < L.length := by omega
            have hne := hprev h0
            obtain ⟨_, _, _, p4⟩ := hall _ (List.getElem_mem hlt1)
            repeat (first | refine AL.seq ?_ | refine AL.block ?_ | refine AL.skip ?_ | refine AL.blk ?_)
            refine AL.region follows_Try (Nat.le_refl _) (by kernel_rfl) ?_
            simp [h0, hw1, hlt1]
            refine Stop.of_d (sameOverlap_c (L[i - 1]) o p4 _ _) ?_
            simp [h0]
            simp [hne]
            repeat (first | refine AL.seq ?_ | refine AL.block ?_ | refine AL.skip ?_ | refine AL.blk ?_)
            refine AL.cond ?_
            simp
            repeat (first | refine AL.seq ?_ | refine AL.block ?_ | refine AL.skip ?_ | refine AL.blk ?_)
            refine AL.region follows_Try (Nat.le_refl _) (by kernel_rfl) ?_
            simp [hw]
            repeat (first | refine AL.seq ?_ | refine AL.block ?_ | refine AL.skip ?_ | refine AL.blk ?_)
            refine AL.nil ?_
            exact ⟨i + 1, hlt, by omega, Weaks.mk (Nat.le_refl _) rfl (by simp [ToL, lk]) (by simp [BoxL, lk])⟩
          · repeat (first | refine AL.seq ?_ | refine AL.block ?_ | refine AL.skip ?_ | refine AL.blk ?_)
            refine AL.region follows_Try (Nat.le_refl _) (by kernel_rfl) ?_
            simp [h0]
            repeat (first | refine AL.seq ?_ | refine AL.block ?_ | refine AL.skip ?_ | refine AL.blk ?_)
            refine AL.cond ?_
            simp
            repeat (first | refine AL.seq ?_ | refine AL.block ?_ | refine AL.skip ?_ | refine AL.blk ?_)
            refine AL.region follows_Try (Nat.le_refl _) (by kernel_rfl) ?_
            simp [hw]
            repeat (first | refine AL.seq ?_ | refine AL.block ?_ | refine AL.skip ?_ | refine AL.blk ?_)
            refine AL.nil ?_
            exact ⟨i + 1, hlt, by omega, Weaks.mk (Nat.le_refl _) rfl (by simp [ToL, lk]) (by simp [BoxL, lk])⟩
        · repeat (first | refine AL.seq ?_ | refine AL.block ?_ | refine AL.skip ?_ | refine AL.blk ?_)
          refine AL.exit ?_
          simp only [AU, ↓reduceIte]
          have hp : 0 < L.length := by rw [hhead]; simp
          have h00 : L[0] = o0 := by simp [hhead]
          have hwab : IntKind.i64.wrap ((a.nodes.length : Int) + b.nodes.length) = (a.nodes.length : Int) + b.nodes.length := wrap_in (by omega) (by omega)
          repeat (first | refine AL.seq ?_ | refine AL.block ?_ | refine AL.skip ?_ | refine AL.blk ?_)
          refine AL.region follows_Try (Nat.le_refl _) (by kernel_rfl) ?_
          simp [hp, h00, hh2, hwab]
          repeat (first | refine AL.seq ?_ | refine AL.block ?_ | refine AL.skip ?_ | refine AL.blk ?_)
          refine AL.ret ?_
          try simp only [AU]
          refine ⟨by simp, Fin.data (by simp [resAs, resA]; rfl) hbox rfl htok (fun _ h => h) (Nat.le_refl _) ?_⟩
          simp [packA]
    · simp [h1, h2]
      repeat (first | refine AL.seq ?_ | refine AL.block ?_ | refine AL.skip ?_ | refine AL.blk ?_)
      refine AL.cond ?_
      simp
      repeat (first | refine AL.seq ?_ | refine AL.block ?_ | refine AL.skip ?_ | refine AL.blk ?_)
      refine AL.region follows_Try (Nat.le_refl _) (by kernel_rfl) ?_
      simp
      refine Stop.of_d (awake_c _ _) ?_
      simp
      repeat (first | refine AL.seq ?_ | refine AL.block ?_ | refine AL.skip ?_ | refine AL.blk ?_)
      refine AL.ret ?_
      try simp only [AU]
      refine ⟨by simp, Fin.data (by simp [resAs, resA]; rfl) hbox rfl htok (fun _ h => h) (Nat.le_refl _) ?_⟩
      simp [packA]
  · simp [h1]
    repeat (first | refine AL.seq ?_ | refine AL.block ?_ | refine AL.skip ?_ | refine AL.blk ?_)
    refine AL.cond ?_
    simp
    repeat (first | refine AL.seq ?_ | refine AL.block ?_ | refine AL.skip ?_ | refine AL.blk ?_)
    refine AL.region follows_Try (Nat.le_refl _) (by kernel_rfl) ?_
    simp
    refine Stop.of_d (awake_c _ _) ?_
    simp
    repeat (first | refine AL.seq ?_ | refine AL.block ?_ | refine AL.skip ?_ | refine AL.blk ?_)
    refine AL.ret ?_
    try simp only [AU]
    refine ⟨by simp, Fin.data (by simp [resAs, resA]; rfl) hbox rfl htok (fun _ h => h) (Nat.le_refl _) ?_⟩
    simp [packA]
end Go.AM
/-
  The library contracts that this seat uses (slices.Sort, Clone, Compact at int), laid at the program in plain words by the kit's two programs.
-/
namespace Go.Proofs
open Go.Shelf
def Try.lays189_ren : Go.Shelf.Ren := ⟨fun | 189 => 100 | 125 => 108 | 257 => 107 | 128 => 119 | 129 => 120 | 294 => 110 | 295 => 111 | 296 => 112 | 297 => 113 | 298 => 114 | 299 => 115 | 216 => 116 | 300 => 117 | 301 => 118 | 328 => 121 | 329 => 122 | 330 => 123 | 331 => 124 | 332 => 125 | 215 => 126 | 343 => 127 | n => n, fun | 28 => 22 | 3 => 3 | 46 => 133 | 0 => 0 | 51 => 144 | 53 => 146 | 4 => 4 | 183 => 137 | 182 => 136 | 131 => 141 | 5 => 5 | 9 => 9 | 218 => 147 | 222 => 151 | 228 => 153 | 229 => 154 | n => n, fun | n => n⟩
theorem Try.lays189 : Go.Proofs.Lays.n189 Try.prog Try.lays189_ren := {
  mixed := by kernel_rfl
  f125 := Try.func108.trans (congrArg some (by kernel_rfl))
  f128 := Try.func119.trans (congrArg some (by kernel_rfl))
  f129 := Try.func120.trans (congrArg some (by kernel_rfl))
  f189 := Try.func100.trans (congrArg some (by kernel_rfl))
  f215 := Try.func126.trans (congrArg some (by kernel_rfl))
  f216 := Try.func116.trans (congrArg some (by kernel_rfl))
  f257 := Try.func107.trans (congrArg some (by kernel_rfl))
  f294 := Try.func110.trans (congrArg some (by kernel_rfl))
  f295 := Try.func111.trans (congrArg some (by kernel_rfl))
  f296 := Try.func112.trans (congrArg some (by kernel_rfl))
  f297 := Try.func113.trans (congrArg some (by kernel_rfl))
  f298 := Try.func114.trans (congrArg some (by kernel_rfl))
  f299 := Try.func115.trans (congrArg some (by kernel_rfl))
  f300 := Try.func117.trans (congrArg some (by kernel_rfl))
  f301 := Try.func118.trans (congrArg some (by kernel_rfl))
  f328 := Try.func121.trans (congrArg some (by kernel_rfl))
  f329 := Try.func122.trans (congrArg some (by kernel_rfl))
  f330 := Try.func123.trans (congrArg some (by kernel_rfl))
  f331 := Try.func124.trans (congrArg some (by kernel_rfl))
  f332 := Try.func125.trans (congrArg some (by kernel_rfl))
  f343 := Try.func127.trans (congrArg some (by kernel_rfl))
  t0 := Try.underlying0
  a0 := Try.isAgg0
  z0 := Try.sizeOf0
  v0 := Try.zeroValue0
  t3 := Try.underlying3
  a3 := Try.isAgg3
  z3 := Try.sizeOf3
  v3 := Try.zeroValue3
  t4 := Try.underlying4
  a4 := Try.isAgg4
  z4 := Try.sizeOf4
  v4 := Try.zeroValue4
  t5 := Try.underlying5
  a5 := Try.isAgg5
  z5 := Try.sizeOf5
  v5 := Try.zeroValue5
  t9 := Try.underlying9
  a9 := Try.isAgg9
  z9 := Try.sizeOf9
  v9 := Try.zeroValue9
  t28 := Try.underlying22
  a28 := Try.isAgg22
  z28 := Try.sizeOf22
  v28 := Try.zeroValue22
  t46 := Try.underlying133
  a46 := Try.isAgg133
  z46 := Try.sizeOf133
  v46 := Try.zeroValue133
  t51 := Try.underlying144
  a51 := Try.isAgg144
  z51 := Try.sizeOf144
  v51 := Try.zeroValue144
  t53 := Try.underlying146
  a53 := Try.isAgg146
  z53 := Try.sizeOf146
  v53 := Try.zeroValue146
  t131 := Try.underlying141
  a131 := Try.isAgg141
  z131 := Try.sizeOf141
  v131 := Try.zeroValue141
  t182 := Try.underlying136
  a182 := Try.isAgg136
  z182 := Try.sizeOf136
  v182 := Try.zeroValue136
  t183 := Try.underlying137
  a183 := Try.isAgg137
  z183 := Try.sizeOf137
  v183 := Try.zeroValue137
  t218 := Try.underlying147
  a218 := Try.isAgg147
  z218 := Try.sizeOf147
  v218 := Try.zeroValue147
  t222 := Try.underlying151
  a222 := Try.isAgg151
  z222 := Try.sizeOf151
  v222 := Try.zeroValue151
  t228 := Try.underlying153
  a228 := Try.isAgg153
  z228 := Try.sizeOf153
  v228 := Try.zeroValue153
  t229 := Try.underlying154
  a229 := Try.isAgg154
  z229 := Try.sizeOf154
  v229 := Try.zeroValue154 }
open Go.Sort Go.RowKit in
theorem Try.slices_Sort_int (blk off cap : Nat) (zs : List Int) (w : World) (hH : Holds (Value.int .i64) w blk off zs.toArray) (hblk : blk < w.heap.size) (hsz : zs.length < 4611686018427387904) :
    Calls Try.prog 100 #[.slice (some ⟨blk, off, none⟩) zs.length cap] w fun e w' =>
      e = .returned (.tuple #[]) ∧ ∃ n os, w' = grow (putRow (Value.int .i64) (Sort.ahead w n) blk off (zs.mergeSort fun x y => decide (x ≤ y)).toArray) os := Any.slices_Sort_int Try.lays189 blk off cap zs w hH hblk hsz
def Try.laysNm215_ren : Go.Shelf.Ren := ⟨fun | 15 => 59 | n => n, fun | 22 => 22 | 3 => 3 | 4 => 4 | n => n, fun | n => n⟩
theorem Try.laysNm215 : Go.Proofs.Lays2.n15 Try.prog Try.laysNm215_ren := {
  mixed := by kernel_rfl
  f15 := Try.func59.trans (congrArg some (by kernel_rfl))
  t3 := Try.underlying3
  a3 := Try.isAgg3
  z3 := Try.sizeOf3
  v3 := Try.zeroValue3
  t4 := Try.underlying4
  a4 := Try.isAgg4
  z4 := Try.sizeOf4
  v4 := Try.zeroValue4
  t22 := Try.underlying22
  a22 := Try.isAgg22
  z22 := Try.sizeOf22
  v22 := Try.zeroValue22
  i3 := by kernel_rfl }
open Go.RowKit Go.Lib in
theorem Try.slices_Clone_int (b off n c : Nat) (zs : List Int) (w : World) (hz : n ≤ zs.length) (hbig : n * 8 ≤ 140737488355328) (hc : ∀ j, j < zs.length → w.cell? ⟨b, off + j, none⟩ = some (.int .i64 (zs.getD j 0))) :
    Calls Try.prog 59 #[.slice (some ⟨b, off, none⟩) n c] w fun e w' => ∃ v', e = .returned v' ∧ w'.ownsRow w.heap.size 3 1 v' n ((zs.take n).map (Value.int .i64)) ∧ v' ≠ .slice none 0 0 ∧ Below w.heap.size w w' := Any.slices_Clone_int Try.laysNm215 b off n c zs w hz hbig hc
open Go.RowKit Go.Lib in
theorem Try.slices_Clone_int_nil (n c : Nat) (w : World) :
    Calls Try.prog 59 #[.slice none n c] w fun e w' => e = .returned (.slice none 0 0) ∧ w' = w := Any.slices_Clone_int_nil Try.laysNm215 n c w
open Go.RowKit Go.Lib in
theorem Try.slices_Clone_int_zero (a : Addr) (c : Nat) (w : World) :
    Calls Try.prog 59 #[.slice (some a) 0 c] w fun e w' => ∃ v', e = .returned v' ∧ w'.ownsRow w.heap.size 3 1 v' 0 [] ∧ v' ≠ .slice none 0 0 ∧ Below w.heap.size w w' := Any.slices_Clone_int_zero Try.laysNm215 a c w
def Try.laysNm220_ren : Go.Shelf.Ren := ⟨fun | 20 => 92 | n => n, fun | 22 => 22 | 3 => 3 | 4 => 4 | 0 => 0 | n => n, fun | n => n⟩
theorem Try.laysNm220 : Go.Proofs.Lays2.n20 Try.prog Try.laysNm220_ren := {
  mixed := by kernel_rfl
  f20 := Try.func92.trans (congrArg some (by kernel_rfl))
  t0 := Try.underlying0
  a0 := Try.isAgg0
  z0 := Try.sizeOf0
  v0 := Try.zeroValue0
  t3 := Try.underlying3
  a3 := Try.isAgg3
  z3 := Try.sizeOf3
  v3 := Try.zeroValue3
  t4 := Try.underlying4
  a4 := Try.isAgg4
  z4 := Try.sizeOf4
  v4 := Try.zeroValue4
  t22 := Try.underlying22
  a22 := Try.isAgg22
  z22 := Try.sizeOf22
  v22 := Try.zeroValue22
  i3 := by kernel_rfl }
open Go.RowKit Go.Lib Go.Sort in
theorem Try.slices_Compact_int (blk off cap : Nat) (zs : List Int) (w : World) (hH : Holds (Value.int .i64) w blk off zs.toArray) (hsz : zs.length ≤ 9223372036854775807) (hcap : zs.length ≤ cap) :
    Calls Try.prog 92 #[.slice (some ⟨blk, off, none⟩) zs.length cap] w fun e w' => e = .returned (.slice (some ⟨blk, off, none⟩) (Lib.compact zs).length cap) ∧ ∃ q, w' = putRow (Value.int .i64) (Sort.ahead w q) blk off (Lib.compact zs ++ List.replicate (zs.length - (Lib.compact zs).length) 0).toArray := Any.slices_Compact_int Try.laysNm220 blk off cap zs w hH hsz hcap
open Go.RowKit Go.Lib Go.Sort in
theorem Try.slices_Compact_int_empty (a : Option Addr) (cap : Nat) (w : World) :
    Calls Try.prog 92 #[.slice a 0 cap] w fun e w' => e = .returned (.slice a 0 cap) ∧ w' = w := Any.slices_Compact_int_empty Try.laysNm220 a cap w
open Go.RowKit Go.Sort in
theorem Try.slices_Sort_int_none (p : Option Addr) (cap : Nat) (w : World) :
    Calls Try.prog 100 #[.slice p 0 cap] w fun e w' => e = .returned (.tuple #[]) ∧ w' = w := Any.slices_Sort_int_none Try.lays189 p cap w
end Go.Proofs
/-
  morphism.images: it hands back how many numbers a list holds, by the library's Clone, Sort and Compact, and turns nothing that lay there.
-/
namespace Go.Proofs.Ytgonmjghdkoekaa.images
open Go Go.Proofs Go.RowKit Go.Shelf Go.Sort

theorem below_grow {B : Nat} {w0 w : World} {os : Array Obj} (h : Below B w0 w) (hB : B ≤ w.heap.size) : Below B w0 (grow w os) :=
  ⟨h.os, h.tape, h.output, by simp [grow]; have := h.size; omega, fun k hk => by
    rw [← h.block k hk]
    exact heap_grow_old _ _ (by omega)⟩

set_option maxHeartbeats 2000000 in
set_option maxRecDepth 100000 in
theorem any (b off n c : Nat) (zs : List Int) (w : World) (hz : zs.length = n) (hbig : n * 8 ≤ 140737488355328) (hc : ∀ j, j < zs.length → w.cell? ⟨b, off + j, none⟩ = some (.int .i64 (zs.getD j 0))) :
    Calls Try.prog 88 #[.slice (some ⟨b, off, none⟩) n c] w fun e w' => e = .returned (.int .i64 (Lib.compact (zs.mergeSort fun x y => decide (x ≤ y))).length) ∧ Below w.heap.size w w' := by
  have hclone := Try.slices_Clone_int b off n c zs w (by omega) hbig hc
  rw [List.take_of_length_le (by omega)] at hclone
  clear hc
  go_enter Try.func88, Try.ntmps88
  go_wp2_with (first
    | (go_at_call 59; refine hclone.mono ?_; rintro e w1 ⟨v1, rfl, hown, hnn, hbel⟩
       obtain ⟨g, cap, rfl, hbg, hgl, hncap, hcm, hlen, hH⟩ := Lib.holds_of_ownsRow hown hnn
       have hsort := Try.slices_Sort_int g 0 cap zs w1 hH hgl (by omega)
       rw [hlen] at hsort
       have X : Aside (Below w.heap.size w w1 ∧ w.heap.size ≤ g ∧ g < w1.heap.size ∧ n ≤ cap ∧ cap ≤ maxLen ∧ Holds (Value.int .i64) w1 g 0 zs.toArray) := ⟨hbel, hbg, hgl, hncap, hcm, hH⟩
       clear hown hbel hH hnn)
    | (go_at_call 100; refine hsort.mono ?_; rintro e w2 ⟨rfl, nn, os, rfl⟩
       have hl2 : (zs.mergeSort fun x y => decide (x ≤ y)).length = n := by rw [List.length_mergeSort]; exact hz
       have hH2 : Holds (Value.int .i64) (grow (putRow (Value.int .i64) (Sort.ahead w1 nn) g 0 (zs.mergeSort fun x y => decide (x ≤ y)).toArray) os) g 0 (zs.mergeSort fun x y => decide (x ≤ y)).toArray :=
         holds_grow _ _ os g 0 _ (by simpa [putRow, mapBlock, Sort.ahead] using X.out.2.2.1) (holds_putRow _ _ g 0 _ _ (holds_ahead _ w1 nn g 0 _ X.out.2.2.2.2.2) (by simp))
       have hcomp := Try.slices_Compact_int g 0 cap (zs.mergeSort fun x y => decide (x ≤ y)) _ hH2 (by omega) (by have := X.out.2.2.2.1; omega)
       rw [hl2] at hcomp
       clear hH2 hsort)
    | (go_at_call 92; refine hcomp.mono ?_; rintro e w3 ⟨rfl, q, rfl⟩))
  go_ret
  exact ⟨rfl, Lib.below_putRow (below_grow (Lib.below_putRow X.out.1 X.out.2.1) (by have := X.out.1.size; simp [putRow, mapBlock, Sort.ahead]; omega)) X.out.2.1⟩

set_option maxHeartbeats 2000000 in
set_option maxRecDepth 100000 in
theorem zero (a : Addr) (c : Nat) (w : World) : Calls Try.prog 88 #[.slice (some a) 0 c] w fun e w' => e = .returned (.int .i64 0) ∧ Below w.heap.size w w' := by
  have hclone := Try.slices_Clone_int_zero a c w
  go_enter Try.func88, Try.ntmps88
  go_wp2_with (first
    | (go_at_call 59; refine hclone.mono ?_; rintro e w1 ⟨v1, rfl, hown, hnn, hbel⟩
       obtain ⟨g, cap, rfl, _, _, _, _, _, _⟩ := Lib.holds_of_ownsRow (enc := Value.int .i64) (zs := []) hown hnn
       have X : Aside (Below w.heap.size w w1) := hbel
       clear hown hbel hnn)
    | (go_at_call 100; refine (Try.slices_Sort_int_none _ _ _).mono ?_; rintro e w2 ⟨rfl, rfl⟩)
    | (go_at_call 92; refine (Try.slices_Compact_int_empty _ _ _).mono ?_; rintro e w3 ⟨rfl, rfl⟩))
  go_ret
  exact ⟨rfl, X.out⟩

set_option maxHeartbeats 2000000 in
set_option maxRecDepth 100000 in
theorem none (n c : Nat) (w : World) : Calls Try.prog 88 #[.slice none n c] w fun e w' => e = .returned (.int .i64 0) ∧ Below w.heap.size w w' := by
  go_enter Try.func88, Try.ntmps88
  go_wp2_with (first
    | (go_at_call 59; refine (Try.slices_Clone_int_nil n c _).mono ?_; rintro e w1 ⟨rfl, rfl⟩)
    | (go_at_call 100; refine (Try.slices_Sort_int_none _ _ _).mono ?_; rintro e w2 ⟨rfl, rfl⟩)
    | (go_at_call 92; refine (Try.slices_Compact_int_empty _ _ _).mono ?_; rintro e w3 ⟨rfl, rfl⟩))
  go_ret
  exact ⟨rfl, Below.refl _ _⟩
end Go.Proofs.Ytgonmjghdkoekaa.images
/-
  The bridge: a call that is known by the kit's walk, turns nothing that lay there and hands back plain data, as a call of the abstract machine; morphism.images so.
-/
namespace Go.AM
open Go Go.Proofs Go.RowKit
set_option linter.unusedSimpArgs false
set_option linter.unusedVariables false

theorem le_below {G : Gh} {w w' : World} {m : AMem} (hm : RelM G m w) (h : Below w.heap.size w w') : Le G w G w' where
  os := h.os
  tape := h.tape
  output := h.output
  size := h.size
  whole b hb hk := ⟨hk, h.block b hb⟩
  part b f c hk := ⟨⟨f, Nat.le_refl _, hk⟩, fun a ha _ => by
    have hb : a.block < w.heap.size := by
      rcases Nat.lt_or_ge a.block w.heap.size with hb | hb
      · exact hb
      · have := hm.fresh a.block hb
        rw [ha, hk] at this
        cases this
    exact World.cell?_of_block (w := w) (h.block _ hb)⟩
  bx _ _ h := h
  nt := Nat.le_refl _
  tk _ _ := .inr ⟨rfl, fun _ _ => rfl⟩

theorem lt_of_obj {w : World} {b : Nat} {o : Obj} (h : w.heap[b]? = some o) : b < w.heap.size := by
  rcases Nat.lt_or_ge b w.heap.size with hb | hb
  · exact hb
  · rw [Array.getElem?_eq_none hb] at h; cases h

theorem relM_below {G : Gh} {w w' : World} {m : AMem} (hm : RelM G m w) (h : Below w.heap.size w w') : RelM G m w' := by
  have hle := le_below hm h
  constructor
  case box =>
    intro k rows b sz h1 h2
    obtain ⟨g1, cs, e, g2, g3, g4, g5⟩ := hm.box k rows b sz h1 h2
    exact ⟨g1, cs, e, by rw [h.block b (lt_of_obj g2)]; exact g2, g3, g4.mono hle, g5⟩
  case nobox => exact hm.nobox
  case inj => exact hm.inj
  case nb => exact hm.nb
  case nt => exact hm.nt
  case toks => exact hm.toks
  case tokb =>
    intro t g hg
    obtain ⟨f, cur, e, g1, g2⟩ := hm.tokb t g hg
    exact ⟨f, cur, e, g1, by rw [h.block g (lt_of_obj g2)]; exact g2⟩
  case tinj => exact hm.tinj
  case tnt => exact hm.tnt
  case fresh => intro b hb; exact hm.fresh b (Nat.le_trans h.size hb)

/-- A call that hands back one plain value and turns nothing that lay there. -/
theorem DCall.of_below {P : Program} {f : FuncId} {args : List AV} {tok : Nat → Bool} {nt : Nat} {v : Value} (hE : Enters P f) (h1 : v.oneCell' = true)
    (h : ∀ G w vals, RVs G w args vals → Calls P f vals.toArray w fun e w' => e = .returned v ∧ Below w.heap.size w w') : DCall P f args tok nt (.d (.raw v)) tok nt := by
  intro box nb
  refine ⟨hE, fun G w vals hm hr => (h G w vals hr).mono ?_⟩
  rintro e w' ⟨rfl, hb⟩
  exact ⟨v, _, _, G, rfl, ⟨rfl, rfl⟩, rfl, relM_below hm hb, .d (.raw h1), le_below hm hb, fun k hk => ⟨hk, rfl⟩⟩

/-- A slice of numbers, opened: where it lies and what its cells hold. -/
theorem rvd_ints {c : Addr → Option Value} {ps : Addr → Prop} {l : List Int} {v : Value} (h : RVd c ps (ints l) v) :
    ∃ A cap, v = .slice A l.length cap ∧ l.length ≤ cap ∧ cap ≤ maxLen ∧ (l ≠ [] → ∃ a, A = some a) ∧ ∀ a, A = some a → ∀ i, i < l.length → c (a.add i) = some (.int .i64 (l.getD i 0)) := by
  unfold ints at h
  generalize hes : (l.map fun n => [D.raw (.int .i64 n)]) = es at h
  cases h with
  | @sl _ _ A cap u hcap hmax hsz hA hc hr =>
    have hl : es.length = l.length := by rw [← hes]; simp
    refine ⟨A, cap, by rw [hl], by omega, hmax, fun hne => hA (by intro e; rw [e] at hl; exact hne (List.length_eq_zero_iff.1 hl.symm)), fun a ha i hi => ?_⟩
    have g := (hc a ha i 0 (by omega) (by decide)).2
    have r := hr i 0 (by omega) (by rw [hsz _ (List.getElem_mem _)]; decide)
    have e1 : es[i][0]'(by rw [hsz _ (List.getElem_mem _)]; decide) = D.raw (.int .i64 l[i]) := by
      subst hes
      simp
    rw [e1] at r
    have e2 : u i 0 = .int .i64 l[i] := by
      generalize hu : u i 0 = x at r
      cases r
      rfl
    rw [Nat.mul_one, Nat.add_zero, e2] at g
    rw [g]
    simp [hi]

/-- How many numbers a list holds. -/
def imagesN (l : List Int) : Nat := (Lib.compact (l.mergeSort fun x y => decide (x ≤ y))).length

theorem imagesN_nil : imagesN [] = 0 := by
  simp [imagesN, List.mergeSort, Lib.compact]
  rfl

theorem images88_c (l : List Int) (hl : l.length ≤ 1000000) (tok : Nat → Bool) (nt : Nat) : DCall Try.prog 88 [.d (ints l)] tok nt (I (imagesN l)) tok nt := by
  refine DCall.of_below (Enters.mk Try.func88 rfl (by kernel_rfl)) rfl fun G w vals hr => ?_
  obtain ⟨hlen, hrv⟩ := hr
  match vals, hlen with
  | [v], _ =>
    have h0 := hrv 0 (by simp) (by simp)
    simp only [List.getElem_cons_zero] at h0
    cases h0 with
    | d h0 =>
      obtain ⟨A, cap, rfl, hcap, hmax, hA, hc⟩ := rvd_ints h0
      cases A with
      | none =>
        have : l = [] := by
          by_cases e : l = []
          · exact e
          · obtain ⟨a, ha⟩ := hA e; cases ha
        subst this
        exact (Ytgonmjghdkoekaa.images.none _ cap w).mono fun e w' h => by rw [imagesN_nil]; exact h
      | some a =>
        by_cases e : l = []
        · subst e
          exact (Ytgonmjghdkoekaa.images.zero a cap w).mono fun e w' h => by rw [imagesN_nil]; exact h
        · have hp : 0 < l.length := List.length_pos_iff.2 e
          have hc' := hc a rfl
          have hs : a.spot = none := by
            cases hsp : a.spot with
            | none => rfl
            | some q =>
              exfalso
              have := hc' 0 hp
              simp only [World.cell?, Addr.add, hsp, Option.isSome_some, ↓reduceIte] at this
              split at this <;> simp at this
          obtain ⟨b, off, sp⟩ := a
          simp only at hs
          subst hs
          refine (Ytgonmjghdkoekaa.images.any b off l.length cap l w rfl (by omega) fun j hj => ?_).mono fun e w' h => h
          have h1 := hc' j hj
          unfold Addr.add at h1
          split at h1
          · rename_i e; subst e; exact h1
          · exact h1
end Go.AM
