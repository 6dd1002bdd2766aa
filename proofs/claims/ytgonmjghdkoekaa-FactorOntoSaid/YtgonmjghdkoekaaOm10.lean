import Derived.Test.YtgonmjghdkoekaaOm9
import Derived.Test.YtgonmjghdkoekaaChecked
import Derived.RangeFuncBox
import Derived.RangeFuncLeaves
import Derived.Shelf.Abstract
import Derived.WalkKit
import Derived.OwnWalkIn
import Derived.TacticsInMore
import Derived.LoopNIn
import Derived.LoopIn
import Derived.Maps.AppendAt
import Derived.Sort.OwnSortedInts
import Derived.Lib.OwnBridge
import Derived.Sort.EveryDepth
/-
  slices.Values at ints, turned from a worked proof to this program: the closure that it hands back gives the slice's numbers in order; and slices.AppendSeq, Collect, Sorted over it.
-/
namespace Go.Proofs.Ytgonmjghdkoekaa.values
open Go Go.Proofs Go.RowKit Go.Shelf

attribute [local go_sem] Oper.semAt_some

def upto {α : Type} (f : Nat → α) (k : Nat) : List α := (List.range k).map f
theorem upto_succ {α : Type} (f : Nat → α) (k : Nat) : upto f (k + 1) = upto f k ++ [f k] := by simp [upto, List.range_succ]
theorem upto_length {α : Type} (f : Nat → α) (k : Nat) : (upto f k).length = k := by simp [upto]
theorem upto_all (zs : List Int) : upto (fun j => zs[j]?.getD 0) zs.length = zs := by
  apply List.ext_getElem
  · simp [upto]
  · intro i h1 h2
    simp [upto, h2]

set_option maxRecDepth 100000 in
set_option maxHeartbeats 2000000 in
theorem values1_in (F : Fence) (n : Nat) (h7 : F.fn 103) (hro : F.round = none) (hn : 1 ≤ n) (l Bs n₀ b off len cap : Nat) (zs : List Int) (hreach : len * 8 ≤ 140737488351232) (hb : b < n₀) (J Jx : List Int → World → Prop)
    (hY : ∀ pre x W, J pre W → pre.length < len → YieldAt F (n - 1) Try.prog l #[.int .i64 x] W fun e W' =>
      (e = .returned (.bool true) ∧ J (pre ++ [x]) W' ∧ Below n₀ W W') ∨ (e = .returned (.bool false) ∧ Jx (pre ++ [x]) W'))
    (W : World) (hBs : W.cell? ⟨Bs, 0, none⟩ = some (.slice (some ⟨b, off, none⟩) len cap)) (hc : ∀ j, j < len → W.cell? ⟨b, off + j, none⟩ = some (.int .i64 (zs[j]?.getD 0))) (h0 : J [] W) :
    CallsIn F n Try.prog 103 #[.func (.yield l) #[] #[], .pointer (some ⟨Bs, 0, none⟩)] W fun e W' => (∃ v, e = .returned v) ∧
      ((∃ ys, ys = upto (fun j => zs[j]?.getD 0) len ∧ J ys W') ∨ (∃ pre, (∃ k, k ≤ len ∧ pre = upto (fun j => zs[j]?.getD 0) k) ∧ Jx pre W')) := by
  refine callsIn_of_wp Try.func103 rfl h7 ?_ hro
  simp only [Try.ntmps103, List.size_toArray, List.length_cons, List.length_nil, Nat.reduceAdd, Nat.reduceSub, Array.replicate_succ, Array.replicate_zero, List.push_toArray, List.append_toArray, List.nil_append, List.cons_append]
  gi_wp2
  gi_loopw [7] (fun i wr => ∃ k : Nat, k ≤ len ∧ i = .int .i64 k ∧ J (upto (fun j => zs[j]?.getD 0) k) wr ∧ Below n₀ W wr)
    (fun i _ => len - (intOf i).toNat)
  case atStart => exact ⟨0, Nat.zero_le _, rfl, h0, Below.refl _ _⟩
  case round =>
    obtain ⟨k, hk, rfl, hJs, hnx⟩ := hrel
    have hcx : k < len → wr.cell? ⟨b, off + k, none⟩ = some (.int .i64 (zs[k]?.getD 0)) := fun h => (hnx.cell (p := ⟨b, off + k, none⟩) hb).trans (hc k h)
    by_cases hlt : k < len
    · obtain ⟨fn, tmps, assign, body, hy, hR⟩ := hY _ (zs[k]?.getD 0) wr hJs (by rw [upto_length]; exact hlt)
      have hcx' := hcx hlt
      gi_wp2
      refine hR.mono ?_
      rintro e W3 (⟨rfl, hJ3, hk3⟩ | ⟨rfl, hJx3⟩)
      · -- THE ROUND GOES ON
        gi_wp2
        go_roundw
        case rel => exact ⟨k + 1, by omega, by simp, by rw [upto_succ]; exact hJ3, hnx.trans hk3⟩
        case measure => simp [intOf]; omega
      · gi_wp2
        refine bodyPost_ret (results_none rfl _ _ _) rfl ?_
        exact ⟨⟨_, rfl⟩, .inr ⟨_, ⟨k + 1, by omega, (upto_succ _ _).symm⟩, hJx3⟩⟩
    · obtain rfl : k = len := by omega
      gi_wp2
      go_end0
      exact ⟨⟨_, rfl⟩, .inl ⟨_, rfl, hJs⟩⟩

theorem upto_take (zs : List Int) {k : Nat} (hk : k ≤ zs.length) : upto (fun j => zs[j]?.getD 0) k = zs.take k := by
  apply List.ext_getElem
  · simp [upto, hk]
  · intro i h1 h2
    have : i < zs.length := by simp [upto] at h1; omega
    simp [upto, this]

def Ints (n₀ : Nat) (W : World) (sv : Value) (zs : List Int) : Prop :=
  (∃ az cz, sv = .slice az 0 cz ∧ zs = []) ∨ ∃ b off cap, sv = .slice (some ⟨b, off, none⟩) zs.length cap ∧ b < n₀ ∧ ∀ j, j < zs.length → W.cell? ⟨b, off + j, none⟩ = some (.int .i64 (zs[j]?.getD 0))
theorem Ints.below {n₀ : Nat} {A B : World} (h : Below n₀ A B) {sv : Value} {zs : List Int} : Ints n₀ A sv zs → Ints n₀ B sv zs
  | .inl e => .inl e
  | .inr ⟨b, off, cap, e, hb, hc⟩ => .inr ⟨b, off, cap, e, hb, fun j hj => (h.cell (p := ⟨b, off + j, none⟩) hb).trans (hc j hj)⟩

set_option maxRecDepth 100000 in
set_option maxHeartbeats 1000000 in
theorem values1_nil_in (F : Fence) (n : Nat) (h7 : F.fn 103) (hro : F.round = none) (l Bs : Nat) (J : List Int → World → Prop) (W : World) (az : Option Addr) (cz : Nat) (hBs : W.cell? ⟨Bs, 0, none⟩ = some (.slice az 0 cz)) (h0 : J [] W) :
    CallsIn F n Try.prog 103 #[.func (.yield l) #[] #[], .pointer (some ⟨Bs, 0, none⟩)] W fun e W' => (∃ v, e = .returned v) ∧ J [] W' := by
  refine callsIn_of_wp Try.func103 rfl h7 ?_ hro
  simp only [Try.ntmps103, List.size_toArray, List.length_cons, List.length_nil, Nat.reduceAdd, Nat.reduceSub, Array.replicate_succ, Array.replicate_zero, List.push_toArray, List.append_toArray, List.nil_append, List.cons_append]
  gi_wp2
  gi_loopw [7] (fun i wr => i = .int .i64 0 ∧ J [] wr) (fun _ _ => 0)
  case atStart => exact ⟨rfl, h0⟩
  case round =>
    obtain ⟨rfl, hJs⟩ := hrel
    gi_wp2
    go_end0
    exact ⟨⟨_, rfl⟩, hJs⟩

set_option maxHeartbeats 1000000 in
theorem values_in (F : Fence) (n : Nat) (h5 : F.fn 94) (hro : F.round = none) (a : Option Addr) (len cap : Nat) (w : World) :
    CallsIn F n Try.prog 94 #[.slice a len cap] w fun e w' => e = .returned (.func (.func 103) #[] #[.pointer (some ⟨w.heap.size, 0, none⟩)]) ∧ w' = w.alloc (.cells #[.slice a len cap] 22) := by
  refine callsIn_of_wp Try.func94 rfl h5 ?_ hro
  simp only [Try.ntmps94, List.size_toArray, List.length_cons, List.length_nil, Nat.reduceAdd, Nat.reduceSub, Array.replicate_succ, Array.replicate_zero, List.push_toArray, List.append_toArray, List.nil_append, List.cons_append]
  gi_wp2
  go_ret
  exact ⟨rfl, rfl⟩

theorem values_stops (F : Fence) (n : Nat) (h7 : F.fn 103) (hro : F.round = none) (hn : 1 ≤ n) (Bs n₀ : Nat) (sv : Value) (zs : List Int) (hreach : zs.length * 8 ≤ 140737488351232) (w : World) (hBs : Bs < w.heap.size) (hn₀ : n₀ ≤ w.heap.size)
    (hc : w.cell? ⟨Bs, 0, none⟩ = some sv) (hI : Ints n₀ w sv zs) :
    SeqStopsK F n Try.prog 103 #[.pointer (some ⟨Bs, 0, none⟩)] (fun x : Int => #[Value.int .i64 x]) (Below n₀) (fun ys => ys = zs) (fun pre => pre <+: zs) zs.length w := fun l J Jx W hW _ _ hY h0 => by
  have hc' := (hW.cell (p := ⟨Bs, 0, none⟩) hBs).trans hc
  rcases hI.below (hW.mono hn₀) with ⟨az, cz, rfl, rfl⟩ | ⟨b, off, cap, rfl, hb, hcs⟩
  · exact (values1_nil_in F n h7 hro l Bs J W az cz hc' h0).mono fun e W' ⟨he, hj⟩ => ⟨he, .inl ⟨_, rfl, hj⟩⟩
  · refine (values1_in F n h7 hro hn l Bs n₀ b off zs.length cap zs hreach hb J Jx hY W hc' hcs h0).mono ?_
    rintro e W' ⟨he, ⟨ys, rfl, hj⟩ | ⟨pre, ⟨k, hk, rfl⟩, hj⟩⟩
    · exact ⟨he, .inl ⟨_, upto_all zs, hj⟩⟩
    · exact ⟨he, .inr ⟨_, by rw [upto_take zs hk]; exact List.take_prefix _ _, hj⟩⟩


theorem info3 : (Try.prog.info? 3).map (fun i => (i.zero, i.size, i.bytes)) = some (some (.int .i64 0), 1, 8) := by kernel_rfl

set_option maxRecDepth 100000 in
set_option maxHeartbeats 2000000 in
theorem appendSeq_in (F : Fence) (n : Nat) (h109 : F.fn 109) (h103 : F.fn 103) (hro : F.round = none) (hn : 3 ≤ n) (Bs : Nat) (sv : Value) (zs : List Int) (hlen : zs.length ≤ maxLen) (hbytes : zs.length * 8 ≤ 140737488351232) (w : World) (hBs : Bs < w.heap.size)
    (hc : w.cell? ⟨Bs, 0, none⟩ = some sv) (hI : Ints w.heap.size w sv zs) :
    CallsIn F n Try.prog 109 #[.slice none 0 0, .func (.func 103) #[] #[.pointer (some ⟨Bs, 0, none⟩)]] w fun e W' => ∃ v, e = .returned v ∧ W'.ownsRow w.heap.size 3 1 v zs.length (zs.map (Value.int .i64)) ∧ (v = .slice none 0 0 ↔ zs = []) ∧ Below w.heap.size w W' := by
  have h1 : 1 ≤ n := by omega
  obtain ⟨i0, hi, hz0, hz1, hz2⟩ := info_parts info3
  refine callsIn_of_wp_marks Try.func109 rfl h109 ?_ hro
  simp only [Try.ntmps109, List.size_toArray, List.length_cons, List.length_nil, Nat.reduceAdd, Nat.reduceSub, Array.replicate_succ, Array.replicate_zero, List.push_toArray, List.append_toArray, List.nil_append, List.cons_append]
  gi_wp2
  have bO := Boxed.new w 22 (.slice none 0 0)
  have hB0 : Below w.heap.size w (w.alloc (.cells #[.slice none 0 0] 22)) := (Below.refl _ w).alloc (Nat.le_refl _) _
  refine wpIn_rangeFunc_ownG hro h1 (gf := 103) (lb := #[.pointer (some ⟨Bs, 0, none⟩)]) rfl h103 (enters_of Try.func103 (by kernel_rfl) rfl)
    (values_stops F (n - 1) h103 hro (by omega) Bs w.heap.size sv zs hbytes _ (by simp; omega) (by simp) ((hB0.cell (p := ⟨Bs, 0, none⟩) hBs).trans hc) (hI.below hB0)) belowK_t (belowK_b (by simp)) (Below.refl _ _) (fun _ => rfl)
    (fun pre W => (∃ v, Boxed W w.heap.size 22 v ∧ W.ownsRow w.heap.size 3 1 v pre.length (pre.map (Value.int .i64)) ∧ (v = .slice none 0 0 ↔ pre = [])) ∧ Below w.heap.size w W)
    (fun _ _ _ => False)
    (OwnFrom.and (Own.from (holdsRow_own w.heap.size w.heap.size 22 3 1 (fun pre : List Int => pre.length) (fun pre => pre.map (Value.int .i64)) (fun pre v => v = .slice none 0 0 ↔ pre = [])) _) (ownFrom_below (Nat.le_refl _) (by simp)))
    (fun _ _ _ _ _ hs _ _ => hs)
    ⟨⟨_, bO, World.ownsRow_nil _ _ _ _, by simp⟩, hB0⟩
    (fun x => { tmps := #[.slice none 0 0, .func (.func 103) #[] #[.pointer (some ⟨Bs, 0, none⟩)], .pointer (some ⟨w.heap.size, 0, none⟩), undef, .slice none 0 0, .int .i64 x, .func (.func 103) #[] #[.pointer (some ⟨Bs, 0, none⟩)], .int .i64 x, undef, undef, undef, undef, undef], defers := [] }) ?assign ?body ?done ?stop
  case assign =>
    intro l x W K hK
    gi_wp2
    exact hK
  case body =>
    rintro l pre x W ⟨⟨v, hv, hrow, hnil⟩, hB⟩ hlt
    have hc := hv.cell
    gi_wp2_with (gi_at_builtin; refine wpListIn_append_own _ rfl _ _ 22 rfl w.heap.size 3 i0 (.int .i64 0) 1 8 Try.underlying22 hi hz0 hz1 hz2 rfl (by decide) _ _ _ rfl (hrow.alloc _) ⟨W.heap.size, 0, none⟩ 1 1 [.int .i64 x] rfl rfl (cell_one_new _ _ _) (by simp [Value.oneCell']) (by omega) (by omega) (by have := hB.size; simp; omega) ?_; intro v' w1 hown' hgrow _; obtain ⟨g', cap', rfl⟩ := ownsRow_succ hown'; obtain ⟨hv1, hv2, hr2, hk2, hb2⟩ := hv.appended (by decide) hrow hB.size (Nat.le_refl _) hown' hgrow; have hc1 := hv1.cell; have hf1 := hv1.frozen)
    exact ⟨hk2.from _, hb2, ⟨_, hv2, by simpa using hr2, by simp⟩, hB.trans hb2⟩
  case done =>
    rintro D ys W hD rfl ⟨⟨v, hv, hrow, hnil⟩, hB⟩ hK
    have hc := hv.cell
    gi_wp2
    refine ⟨by simp, .inl ⟨_, _, rfl, run_takeDeferred hK, ?_⟩⟩
    exact ⟨_, results_tmp rfl _ _ _, v, rfl, ownsRow_putObj hrow _ hK rfl, hnil, hB.trans (belowK_b (w := w) (Nat.le_refl _) W D _ _ (by simp at hD; omega) hK rfl rfl)⟩
  case stop =>
    rintro D c pre W _ _ h _
    exact h.elim

end Go.Proofs.Ytgonmjghdkoekaa.values
/-
  factor.images: slices.Compact(slices.Sorted(slices.Values(l))): a slice of the call's own that holds the numbers of l in order, each once; nothing that lay there has turned.
-/
namespace Go.Proofs.Ytgonmjghdkoekaa.values
open Go Go.Proofs Go.RowKit Go.Shelf Go.Sort

theorem values_c (a : Option Addr) (len cap : Nat) (w : World) :
    Calls Try.prog 94 #[.slice a len cap] w fun e w' => e = .returned (.func (.func 103) #[] #[.pointer (some ⟨w.heap.size, 0, none⟩)]) ∧ w' = w.alloc (.cells #[.slice a len cap] 22) :=
  calls_of_every_depth (L := [94]) (n := 0) fun D => values_in (Fence.list [94] (some D)) 0 (by simp [Fence.list]) rfl a len cap w

set_option maxRecDepth 100000 in
set_option maxHeartbeats 2000000 in
theorem collect_c (Bs : Nat) (sv : Value) (zs : List Int) (hlen : zs.length ≤ maxLen) (hbytes : zs.length * 8 ≤ 140737488351232) (w : World) (hBs : Bs < w.heap.size)
    (hc : w.cell? ⟨Bs, 0, none⟩ = some sv) (hI : Ints w.heap.size w sv zs) :
    Calls Try.prog 102 #[.func (.func 103) #[] #[.pointer (some ⟨Bs, 0, none⟩)]] w fun e W' => ∃ v, e = .returned v ∧ W'.ownsRow w.heap.size 3 1 v zs.length (zs.map (Value.int .i64)) ∧ (v = .slice none 0 0 ↔ zs = []) ∧ Below w.heap.size w W' := by
  have hap : Calls Try.prog 109 #[.slice none 0 0, .func (.func 103) #[] #[.pointer (some ⟨Bs, 0, none⟩)]] w fun e W' => ∃ v, e = .returned v ∧ W'.ownsRow w.heap.size 3 1 v zs.length (zs.map (Value.int .i64)) ∧ (v = .slice none 0 0 ↔ zs = []) ∧ Below w.heap.size w W' :=
    calls_of_every_depth (L := [109, 103]) (n := 3) fun D => appendSeq_in (Fence.list [109, 103] (some D)) 3 (by simp [Fence.list]) (by simp [Fence.list]) rfl (by decide) Bs sv zs hlen hbytes w hBs hc hI
  go_enter Try.func102, Try.ntmps102
  go_wp2_with (go_at_call 109; refine hap.mono ?_; rintro e w1 ⟨v1, rfl, hown, hnn, hbel⟩)
  go_ret
  exact ⟨_, rfl, hown, hnn, hbel⟩

set_option maxRecDepth 100000 in
set_option maxHeartbeats 2000000 in
theorem sorted_c (Bs : Nat) (sv : Value) (zs : List Int) (hlen : zs.length ≤ maxLen) (hbytes : zs.length * 8 ≤ 140737488351232) (w : World) (hBs : Bs < w.heap.size)
    (hc : w.cell? ⟨Bs, 0, none⟩ = some sv) (hI : Ints w.heap.size w sv zs) (hne : zs ≠ []) :
    Calls Try.prog 93 #[.func (.func 103) #[] #[.pointer (some ⟨Bs, 0, none⟩)]] w fun e W' => ∃ g cap, e = .returned (.slice (some ⟨g, 0, none⟩) zs.length cap) ∧ w.heap.size ≤ g ∧ g < W'.heap.size ∧ zs.length ≤ cap ∧ cap ≤ maxLen ∧
      W'.ownsRow w.heap.size 3 1 (.slice (some ⟨g, 0, none⟩) zs.length cap) zs.length ((zs.mergeSort fun x y => decide (x ≤ y)).map (Value.int .i64)) ∧ Below w.heap.size w W' := by
  have hcol := collect_c Bs sv zs hlen hbytes w hBs hc hI
  clear hc hI
  go_enter Try.func93, Try.ntmps93
  go_wp2_with (first
    | (go_at_call 102; refine hcol.mono ?_; rintro e w1 ⟨v1, rfl, hown, hnn, hbel⟩
       have hown' := hown
       obtain ⟨g, cap, rfl, hbg, hgl, hncap, hcm, hlen2, hH⟩ := Lib.holds_of_ownsRow hown (fun h => hne (hnn.1 h))
       have hsort := Try.slices_Sort_int g 0 cap zs w1 hH hgl (by unfold maxLen at hlen; omega)
       have X : Aside (w1.ownsRow w.heap.size 3 1 (.slice (some ⟨g, 0, none⟩) zs.length cap) zs.length (zs.map (Value.int .i64)) ∧ Below w.heap.size w w1 ∧ w.heap.size ≤ g ∧ g < w1.heap.size ∧ zs.length ≤ cap ∧ cap ≤ maxLen) := ⟨hown', hbel, hbg, hgl, hncap, hcm⟩
       clear hown hown' hbel hH hnn)
    | (go_at_call 100; refine hsort.mono ?_; rintro e w2 ⟨rfl, nn, os, rfl⟩))
  go_ret
  obtain ⟨x1, x2, x3, x4, x5, x6⟩ := X.out
  rcases x1.2 with ⟨e0, _⟩ | ⟨g', cap', cur, hv, hbase, hb, h1, h2, h3, h4⟩
  · cases e0
  cases hv
  exact ⟨g, cap, rfl, x3, by simp [grow, putRow, mapBlock, Sort.ahead]; omega, x5, x6, ownsRow_sortedI (by simp) hbase hb h1 h2 h3, x2.grown (grownBy_sortedI _) x2.size (fun j hj => by cases hj; exact hbase)⟩

set_option maxRecDepth 100000 in
set_option maxHeartbeats 2000000 in
theorem sorted_nil_c (Bs : Nat) (sv : Value) (w : World) (hBs : Bs < w.heap.size) (hc : w.cell? ⟨Bs, 0, none⟩ = some sv) (hI : Ints w.heap.size w sv []) :
    Calls Try.prog 93 #[.func (.func 103) #[] #[.pointer (some ⟨Bs, 0, none⟩)]] w fun e W' => e = .returned (.slice none 0 0) ∧ Below w.heap.size w W' := by
  have hcol := collect_c Bs sv [] (by simp) (by simp) w hBs hc hI
  clear hc hI
  go_enter Try.func93, Try.ntmps93
  go_wp2_with (first
    | (go_at_call 102; refine hcol.mono ?_; rintro e w1 ⟨v1, rfl, hown, hnn, hbel⟩; obtain rfl : v1 = .slice none 0 0 := hnn.2 rfl; clear hown hnn)
    | (go_at_call 100; refine (Try.slices_Sort_int_none none 0 _).mono ?_; rintro e w2 ⟨rfl, rfl⟩))
  go_ret
  exact ⟨rfl, hbel⟩

set_option maxRecDepth 100000 in
set_option maxHeartbeats 2000000 in
theorem images_nil (a : Option Addr) (cap : Nat) (w : World) : Calls Try.prog 65 #[.slice a 0 cap] w fun e W' => e = .returned (.slice none 0 0) ∧ Below w.heap.size w W' := by
  have hB1 : Below w.heap.size w (w.alloc (.cells #[.slice a 0 cap] 22)) := (Below.refl _ w).alloc (Nat.le_refl _) _
  have hsz : (w.alloc (.cells #[.slice a 0 cap] 22)).heap.size = w.heap.size + 1 := by simp
  have hbox : (w.alloc (.cells #[.slice a 0 cap] 22)).cell? ⟨w.heap.size, 0, none⟩ = some (.slice a 0 cap) := (Boxed.new w 22 _).cell
  have hs := sorted_nil_c w.heap.size _ _ (by omega) hbox (.inl ⟨a, cap, rfl, rfl⟩)
  clear hbox
  obtain ⟨w1, hw1⟩ : ∃ w1, w.alloc (.cells #[.slice a 0 cap] 22) = w1 := ⟨_, rfl⟩
  rw [hw1] at hs hB1 hsz
  go_enter Try.func65, Try.ntmps65
  go_wp2_with (first
    | (go_at_call 94; refine (values_c _ _ _ _).mono ?_; rintro e w' ⟨rfl, rfl⟩; rw [hw1])
    | (go_at_call 93; refine hs.mono ?_; rintro e w2 ⟨rfl, s6⟩)
    | (go_at_call 92; refine (Try.slices_Compact_int_empty none 0 _).mono ?_; rintro e w3 ⟨rfl, rfl⟩))
  go_ret
  exact ⟨rfl, hB1.trans (s6.mono (by omega))⟩

theorem ownsRow_base {W : World} {base base' : Nat} {e : TypeId} {size : Nat} {v : Value} {k : Nat} {xs : List Value} (h : W.ownsRow base e size v k xs) (hb : base' ≤ base) : W.ownsRow base' e size v k xs := by
  refine ⟨h.1, ?_⟩
  rcases h.2 with h0 | ⟨g, cap, cur, h1, h2, h3⟩
  · exact .inl h0
  · exact .inr ⟨g, cap, cur, h1, Nat.le_trans hb h2, h3⟩

set_option maxRecDepth 100000 in
set_option maxHeartbeats 2000000 in
theorem images_any (b off cap : Nat) (zs : List Int) (w : World) (hne : zs ≠ []) (hlen : zs.length ≤ maxLen) (hbytes : zs.length * 8 ≤ 140737488351232) (hc : ∀ j, j < zs.length → w.cell? ⟨b, off + j, none⟩ = some (.int .i64 (zs.getD j 0))) :
    Calls Try.prog 65 #[.slice (some ⟨b, off, none⟩) zs.length cap] w fun e W' => ∃ v, e = .returned v ∧
      W'.ownsRow w.heap.size 3 1 v (Lib.compact (zs.mergeSort fun x y => decide (x ≤ y))).length ((Lib.compact (zs.mergeSort fun x y => decide (x ≤ y))).map (Value.int .i64)) ∧ Below w.heap.size w W' := by
  have hp : 0 < zs.length := List.length_pos_iff.2 hne
  have hb : b < w.heap.size := World.block_lt_of_cell? w _ (hc 0 hp)
  have hB1 : Below w.heap.size w (w.alloc (.cells #[.slice (some ⟨b, off, none⟩) zs.length cap] 22)) := (Below.refl _ w).alloc (Nat.le_refl _) _
  have hsz : (w.alloc (.cells #[.slice (some ⟨b, off, none⟩) zs.length cap] 22)).heap.size = w.heap.size + 1 := by simp
  have hbox : (w.alloc (.cells #[.slice (some ⟨b, off, none⟩) zs.length cap] 22)).cell? ⟨w.heap.size, 0, none⟩ = some (.slice (some ⟨b, off, none⟩) zs.length cap) := (Boxed.new w 22 _).cell
  have hI : Ints (w.alloc (.cells #[.slice (some ⟨b, off, none⟩) zs.length cap] 22)).heap.size (w.alloc (.cells #[.slice (some ⟨b, off, none⟩) zs.length cap] 22)) (.slice (some ⟨b, off, none⟩) zs.length cap) zs :=
    .inr ⟨b, off, cap, rfl, by omega, fun j hj => by rw [← List.getD_eq_getElem?_getD]; exact (hB1.cell (p := ⟨b, off + j, none⟩) hb).trans (hc j hj)⟩
  have hs := sorted_c w.heap.size _ zs hlen hbytes _ (by omega) hbox hI hne
  clear hbox hI hc
  obtain ⟨w1, hw1⟩ : ∃ w1, w.alloc (.cells #[.slice (some ⟨b, off, none⟩) zs.length cap] 22) = w1 := ⟨_, rfl⟩
  rw [hw1] at hs hB1 hsz
  go_enter Try.func65, Try.ntmps65
  go_wp2_with (first
    | (go_at_call 94; refine (values_c _ _ _ _).mono ?_; rintro e w' ⟨rfl, rfl⟩; rw [hw1])
    | (go_at_call 93; refine hs.mono ?_; rintro e w2 ⟨g, cap2, rfl, s1, s2, s3, s4, s5, s6⟩
       obtain ⟨g', c', hg', t1, t2, t3, t4, t5, hH⟩ := Lib.holds_of_ownsRow s5 (by simp)
       cases hg'
       have hcomp := Try.slices_Compact_int g 0 cap2 (zs.mergeSort fun x y => decide (x ≤ y)) w2 hH (by rw [t5]; unfold maxLen at hlen; omega) (by rw [t5]; exact s3)
       rw [t5] at hcomp
       have X : Aside (w2.ownsRow w1.heap.size 3 1 (.slice (some ⟨g, 0, none⟩) zs.length cap2) zs.length ((zs.mergeSort fun x y => decide (x ≤ y)).map (Value.int .i64)) ∧ Below w1.heap.size w1 w2 ∧ w1.heap.size ≤ g) := ⟨s5, s6, s1⟩
       clear s5 s6 hH hs)
    | (go_at_call 92; refine hcomp.mono ?_; rintro e w3 ⟨rfl, q, rfl⟩))
  go_ret
  have hle := Lib.compact_length_le (zs.mergeSort fun x y => decide (x ≤ y))
  rw [List.length_mergeSort] at hle
  have hr := Lib.ownsRow_putRow (q := q) (k := (Lib.compact (zs.mergeSort fun x y => decide (x ≤ y))).length) (ys := Lib.compact (zs.mergeSort fun x y => decide (x ≤ y)) ++ List.replicate (zs.length - (Lib.compact (zs.mergeSort fun x y => decide (x ≤ y))).length) 0) X.out.1 (by simp; omega) hle
  rw [List.take_left] at hr
  exact ⟨_, rfl, ownsRow_base hr (by omega), hB1.trans (Below.mono (Lib.below_putRow X.out.2.1 X.out.2.2) (by omega))⟩
end Go.Proofs.Ytgonmjghdkoekaa.values
/-
  factor.images as a call of the abstract machine: a second bridge, for results that are slices of numbers in memory of the call's own.
-/
namespace Go.AM
open Go Go.Proofs Go.RowKit
set_option linter.unusedSimpArgs false
set_option linter.unusedVariables false

/-- A slice of the call's own that holds numbers reads as data. -/
theorem rvd_owns {G : Gh} {w w' : World} {m : AMem} (hm : RelM G m w) {v : Value} {xs : List Int} (h : w'.ownsRow w.heap.size 3 1 v xs.length (xs.map (Value.int .i64))) : RVd w'.cell? G.ps (ints xs) v := by
  rcases h.2 with ⟨rfl, h0⟩ | ⟨g, cap, cur, rfl, hb, hg, h1, h2, h3, h4⟩
  · obtain rfl : xs = [] := List.length_eq_zero_iff.1 h0
    exact .sl (es := []) (fun _ _ => default) (Nat.le_refl _) (by decide) (by simp) (by simp) (by simp) (by simp)
  · have hl : xs.length = (xs.map fun n => [D.raw (.int .i64 n)]).length := by simp
    have hat : ∀ i, i < xs.length → cur[i]? = some (.int .i64 (xs.getD i 0)) := fun i hi => by
      have e : (cur.toList.take (xs.length * 1))[i]? = (xs.map (Value.int .i64))[i]? := by rw [h4]
      rw [List.getElem?_take, if_pos (by omega), Array.getElem?_toList, List.getElem?_map, List.getElem?_eq_getElem hi] at e
      rw [e]
      simp [hi]
    unfold ints
    conv => rhs; rw [hl]
    refine .sl (fun i _ => .int .i64 (xs.getD i 0)) (by simpa using h1) h2 (fun e he => ?_) (fun _ => ⟨_, rfl⟩) (fun a ha i j hi hj => ?_) (fun i j hi hj => ?_)
    · obtain ⟨y, _, rfl⟩ := List.mem_map.1 he
      rfl
    · cases ha
      have hi' : i < xs.length := by simpa using hi
      have hj0 : j = 0 := by omega
      subst hj0
      refine ⟨?_, ?_⟩
      · unfold Gh.ps
        have hbl : (Addr.add ⟨g, 0, none⟩ (i * 1 + 0)).block = g := by unfold Addr.add; split <;> rfl
        rw [hbl, hm.fresh g hb]
        trivial
      · have ha : Addr.add ⟨g, 0, none⟩ (i * 1 + 0) = ⟨g, i, none⟩ := by
          unfold Addr.add
          split
          · rename_i h0; congr 1; omega
          · simp
        rw [ha]
        simp only [World.cell?, hg, Option.isSome_none, Bool.false_eq_true, if_false]
        exact hat i hi'
    · simp only [List.length_map] at hi
      simp only [List.getElem_map, List.length_cons, List.length_nil] at hj ⊢
      have hj0 : j = 0 := by omega
      subst hj0
      have e : xs.getD i 0 = xs[i] := by simp [hi]
      simp only [List.getElem_cons_zero, e]
      exact .raw rfl

theorem images65_c (l : List Int) (hl : l.length ≤ 1000000) (tok : Nat → Bool) (nt : Nat) : DCall Try.prog 65 [.d (ints l)] tok nt (.d (ints (imagesI l))) tok nt := by
  intro box nb
  refine ⟨Enters.mk Try.func65 rfl (by kernel_rfl), fun G w vals hm hr => ?_⟩
  obtain ⟨hlen, hrv⟩ := hr
  match vals, hlen with
  | [v], _ =>
    have h0 := hrv 0 (by simp) (by simp)
    simp only [List.getElem_cons_zero] at h0
    cases h0 with
    | d h0 =>
      obtain ⟨A, cap, rfl, hcap, hmax, hA, hc⟩ := rvd_ints h0
      by_cases e : l = []
      · subst e
        refine (Ytgonmjghdkoekaa.values.images_nil A cap w).mono ?_
        rintro e w' ⟨rfl, hb⟩
        have e0 : imagesI [] = [] := by simp [imagesI, sortI, List.mergeSort, Lib.compact]; rfl
        exact ⟨_, _, _, G, rfl, ⟨rfl, rfl⟩, rfl, relM_below hm hb, .d (by rw [e0]; exact .sl (es := []) (fun _ _ => default) (Nat.le_refl _) (by decide) (by simp) (by simp) (by simp) (by simp)), le_below hm hb, fun k hk => ⟨hk, rfl⟩⟩
      · obtain ⟨a, rfl⟩ := hA e
        have hp : 0 < l.length := List.length_pos_iff.2 e
        have hc' := hc a rfl
        have hs : a.spot = none := by
          cases hsp : a.spot with
          | none => rfl
          | some q =>
            exfalso
            have := hc' 0 hp
            simp only [World.cell?, Addr.add, hsp, Option.isSome_some, ↓reduceIte] at this
            split at this <;> simp at this
        obtain ⟨b, off, sp⟩ := a
        simp only at hs
        subst hs
        refine (Ytgonmjghdkoekaa.values.images_any b off cap l w e (by unfold maxLen; omega) (by omega) fun j hj => ?_).mono ?_
        · have h1 := hc' j hj
          unfold Addr.add at h1
          split at h1
          · rename_i e; subst e; exact h1
          · exact h1
        · rintro e w' ⟨v, rfl, hown, hb⟩
          exact ⟨v, _, _, G, rfl, ⟨rfl, rfl⟩, rfl, relM_below hm hb, .d (rvd_owns hm hown), le_below hm hb, fun k hk => ⟨hk, rfl⟩⟩
end Go.AM
namespace Go.AM
open Go Go.Proofs
set_option linter.unusedSimpArgs false
set_option linter.unusedVariables false

/-! ### factor.Factor -/
def pickN (ns : List Int) (js : List Int) (i : Nat) : List Int := (js.take i).map fun j => ns.getD j.toNat 0
theorem pickN_zero (l h : List Int) : pickN l h 0 = [] := by simp [pickN]
@[simp] theorem pickN_len (l h : List Int) (i : Nat) : (pickN l h i).length = min i h.length := by simp [pickN]
theorem pickN_succ (l h : List Int) {i : Nat} (hi : i < h.length) : pickN l h (i + 1) = pickN l h i ++ [l.getD h[i].toNat 0] := by simp only [pickN, List.take_add_one, List.getElem?_eq_getElem hi, Option.toList, List.map_append, List.map_cons, List.map_nil]
def pickE (es : List E) (ns js : List Int) (i : Nat) : List E := (js.take i).map fun j => ⟨(es.getD j.toNat default).ty, indexI ns (es.getD j.toNat default).fr, indexI ns (es.getD j.toNat default).to⟩
theorem pickE_zero (l : List E) (ns h : List Int) : pickE l ns h 0 = [] := by simp [pickE]
@[simp] theorem pickE_len (l : List E) (ns h : List Int) (i : Nat) : (pickE l ns h i).length = min i h.length := by simp [pickE]
theorem pickE_succ (l : List E) (ns h : List Int) {i : Nat} (hi : i < h.length) : pickE l ns h (i + 1) = pickE l ns h i ++ [⟨(l.getD h[i].toNat default).ty, indexI ns (l.getD h[i].toNat default).fr, indexI ns (l.getD h[i].toNat default).to⟩] := by simp only [pickE, List.take_add_one, List.getElem?_eq_getElem hi, Option.toList, List.map_append, List.map_cons, List.map_nil]

structure Fa where
  g : Gr
  onto : Mo
  into : Mo
  e : Int
def facR (a b : Gr) (m : Mo) : Fa :=
  if validM a b m ≠ 0 then ⟨⟨[], []⟩, ⟨[], []⟩, ⟨[], []⟩, validM a b m⟩
  else ⟨⟨pickN b.nodes (imagesI m.nodes) (imagesI m.nodes).length, pickE b.edges (imagesI m.nodes) (imagesI m.edges) (imagesI m.edges).length⟩,
    ⟨placesK m.nodes (imagesI m.nodes) m.nodes.length, placesK m.edges (imagesI m.edges) m.edges.length⟩, ⟨imagesI m.nodes, imagesI m.edges⟩, 0⟩

theorem imagesI_len (l : List Int) : (imagesI l).length ≤ l.length := by
  have := Lib.compact_length_le (sortI l)
  rw [(sortI_perm l).length_eq] at this
  exact this

def st35a (a b : Gr) (m : Mo) (N M : List Int) (nb : Nat) (box : Nat → Option (List (List AV))) (y : Acc) : AState :=
  ⟨tl [(36, .d (ints N)), (37, I N.length), (38, I y.i), (4, .ptr (nb + 4) 0 0), (5, .ptr (nb + 5) 0 0), (6, .ptr (nb + 6) 0 0), (7, .ptr (nb + 7) 0 0), (8, .ptr (nb + 8) 0 0), (11, .ptr (nb + 11) 0 0), (12, .ptr (nb + 12) 0 0)],
    lb nb box [(12, [[.osl 1 (rI (pickN b.nodes N y.i)) y.own, .osl 0 [] .full]]), (11, [[.d (ints N), .d (ints M)]]), (5, [[.d (ints m.nodes), .d (ints m.edges)]]), (4, [[.d (ints b.nodes), .d (AM.edges b.edges)]]), (6, [[.bot, .bot]]), (7, [[.bot, .bot]]), (8, [[.bot, .bot]])], y.tok, y.nt⟩
def st35b (a b : Gr) (m : Mo) (N M : List Int) (nb : Nat) (box : Nat → Option (List (List AV))) (y : Acc) : AState :=
  ⟨tl [(54, .d (ints M)), (55, I M.length), (56, I y.i), (4, .ptr (nb + 4) 0 0), (5, .ptr (nb + 5) 0 0), (6, .ptr (nb + 6) 0 0), (7, .ptr (nb + 7) 0 0), (8, .ptr (nb + 8) 0 0), (11, .ptr (nb + 11) 0 0), (12, .ptr (nb + 12) 0 0)],
    lb nb box [(12, [[.d (ints (pickN b.nodes N N.length)), .osl 3 (rE (pickE b.edges N M y.i)) y.own]]), (11, [[.d (ints N), .d (ints M)]]), (5, [[.d (ints m.nodes), .d (ints m.edges)]]), (4, [[.d (ints b.nodes), .d (AM.edges b.edges)]]), (6, [[.bot, .bot]]), (7, [[.bot, .bot]]), (8, [[.bot, .bot]])], y.tok, y.nt⟩

theorem factor35_c (a b : Gr) (m : Mo) (ha : a.Fit) (hb : b.Fit) (hm : m.Fit) (tok : Nat → Bool) (nt : Nat) :
    DCall Try.prog 35 [a.av, b.av, m.av] tok nt (.tup [(facR a b m).g.av, (facR a b m).onto.av, (facR a b m).into.av, I (facR a b m).e]) tok nt := by
  intro box nb
  refine ACalls.of_body Try.func35 rfl (by kernel_rfl) follows_Try (by kernel_rfl) (by simp [Try.ntmps35]) ?_
  intro hbox htok
  simp only at hbox htok
  apply AL.start
  repeat (first | refine AL.seq ?_ | refine AL.block ?_ | refine AL.skip ?_ | refine AL.blk ?_)
  refine AL.region follows_Try (Nat.le_refl _) (by kernel_rfl) ?_
  simp
  repeat (first | refine AL.seq ?_ | refine AL.block ?_ | refine AL.skip ?_ | refine AL.blk ?_)
  refine AL.region follows_Try (Nat.le_refl _) (by kernel_rfl) ?_
  simp
  refine Stop.of_d (valid51_c a b m ha hb _ _) ?_
  simp
  by_cases h1 : validM a b m = 0
  · repeat (first | refine AL.seq ?_ | refine AL.block ?_ | refine AL.skip ?_ | refine AL.blk ?_)
    refine AL.region follows_Try (Nat.le_refl _) (by kernel_rfl) ?_
    simp [h1]
    repeat (first | refine AL.seq ?_ | refine AL.block ?_ | refine AL.skip ?_ | refine AL.blk ?_)
    refine AL.cond ?_
    simp
    repeat (first | refine AL.seq ?_ | refine AL.block ?_ | refine AL.skip ?_ | refine AL.blk ?_)
    refine AL.region follows_Try (Nat.le_refl _) (by kernel_rfl) ?_
    simp
    refine Stop.of_d (images65_c m.nodes hm.n _ _) ?_
    simp
    refine Stop.of_d (images65_c m.edges hm.e _ _) ?_
    simp
    have hRes : facR a b m = ⟨⟨pickN b.nodes (imagesI m.nodes) (imagesI m.nodes).length, pickE b.edges (imagesI m.nodes) (imagesI m.edges) (imagesI m.edges).length⟩,
      ⟨placesK m.nodes (imagesI m.nodes) m.nodes.length, placesK m.edges (imagesI m.edges) m.edges.length⟩, ⟨imagesI m.nodes, imagesI m.edges⟩, 0⟩ := by simp [facR, h1]
    simp only [hRes]
    clear hRes
    have v := validM_VM h1
    have hIn : ∀ x ∈ imagesI m.nodes, 0 ≤ x ∧ x < b.nodes.length := fun x hx => v.n x ((imagesI_mem _ _).1 hx)
    have hIe : ∀ x ∈ imagesI m.edges, 0 ≤ x ∧ x < b.edges.length := fun x hx => v.e x ((imagesI_mem _ _).1 hx)
    have l1 := imagesI_len m.nodes
    have l2 := imagesI_len m.edges
    have hmn := hm.n
    have hme := hm.e
    generalize imagesI m.nodes = N at *
    generalize imagesI m.edges = M at *
    repeat (first | refine AL.seq ?_ | refine AL.block ?_ | refine AL.skip ?_ | refine AL.blk ?_)
    refine AL.region follows_Try (Nat.le_refl _) (by kernel_rfl) ?_
    simp
    repeat (first | refine AL.seq ?_ | refine AL.block ?_ | refine AL.skip ?_ | refine AL.blk ?_)
    refine AL.region follows_Try (Nat.le_refl _) (by kernel_rfl) ?_
    simp
    repeat (first | refine AL.seq ?_ | refine AL.block ?_ | refine AL.skip ?_ | refine AL.blk ?_)
    refine AL.loopT (st35a a b m N M nb box) (fun y => y.i ≤ N.length ∧ TK tok nt y.tok y.nt [y.own]) (fun y => N.length - y.i) ⟨0, .full, _, _⟩ ⟨Nat.zero_le _, (TK.start htok).full⟩ (Weaks.mk (Nat.le_refl _) rfl (by simp [ToL, lk]) (by simp [BoxL, lk, pickN_zero])) ?_
    rintro ⟨i, own, tok', nt'⟩ S ⟨hi, htk⟩ hS
    simp only [st35a] at hS hi htk
    subst hS
    have hw : IntKind.i64.wrap (↑i + 1) = ((i + 1 : Nat) : Int) := by rw [wrap_in (by omega) (by omega)]; rfl
    repeat (first | refine AL.seq ?_ | refine AL.block ?_ | refine AL.skip ?_ | refine AL.blk ?_)
    refine AL.region follows_Try (Nat.le_refl _) (by kernel_rfl) ?_
    simp
    repeat (first | refine AL.seq ?_ | refine AL.block ?_ | refine AL.skip ?_ | refine AL.blk ?_)
    refine AL.cond ?_
    simp
    refine ⟨fun hlt => ?_, fun hge => ?_⟩
    · obtain ⟨x0, x1⟩ := hIn _ (List.getElem_mem hlt)
      have x2 : N[i].toNat < b.nodes.length := by omega
      repeat (first | refine AL.seq ?_ | refine AL.block ?_ | refine AL.skip ?_ | refine AL.blk ?_)
      refine AL.region follows_Try (Nat.le_refl _) (by kernel_rfl) ?_
      simp [hlt]
      repeat (first | refine AL.seq ?_ | refine AL.block ?_ | refine AL.skip ?_ | refine AL.blk ?_)
      refine AL.region follows_Try (Nat.le_refl _) (by kernel_rfl) ?_
      simp [x0, x1, x2]
      refine ⟨⟨by omega, htk.live⟩, ?_⟩
      repeat (first | refine AL.seq ?_ | refine AL.block ?_ | refine AL.skip ?_ | refine AL.blk ?_)
      refine AL.region follows_Try (Nat.le_refl _) (by kernel_rfl) ?_
      simp [hw]
      repeat (first | refine AL.seq ?_ | refine AL.block ?_ | refine AL.skip ?_ | refine AL.blk ?_)
      refine AL.nil ?_
      exact ⟨⟨i + 1, _, _, _⟩, ⟨hlt, htk.app⟩, by simp; omega, Weaks.mk htk.app.le rfl (by simp [ToL, lk]) (by simp [BoxL, lk, pickN_succ b.nodes N hlt, x2])⟩
    · repeat (first | refine AL.seq ?_ | refine AL.block ?_ | refine AL.skip ?_ | refine AL.blk ?_)
      refine AL.exit ?_
      simp only [AU, ↓reduceIte]
      have : i = N.length := by omega
      subst this
      repeat (first | refine AL.seq ?_ | refine AL.block ?_ | refine AL.skip ?_ | refine AL.blk ?_)
      refine AL.region follows_Try (Nat.le_refl _) (by kernel_rfl) ?_
      simp
      repeat (first | refine AL.seq ?_ | refine AL.block ?_ | refine AL.skip ?_ | refine AL.blk ?_)
      have htk2 := htk.tail.full
      refine AL.loopT (st35b a b m N M nb box) (fun y => y.i ≤ M.length ∧ TK tok nt y.tok y.nt [y.own]) (fun y => M.length - y.i) ⟨0, .full, _, _⟩ ⟨Nat.zero_le _, htk2⟩ (Weaks.mk htk2.le rfl (by simp [ToL, lk]) (by simp [BoxL, lk, pickE_zero])) ?_
      rintro ⟨i, own, tok', nt'⟩ S ⟨hi, htk⟩ hS
      simp only [st35b] at hS hi htk
      subst hS
      have hw : IntKind.i64.wrap (↑i + 1) = ((i + 1 : Nat) : Int) := by rw [wrap_in (by omega) (by omega)]; rfl
      repeat (first | refine AL.seq ?_ | refine AL.block ?_ | refine AL.skip ?_ | refine AL.blk ?_)
      refine AL.region follows_Try (Nat.le_refl _) (by kernel_rfl) ?_
      simp
      repeat (first | refine AL.seq ?_ | refine AL.block ?_ | refine AL.skip ?_ | refine AL.blk ?_)
      refine AL.cond ?_
      simp
      refine ⟨fun hlt => ?_, fun hge => ?_⟩
      · obtain ⟨x0, x1⟩ := hIe _ (List.getElem_mem hlt)
        have x2 : M[i].toNat < b.edges.length := by omega
        repeat (first | refine AL.seq ?_ | refine AL.block ?_ | refine AL.skip ?_ | refine AL.blk ?_)
        refine AL.region follows_Try (Nat.le_refl _) (by kernel_rfl) ?_
        simp [hlt]
        repeat (first | refine AL.seq ?_ | refine AL.block ?_ | refine AL.skip ?_ | refine AL.blk ?_)
        refine AL.region follows_Try (Nat.le_refl _) (by kernel_rfl) ?_
        simp [x0, x1, x2]
        have ge : b.edges.getD M[i].toNat default = b.edges[M[i].toNat] := by simp [x2]
        have hS := pickE_succ b.edges N M hlt
        rw [ge] at hS
        generalize b.edges[M[i].toNat] = y at *
        have hNl : N.length ≤ 1000000 := by omega
        repeat (first | refine AL.seq ?_ | refine AL.block ?_ | refine AL.skip ?_ | refine AL.blk ?_)
        refine AL.region follows_Try (Nat.le_refl _) (by kernel_rfl) ?_
        simp
        refine Stop.of_d (index_c N y.fr hNl _ _) ?_
        simp
        refine Stop.of_d (index_c N y.to hNl _ _) ?_
        simp
        refine ⟨⟨by omega, htk.live⟩, ?_⟩
        repeat (first | refine AL.seq ?_ | refine AL.block ?_ | refine AL.skip ?_ | refine AL.blk ?_)
        refine AL.region follows_Try (Nat.le_refl _) (by kernel_rfl) ?_
        simp [hw]
        repeat (first | refine AL.seq ?_ | refine AL.block ?_ | refine AL.skip ?_ | refine AL.blk ?_)
        refine AL.nil ?_
        exact ⟨⟨i + 1, _, _, _⟩, ⟨hlt, htk.app⟩, by simp; omega, Weaks.mk htk.app.le rfl (by simp [ToL, lk]) (by simp [BoxL, lk, hS])⟩
      · repeat (first | refine AL.seq ?_ | refine AL.block ?_ | refine AL.skip ?_ | refine AL.blk ?_)
        refine AL.exit ?_
        simp only [AU, ↓reduceIte]
        have : i = M.length := by omega
        subst this
        have hNl : N.length ≤ 1000000 := by omega
        have hMl : M.length ≤ 1000000 := by omega
        repeat (first | refine AL.seq ?_ | refine AL.block ?_ | refine AL.skip ?_ | refine AL.blk ?_)
        refine AL.region2 follows_Try (Nat.le_refl _) (by kernel_rfl) (Side.of (by simp)) ?_
        simp
        refine Stop.of_d (places57_c m.nodes N hmn hNl _ _) ?_
        simp
        refine Stop.of_d (places57_c m.edges M hme hMl _ _) ?_
        simp
        repeat (first | refine AL.seq ?_ | refine AL.block ?_ | refine AL.skip ?_ | refine AL.blk ?_)
        refine AL.ret ?_
        try simp only [AU]
        refine ⟨by simp, Fin.data (by simp [resAs, resA]; rfl) hbox rfl htok htk.old htk.le ?_⟩
        simp [packA, ]
  · have hb1 : (validM a b m != 0) = true := by simp [h1]
    repeat (first | refine AL.seq ?_ | refine AL.block ?_ | refine AL.skip ?_ | refine AL.blk ?_)
    refine AL.region follows_Try (Nat.le_refl _) (by kernel_rfl) ?_
    simp [hb1]
    repeat (first | refine AL.seq ?_ | refine AL.block ?_ | refine AL.skip ?_ | refine AL.blk ?_)
    refine AL.cond ?_
    simp
    repeat (first | refine AL.seq ?_ | refine AL.block ?_ | refine AL.skip ?_ | refine AL.blk ?_)
    refine AL.region follows_Try (Nat.le_refl _) (by kernel_rfl) ?_
    simp
    repeat (first | refine AL.seq ?_ | refine AL.block ?_ | refine AL.skip ?_ | refine AL.blk ?_)
    refine AL.ret ?_
    try simp only [AU]
    refine ⟨by simp, Fin.data (by simp [resAs, resA]; rfl) hbox rfl htok (fun _ h => h) (Nat.le_refl _) ?_⟩
    simp [packA, facR, h1, ints, AM.edges]
end Go.AM
namespace Go.AM
open Go Go.Proofs
set_option linter.unusedSimpArgs false
set_option linter.unusedVariables false

/-! ### Covers, Surjective, ref13.Factor -/
def covL (l : List Int) (n : Nat) : Bool := (List.range n).all fun k => decide ((k : Int) ∈ l)
theorem covL_succ (l : List Int) (n : Nat) : covL l (n + 1) = (covL l n && decide ((n : Int) ∈ l)) := by simp [covL, List.range_succ]
theorem covL_stop {l : List Int} {k n : Nat} (hk : k < n) (h : (k : Int) ∉ l) : covL l n = false := by
  unfold covL
  rw [List.all_eq_false]
  exact ⟨k, by simp [hk], by simp [h]⟩

def inK (l : List Int) (k i : Nat) : Bool := decide ((k : Int) ∈ l.take i)
theorem inK_zero (l : List Int) (k : Nat) : inK l k 0 = false := by simp [inK]
theorem inK_succ (l : List Int) (k : Nat) {i : Nat} (h : i < l.length) : inK l k (i + 1) = (inK l k i || (l[i] == (k : Int))) := by
  unfold inK
  rw [List.take_succ_eq_append_getElem h, Bool.eq_iff_iff]
  simp only [List.mem_append, List.mem_singleton, Bool.or_eq_true, decide_eq_true_eq, beq_iff_eq]
  exact ⟨fun h => h.imp id Eq.symm, fun h => h.imp id Eq.symm⟩
theorem inK_all (l : List Int) (k : Nat) : inK l k l.length = decide ((k : Int) ∈ l) := by simp [inK]

def st70a (l : List Int) (n : Nat) (nb : Nat) (box : Nat → Option (List (List AV))) (tok : Nat → Bool) (nt : Nat) (k : Nat) : AState := ⟨tl [(0, .d (ints l)), (1, I n), (5, I k)], lb nb box [], tok, nt⟩
def st70b (l : List Int) (n k : Nat) (nb : Nat) (box : Nat → Option (List (List AV))) (tok : Nat → Bool) (nt : Nat) (i : Nat) : AState := ⟨tl [(0, .d (ints l)), (1, I n), (5, I k), (6, B (inK l k i)), (7, I i)], lb nb box [], tok, nt⟩

theorem covers70_c (l : List Int) (n : Nat) (hl : l.length ≤ 1000000) (hn : n ≤ 1000000) (tok : Nat → Bool) (nt : Nat) : DCall Try.prog 70 [.d (ints l), I n] tok nt (B (covL l n)) tok nt := by
  intro box nb
  refine ACalls.of_body Try.func70 rfl (by kernel_rfl) follows_Try (by kernel_rfl) (by simp [Try.ntmps70]) ?_
  intro hbox htok
  simp only at hbox htok
  apply AL.start
  repeat (first | refine AL.seq ?_ | refine AL.block ?_ | refine AL.skip ?_ | refine AL.blk ?_)
  refine AL.region follows_Try (Nat.le_refl _) (by kernel_rfl) ?_
  simp
  repeat (first | refine AL.seq ?_ | refine AL.block ?_ | refine AL.skip ?_ | refine AL.blk ?_)
  refine AL.region follows_Try (Nat.le_refl _) (by kernel_rfl) ?_
  simp
  repeat (first | refine AL.seq ?_ | refine AL.block ?_ | refine AL.skip ?_ | refine AL.blk ?_)
  refine AL.loopT (st70a l n nb box tok nt) (fun k => k ≤ n ∧ covL l k = true) (fun k => n - k) 0 ⟨Nat.zero_le _, rfl⟩ (Weaks.mk (Nat.le_refl _) rfl (by simp [ToL]) trivial) ?_
  rintro k S ⟨hk, hok⟩ hS
  simp only [st70a] at hS
  subst hS
  have hw : IntKind.i64.wrap (↑k + 1) = ((k + 1 : Nat) : Int) := by rw [wrap_in (by omega) (by omega)]; rfl
  repeat (first | refine AL.seq ?_ | refine AL.block ?_ | refine AL.skip ?_ | refine AL.blk ?_)
  refine AL.region follows_Try (Nat.le_refl _) (by kernel_rfl) ?_
  simp
  repeat (first | refine AL.seq ?_ | refine AL.block ?_ | refine AL.skip ?_ | refine AL.blk ?_)
  refine AL.cond ?_
  simp
  refine ⟨fun hlt => ?_, fun hge => ?_⟩
  · repeat (first | refine AL.seq ?_ | refine AL.block ?_ | refine AL.skip ?_ | refine AL.blk ?_)
    refine AL.region follows_Try (Nat.le_refl _) (by kernel_rfl) ?_
    simp
    repeat (first | refine AL.seq ?_ | refine AL.block ?_ | refine AL.skip ?_ | refine AL.blk ?_)
    refine AL.region follows_Try (Nat.le_refl _) (by kernel_rfl) ?_
    simp
    repeat (first | refine AL.seq ?_ | refine AL.block ?_ | refine AL.skip ?_ | refine AL.blk ?_)
    refine AL.loopT (st70b l n k nb box tok nt) (fun i => i ≤ l.length) (fun i => l.length - i) 0 (Nat.zero_le _) (Weaks.mk (Nat.le_refl _) rfl (by simp [ToL, inK_zero]) trivial) ?_
    rintro i S hi hS
    simp only [st70b] at hS
    subst hS
    have hwi : IntKind.i64.wrap (↑i + 1) = ((i + 1 : Nat) : Int) := by rw [wrap_in (by omega) (by omega)]; rfl
    repeat (first | refine AL.seq ?_ | refine AL.block ?_ | refine AL.skip ?_ | refine AL.blk ?_)
    refine AL.region follows_Try (Nat.le_refl _) (by kernel_rfl) ?_
    simp
    repeat (first | refine AL.seq ?_ | refine AL.block ?_ | refine AL.skip ?_ | refine AL.blk ?_)
    refine AL.cond ?_
    simp
    refine ⟨fun hli => ?_, fun hge => ?_⟩
    · have hsucc := inK_succ l k hli
      generalize hf : inK l k i = f at *
      cases f
      · repeat (first | refine AL.seq ?_ | refine AL.block ?_ | refine AL.skip ?_ | refine AL.blk ?_)
        refine AL.region follows_Try (Nat.le_refl _) (by kernel_rfl) ?_
        simp [hli]
        repeat (first | refine AL.seq ?_ | refine AL.block ?_ | refine AL.skip ?_ | refine AL.blk ?_)
        refine AL.region follows_Try (Nat.le_refl _) (by kernel_rfl) ?_
        simp [hwi]
        repeat (first | refine AL.seq ?_ | refine AL.block ?_ | refine AL.skip ?_ | refine AL.blk ?_)
        refine AL.nil ?_
        have hs2 : inK l k (i + 1) = (l[i] == (k : Int)) := by rw [hsucc]; rfl
        exact ⟨i + 1, hli, by omega, Weaks.mk (Nat.le_refl _) rfl (by simp [ToL, hs2]) trivial⟩
      · repeat (first | refine AL.seq ?_ | refine AL.block ?_ | refine AL.skip ?_ | refine AL.blk ?_)
        refine AL.region follows_Try (Nat.le_refl _) (by kernel_rfl) ?_
        simp [hli]
        repeat (first | refine AL.seq ?_ | refine AL.block ?_ | refine AL.skip ?_ | refine AL.blk ?_)
        refine AL.region follows_Try (Nat.le_refl _) (by kernel_rfl) ?_
        simp [hwi]
        repeat (first | refine AL.seq ?_ | refine AL.block ?_ | refine AL.skip ?_ | refine AL.blk ?_)
        refine AL.nil ?_
        have hs2 : inK l k (i + 1) = true := by rw [hsucc]; rfl
        exact ⟨i + 1, hli, by omega, Weaks.mk (Nat.le_refl _) rfl (by simp [ToL, hs2]) trivial⟩
    · repeat (first | refine AL.seq ?_ | refine AL.block ?_ | refine AL.skip ?_ | refine AL.blk ?_)
      refine AL.exit ?_
      simp only [AU, ↓reduceIte]
      have : i = l.length := by omega
      subst this
      have ha := inK_all l k
      by_cases hm : (k : Int) ∈ l
      · have hb : inK l k l.length = true := by rw [ha]; simpa using hm
        simp only [hb]
        repeat (first | refine AL.seq ?_ | refine AL.block ?_ | refine AL.skip ?_ | refine AL.blk ?_)
        refine AL.region follows_Try (Nat.le_refl _) (by kernel_rfl) ?_
        simp
        repeat (first | refine AL.seq ?_ | refine AL.block ?_ | refine AL.skip ?_ | refine AL.blk ?_)
        refine AL.cond ?_
        simp
        repeat (first | refine AL.seq ?_ | refine AL.block ?_ | refine AL.skip ?_ | refine AL.blk ?_)
        refine AL.region follows_Try (Nat.le_refl _) (by kernel_rfl) ?_
        simp [hw]
        repeat (first | refine AL.seq ?_ | refine AL.block ?_ | refine AL.skip ?_ | refine AL.blk ?_)
        refine AL.nil ?_
        refine ⟨k + 1, ⟨hlt, ?_⟩, by omega, Weaks.mk (Nat.le_refl _) rfl (by simp [ToL]) trivial⟩
        rw [covL_succ, hok]; simpa using hm
      · have hb : inK l k l.length = false := by rw [ha]; simpa using hm
        simp only [hb]
        repeat (first | refine AL.seq ?_ | refine AL.block ?_ | refine AL.skip ?_ | refine AL.blk ?_)
        refine AL.region follows_Try (Nat.le_refl _) (by kernel_rfl) ?_
        simp
        repeat (first | refine AL.seq ?_ | refine AL.block ?_ | refine AL.skip ?_ | refine AL.blk ?_)
        refine AL.cond ?_
        simp
        repeat (first | refine AL.seq ?_ | refine AL.block ?_ | refine AL.skip ?_ | refine AL.blk ?_)
        refine AL.region follows_Try (Nat.le_refl _) (by kernel_rfl) ?_
        simp
        have hR := covL_stop hlt hm
        repeat (first | refine AL.seq ?_ | refine AL.block ?_ | refine AL.skip ?_ | refine AL.blk ?_)
        refine AL.ret ?_
        try simp only [AU]
        refine ⟨by simp, Fin.data (by simp [resAs, resA]; rfl) hbox rfl htok (fun _ h => h) (Nat.le_refl _) ?_⟩
        simp [packA, hR]
  · repeat (first | refine AL.seq ?_ | refine AL.block ?_ | refine AL.skip ?_ | refine AL.blk ?_)
    refine AL.exit ?_
    simp only [AU, ↓reduceIte]
    have : k = n := by omega
    subst this
    repeat (first | refine AL.seq ?_ | refine AL.block ?_ | refine AL.skip ?_ | refine AL.blk ?_)
    refine AL.region follows_Try (Nat.le_refl _) (by kernel_rfl) ?_
    simp
    repeat (first | refine AL.seq ?_ | refine AL.block ?_ | refine AL.skip ?_ | refine AL.blk ?_)
    refine AL.ret ?_
    try simp only [AU]
    refine ⟨by simp, Fin.data (by simp [resAs, resA]; rfl) hbox rfl htok (fun _ h => h) (Nat.le_refl _) ?_⟩
    simp [packA, hok]

def surM (a b : Gr) (m : Mo) : Bool := decide (validM a b m = 0) && (covL m.nodes b.nodes.length && covL m.edges b.edges.length)
theorem surjective38_c (a b : Gr) (m : Mo) (ha : a.Fit) (hb : b.Fit) (hm : m.Fit) (tok : Nat → Bool) (nt : Nat) : DCall Try.prog 38 [a.av, b.av, m.av] tok nt (B (surM a b m)) tok nt := by
  intro box nb
  refine ACalls.of_body Try.func38 rfl (by kernel_rfl) follows_Try (by kernel_rfl) (by simp [Try.ntmps38]) ?_
  intro hbox htok
  simp only at hbox htok
  apply AL.start
  repeat (first | refine AL.seq ?_ | refine AL.block ?_ | refine AL.skip ?_ | refine AL.blk ?_)
  refine AL.region follows_Try (Nat.le_refl _) (by kernel_rfl) ?_
  simp
  repeat (first | refine AL.seq ?_ | refine AL.block ?_ | refine AL.skip ?_ | refine AL.blk ?_)
  refine AL.region follows_Try (Nat.le_refl _) (by kernel_rfl) ?_
  simp
  refine Stop.of_d (valid53_c a b m ha hb _ _) ?_
  simp
  by_cases h1 : validM a b m = 0
  · simp [h1]
    refine Stop.of_d (covers70_c m.nodes b.nodes.length hm.n hb.n _ _) ?_
    simp [h1]
    by_cases h2 : covL m.nodes b.nodes.length = true
    · simp [h1, h2]
      refine Stop.of_d (covers70_c m.edges b.edges.length hm.e hb.e _ _) ?_
      simp [h1, h2]
      repeat (first | refine AL.seq ?_ | refine AL.block ?_ | refine AL.skip ?_ | refine AL.blk ?_)
      refine AL.ret ?_
      try simp only [AU]
      refine ⟨by simp, Fin.data (by simp [resAs, resA]; rfl) hbox rfl htok (fun _ h => h) (Nat.le_refl _) ?_⟩
      simp [packA, surM, h1, h2]
    · have h3 : covL m.nodes b.nodes.length = false := by simpa using h2
      simp only [h3]
      simp
      repeat (first | refine AL.seq ?_ | refine AL.block ?_ | refine AL.skip ?_ | refine AL.blk ?_)
      refine AL.ret ?_
      try simp only [AU]
      refine ⟨by simp, Fin.data (by simp [resAs, resA]; rfl) hbox rfl htok (fun _ h => h) (Nat.le_refl _) ?_⟩
      simp [packA, surM, h1, h3]
  · have hb1 : (validM a b m == 0) = false := by simp [h1]
    simp only [hb1]
    try simp
    repeat (first | refine AL.seq ?_ | refine AL.block ?_ | refine AL.skip ?_ | refine AL.blk ?_)
    refine AL.ret ?_
    try simp only [AU]
    refine ⟨by simp, Fin.data (by simp [resAs, resA]; rfl) hbox rfl htok (fun _ h => h) (Nat.le_refl _) ?_⟩
    simp [packA, surM, h1]
end Go.AM
namespace Go.AM
open Go Go.Proofs
set_option linter.unusedSimpArgs false
set_option linter.unusedVariables false

/-! ### ref13.Factor -/
def rkK (ns : List Int) (bit : Nat → Bool) : Nat → List Int
  | 0 => []
  | i + 1 => if bit i = true then rkK ns bit i ++ [((chN ns bit i).1.length : Int)] else rkK ns bit i ++ [0]
def rkR (ns : List Int) (bit : Nat → Bool) (n i : Nat) : List Int := rkK ns bit i ++ List.replicate (n - i) 0
theorem rkK_len (ns : List Int) (bit : Nat → Bool) : ∀ i, (rkK ns bit i).length = i
  | 0 => rfl
  | i + 1 => by
    simp only [rkK]
    split <;> simp [rkK_len ns bit i]
@[simp] theorem rkR_len (ns : List Int) (bit : Nat → Bool) {n i : Nat} (h : i ≤ n) : (rkR ns bit n i).length = n := by simp [rkR, rkK_len]; omega
theorem rkR_zero (ns : List Int) (bit : Nat → Bool) (n : Nat) : rkR ns bit n 0 = List.replicate n 0 := by simp [rkR, rkK]
theorem rkR_set (ns : List Int) (bit : Nat → Bool) {n i : Nat} (h : i < n) (v : Int) : (rkR ns bit n i).set i v = rkK ns bit i ++ [v] ++ List.replicate (n - (i + 1)) 0 := by
  have hl := rkK_len ns bit i
  have e : n - i = (n - (i + 1)) + 1 := by omega
  rw [rkR, List.set_append, if_neg (by omega), hl, Nat.sub_self, e, List.replicate_succ]
  simp
theorem rkR_skip (ns : List Int) (bit : Nat → Bool) {n i : Nat} (h : i < n) (hb : ¬ bit i = true) : rkR ns bit n i = rkR ns bit n (i + 1) := by
  have e : n - i = (n - (i + 1)) + 1 := by omega
  simp only [rkR, rkK]
  rw [if_neg hb, e, List.replicate_succ]
  simp

def inB (l : List Int) (i : Nat) : Bool := decide ((i : Int) ∈ l)
def st36a (b : Gr) (m : Mo) (nb : Nat) (box : Nat → Option (List (List AV))) (y : Acc2) : AState :=
  ⟨tl [(16, I y.i), (4, .ptr (nb + 4) 0 0), (5, .ptr (nb + 5) 0 0), (6, .ptr (nb + 6) 0 0), (7, .ptr (nb + 7) 0 0), (8, .ptr (nb + 8) 0 0), (11, .ptr (nb + 11) 0 0), (12, .ptr (nb + 12) 0 0), (13, .ptr (nb + 13) 0 0), (14, .msl (nb + 32) 0 b.nodes.length 1), (15, .msl (nb + 36) 0 b.edges.length 1)],
    lb nb box [(4, [[.d (ints b.nodes), .d (AM.edges b.edges)]]), (5, [[.d (ints m.nodes), .d (ints m.edges)]]), (6, [[.bot, .bot]]), (7, [[.bot, .bot]]), (8, [[.bot, .bot]]), (11, [[.osl 1 (rI (chN b.nodes (inB m.nodes) y.i).1) y.o1, .osl 0 [] .full]]), (12, [[.osl 1 (rI (chN b.nodes (inB m.nodes) y.i).2) y.o2, .osl 0 [] .full]]), (13, [[.osl 0 [] .full, .osl 0 [] .full]]),
      (32, rowsI (rkR b.nodes (inB m.nodes) b.nodes.length y.i)), (36, rowsI (List.replicate b.edges.length 0))], y.tok, y.nt⟩

def feE (es : List E) (bit : Nat → Bool) (R : List Int) : Nat → List E
  | 0 => []
  | i + 1 => if bit i = true then feE es bit R i ++ [⟨(es.getD i default).ty, R.getD (es.getD i default).fr.toNat 0, R.getD (es.getD i default).to.toNat 0⟩] else feE es bit R i
theorem feE_len (es : List E) (bit : Nat → Bool) (R : List Int) : ∀ i, (feE es bit R i).length = (chN [] bit i).1.length
  | 0 => rfl
  | i + 1 => by
    simp only [feE, chN]
    split <;> simp [feE_len es bit R i]
def st36b (b : Gr) (m : Mo) (R : List Int) (C : List Int × List Int) (nb : Nat) (box : Nat → Option (List (List AV))) (y : Acc2) : AState :=
  ⟨tl [(17, I y.i), (4, .ptr (nb + 4) 0 0), (5, .ptr (nb + 5) 0 0), (6, .ptr (nb + 6) 0 0), (7, .ptr (nb + 7) 0 0), (8, .ptr (nb + 8) 0 0), (11, .ptr (nb + 11) 0 0), (12, .ptr (nb + 12) 0 0), (13, .ptr (nb + 13) 0 0), (14, .msl (nb + 32) 0 R.length 1), (15, .msl (nb + 36) 0 b.edges.length 1)],
    lb nb box [(4, [[.d (ints b.nodes), .d (AM.edges b.edges)]]), (5, [[.d (ints m.nodes), .d (ints m.edges)]]), (6, [[.bot, .bot]]), (7, [[.bot, .bot]]), (8, [[.bot, .bot]]), (11, [[.d (ints C.1), .osl 3 (rE (feE b.edges (inB m.edges) R y.i)) y.o1]]), (12, [[.d (ints C.2), .osl 1 (rI (chN [] (inB m.edges) y.i).2) y.o2]]), (13, [[.osl 0 [] .full, .osl 0 [] .full]]),
      (32, rowsI R), (36, rowsI (rkR [] (inB m.edges) b.edges.length y.i))], y.tok, y.nt⟩

def rnkN (b : Gr) (m : Mo) : List Int := rkR b.nodes (inB m.nodes) b.nodes.length b.nodes.length
def rnkE (b : Gr) (m : Mo) : List Int := rkR [] (inB m.edges) b.edges.length b.edges.length
/-- What ref13.Factor computes. -/
def facS (a b : Gr) (m : Mo) : Fa :=
  if validM a b m ≠ 0 then ⟨⟨[], []⟩, ⟨[], []⟩, ⟨[], []⟩, validM a b m⟩
  else ⟨⟨(chN b.nodes (inB m.nodes) b.nodes.length).1, feE b.edges (inB m.edges) (rnkN b m) b.edges.length⟩,
    ⟨byK m.nodes (rnkN b m) m.nodes.length, byK m.edges (rnkE b m) m.edges.length⟩, ⟨(chN b.nodes (inB m.nodes) b.nodes.length).2, (chN [] (inB m.edges) b.edges.length).2⟩, 0⟩

theorem factor36_c (a b : Gr) (m : Mo) (ha : a.Fit) (hb : b.Fit) (hm : m.Fit) (tok : Nat → Bool) (nt : Nat) :
    DCall Try.prog 36 [a.av, b.av, m.av] tok nt (.tup [(facS a b m).g.av, (facS a b m).onto.av, (facS a b m).into.av, I (facS a b m).e]) tok nt := by
  intro box nb
  have hbn := hb.n
  have hbe := hb.e
  refine ACalls.of_body Try.func36 rfl (by kernel_rfl) follows_Try (by kernel_rfl) (by simp [Try.ntmps36]) ?_
  intro hbox htok
  simp only at hbox htok
  apply AL.start
  repeat (first | refine AL.seq ?_ | refine AL.block ?_ | refine AL.skip ?_ | refine AL.blk ?_)
  refine AL.region follows_Try (Nat.le_refl _) (by kernel_rfl) ?_
  simp
  repeat (first | refine AL.seq ?_ | refine AL.block ?_ | refine AL.skip ?_ | refine AL.blk ?_)
  refine AL.region follows_Try (Nat.le_refl _) (by kernel_rfl) ?_
  simp
  refine Stop.of_d (valid53_c a b m ha hb _ _) ?_
  simp
  by_cases h1 : validM a b m = 0
  · repeat (first | refine AL.seq ?_ | refine AL.block ?_ | refine AL.skip ?_ | refine AL.blk ?_)
    refine AL.region follows_Try (Nat.le_refl _) (by kernel_rfl) ?_
    simp [h1]
    repeat (first | refine AL.seq ?_ | refine AL.block ?_ | refine AL.skip ?_ | refine AL.blk ?_)
    refine AL.cond ?_
    simp
    repeat (first | refine AL.seq ?_ | refine AL.block ?_ | refine AL.skip ?_ | refine AL.blk ?_)
    refine AL.region follows_Try (Nat.le_refl _) (by kernel_rfl) ?_
    simp
    repeat (first | refine AL.seq ?_ | refine AL.block ?_ | refine AL.skip ?_ | refine AL.blk ?_)
    refine AL.region follows_Try (Nat.le_refl _) (by kernel_rfl) ?_
    simp
    repeat (first | refine AL.seq ?_ | refine AL.block ?_ | refine AL.skip ?_ | refine AL.blk ?_)
    refine AL.region follows_Try (Nat.le_refl _) (by kernel_rfl) ?_
    simp
    refine ⟨by omega, ?_⟩
    repeat (first | refine AL.seq ?_ | refine AL.block ?_ | refine AL.skip ?_ | refine AL.blk ?_)
    refine AL.region follows_Try (Nat.le_refl _) (by kernel_rfl) ?_
    simp
    refine ⟨by omega, ?_⟩
    repeat (first | refine AL.seq ?_ | refine AL.block ?_ | refine AL.skip ?_ | refine AL.blk ?_)
    refine AL.region follows_Try (Nat.le_refl _) (by kernel_rfl) ?_
    simp
    repeat (first | refine AL.seq ?_ | refine AL.block ?_ | refine AL.skip ?_ | refine AL.blk ?_)
    have v := validM_VM h1
    have hxb := validG_edges v.vb
    have hmn := hm.n
    have hme := hm.e
    have htk0 := (TK.start htok).full.full
    refine AL.loopT (st36a b m nb box) (fun y => y.i ≤ b.nodes.length ∧ TK tok nt y.tok y.nt [y.o1, y.o2]) (fun y => b.nodes.length - y.i) ⟨0, .full, .full, _, _⟩ ⟨Nat.zero_le _, htk0⟩ (Weaks.mk htk0.le rfl (by simp [ToL, lk]) (by simp [BoxL, lk, chN, rkR_zero])) ?_
    rintro ⟨i, o1, o2, tok', nt'⟩ S ⟨hi, htk⟩ hS
    simp only [st36a] at hS hi htk
    subst hS
    have hw : IntKind.i64.wrap (↑i + 1) = ((i + 1 : Nat) : Int) := by rw [wrap_in (by omega) (by omega)]; rfl
    have hln := chN_len b.nodes (inB m.nodes) i
    repeat (first | refine AL.seq ?_ | refine AL.block ?_ | refine AL.skip ?_ | refine AL.blk ?_)
    refine AL.region follows_Try (Nat.le_refl _) (by kernel_rfl) ?_
    simp
    repeat (first | refine AL.seq ?_ | refine AL.block ?_ | refine AL.skip ?_ | refine AL.blk ?_)
    refine AL.cond ?_
    simp
    refine ⟨fun hlt => ?_, fun hge => ?_⟩
    · have gb : b.nodes.getD i 0 = b.nodes[i] := by simp [hlt]
      repeat (first | refine AL.seq ?_ | refine AL.block ?_ | refine AL.skip ?_ | refine AL.blk ?_)
      refine AL.region follows_Try (Nat.le_refl _) (by kernel_rfl) ?_
      simp
      refine Stop.of_d (in_c m.nodes i hmn _ _) ?_
      simp
      by_cases hbit : (i : Int) ∈ m.nodes
      · have hbi : inB m.nodes i = true := by unfold inB; simpa using hbit
        simp [hbit]
        repeat (first | refine AL.seq ?_ | refine AL.block ?_ | refine AL.skip ?_ | refine AL.blk ?_)
        refine AL.cond ?_
        simp
        repeat (first | refine AL.seq ?_ | refine AL.block ?_ | refine AL.skip ?_ | refine AL.blk ?_)
        refine AL.region follows_Try (Nat.le_refl _) (by kernel_rfl) ?_
        simp [hlt, hi]
        repeat (first | refine AL.seq ?_ | refine AL.block ?_ | refine AL.skip ?_ | refine AL.blk ?_)
        refine AL.region follows_Try (Nat.le_refl _) (by kernel_rfl) ?_
        simp [hlt]
        refine ⟨⟨by omega, htk.live⟩, ?_⟩
        repeat (first | refine AL.seq ?_ | refine AL.block ?_ | refine AL.skip ?_ | refine AL.blk ?_)
        refine AL.region follows_Try (Nat.le_refl _) (by kernel_rfl) ?_
        simp
        refine ⟨⟨by omega, by simpa using htk.app.swap.live⟩, ?_⟩
        have htk2 := htk.app.swap.app.swap
        repeat (first | refine AL.seq ?_ | refine AL.block ?_ | refine AL.skip ?_ | refine AL.blk ?_)
        refine AL.region follows_Try (Nat.le_refl _) (by kernel_rfl) ?_
        simp [hw]
        repeat (first | refine AL.seq ?_ | refine AL.block ?_ | refine AL.skip ?_ | refine AL.blk ?_)
        refine AL.nil ?_
        have hC : chN b.nodes (inB m.nodes) (i + 1) = ((chN b.nodes (inB m.nodes) i).1 ++ [b.nodes[i]], (chN b.nodes (inB m.nodes) i).2 ++ [(i : Int)]) := by simp only [chN]; rw [if_pos hbi, gb]
        have hA : (rkR b.nodes (inB m.nodes) b.nodes.length i).set i ((chN b.nodes (inB m.nodes) i).1.length : Int) = rkR b.nodes (inB m.nodes) b.nodes.length (i + 1) := by rw [rkR_set _ _ hlt]; simp only [rkR, rkK]; rw [if_pos hbi]
        exact ⟨⟨i + 1, _, _, _, _⟩, ⟨hlt, htk2⟩, by simp; omega, Weaks.mk htk2.le rfl (by simp [ToL, lk]) (by simp [BoxL, lk, hC, hA])⟩
      · have hbi : ¬ inB m.nodes i = true := by unfold inB; simpa using hbit
        simp [hbit]
        repeat (first | refine AL.seq ?_ | refine AL.block ?_ | refine AL.skip ?_ | refine AL.blk ?_)
        refine AL.cond ?_
        simp
        repeat (first | refine AL.seq ?_ | refine AL.block ?_ | refine AL.skip ?_ | refine AL.blk ?_)
        refine AL.region follows_Try (Nat.le_refl _) (by kernel_rfl) ?_
        simp [hw]
        repeat (first | refine AL.seq ?_ | refine AL.block ?_ | refine AL.skip ?_ | refine AL.blk ?_)
        refine AL.nil ?_
        have hC : chN b.nodes (inB m.nodes) (i + 1) = chN b.nodes (inB m.nodes) i := by simp only [chN]; rw [if_neg hbi]
        have hA := rkR_skip b.nodes (inB m.nodes) hlt hbi
        exact ⟨⟨i + 1, _, _, _, _⟩, ⟨hlt, htk⟩, by simp; omega, Weaks.mk htk.le rfl (by simp [ToL, lk]) (by simp [BoxL, lk, hC, ← hA])⟩
    · repeat (first | refine AL.seq ?_ | refine AL.block ?_ | refine AL.skip ?_ | refine AL.blk ?_)
      refine AL.exit ?_
      simp only [AU, ↓reduceIte]
      have : i = b.nodes.length := by omega
      subst this
      repeat (first | refine AL.seq ?_ | refine AL.block ?_ | refine AL.skip ?_ | refine AL.blk ?_)
      refine AL.region follows_Try (Nat.le_refl _) (by kernel_rfl) ?_
      simp
      repeat (first | refine AL.seq ?_ | refine AL.block ?_ | refine AL.skip ?_ | refine AL.blk ?_)
      have htk3 := htk.tail.tail.full.full
      have hRl : (rkR b.nodes (inB m.nodes) b.nodes.length b.nodes.length).length = b.nodes.length := by simp
      generalize hRd : rkR b.nodes (inB m.nodes) b.nodes.length b.nodes.length = R at *
      generalize hCd : chN b.nodes (inB m.nodes) b.nodes.length = C at *
      refine AL.loopT (st36b b m R C nb box) (fun y => y.i ≤ b.edges.length ∧ TK tok nt y.tok y.nt [y.o1, y.o2]) (fun y => b.edges.length - y.i) ⟨0, .full, .full, _, _⟩ ⟨Nat.zero_le _, htk3⟩ (Weaks.mk htk3.le rfl (by simp [ToL, lk, hRl]) (by simp [BoxL, lk, chN, feE, rkR_zero])) ?_
      rintro ⟨i, o1, o2, tok', nt'⟩ S ⟨hi, htk⟩ hS
      simp only [st36b] at hS hi htk
      subst hS
      have hw : IntKind.i64.wrap (↑i + 1) = ((i + 1 : Nat) : Int) := by rw [wrap_in (by omega) (by omega)]; rfl
      have hln := chN_len [] (inB m.edges) i
      have hfl := feE_len b.edges (inB m.edges) R i
      repeat (first | refine AL.seq ?_ | refine AL.block ?_ | refine AL.skip ?_ | refine AL.blk ?_)
      refine AL.region follows_Try (Nat.le_refl _) (by kernel_rfl) ?_
      simp
      repeat (first | refine AL.seq ?_ | refine AL.block ?_ | refine AL.skip ?_ | refine AL.blk ?_)
      refine AL.cond ?_
      simp
      refine ⟨fun hlt => ?_, fun hge => ?_⟩
      · have gb : b.edges.getD i default = b.edges[i] := by simp [hlt]
        obtain ⟨x1, x2, x3, x4⟩ := hxb _ (List.getElem_mem hlt)
        have y1 : b.edges[i].fr.toNat < R.length := by omega
        have y2 : b.edges[i].to.toNat < R.length := by omega
        have z1 : b.edges[i].fr < (R.length : Int) := by omega
        have z2 : b.edges[i].to < (R.length : Int) := by omega
        have gR1 : R.getD b.edges[i].fr.toNat 0 = R[b.edges[i].fr.toNat] := by simp [y1]
        have gR2 : R.getD b.edges[i].to.toNat 0 = R[b.edges[i].to.toNat] := by simp [y2]
        repeat (first | refine AL.seq ?_ | refine AL.block ?_ | refine AL.skip ?_ | refine AL.blk ?_)
        refine AL.region follows_Try (Nat.le_refl _) (by kernel_rfl) ?_
        simp
        refine Stop.of_d (in_c m.edges i hme _ _) ?_
        simp
        by_cases hbit : (i : Int) ∈ m.edges
        · have hbi : inB m.edges i = true := by unfold inB; simpa using hbit
          simp [hbit]
          repeat (first | refine AL.seq ?_ | refine AL.block ?_ | refine AL.skip ?_ | refine AL.blk ?_)
          refine AL.cond ?_
          simp
          repeat (first | refine AL.seq ?_ | refine AL.block ?_ | refine AL.skip ?_ | refine AL.blk ?_)
          refine AL.region follows_Try (Nat.le_refl _) (by kernel_rfl) ?_
          simp [hlt]
          repeat (first | refine AL.seq ?_ | refine AL.block ?_ | refine AL.skip ?_ | refine AL.blk ?_)
          refine AL.region follows_Try (Nat.le_refl _) (by kernel_rfl) ?_
          simp [hlt, hi]
          repeat (first | refine AL.seq ?_ | refine AL.block ?_ | refine AL.skip ?_ | refine AL.blk ?_)
          refine AL.region follows_Try (Nat.le_refl _) (by kernel_rfl) ?_
          simp [x1, x3, y1, y2, z1, z2]
          refine ⟨⟨by omega, htk.live⟩, ?_⟩
          repeat (first | refine AL.seq ?_ | refine AL.block ?_ | refine AL.skip ?_ | refine AL.blk ?_)
          refine AL.region follows_Try (Nat.le_refl _) (by kernel_rfl) ?_
          simp
          refine ⟨⟨by omega, by simpa using htk.app.swap.live⟩, ?_⟩
          have htk2 := htk.app.swap.app.swap
          repeat (first | refine AL.seq ?_ | refine AL.block ?_ | refine AL.skip ?_ | refine AL.blk ?_)
          refine AL.region follows_Try (Nat.le_refl _) (by kernel_rfl) ?_
          simp [hw]
          repeat (first | refine AL.seq ?_ | refine AL.block ?_ | refine AL.skip ?_ | refine AL.blk ?_)
          refine AL.nil ?_
          have hC : chN [] (inB m.edges) (i + 1) = ((chN [] (inB m.edges) i).1 ++ [0], (chN [] (inB m.edges) i).2 ++ [(i : Int)]) := by simp only [chN]; rw [if_pos hbi]; rfl
          have hF : feE b.edges (inB m.edges) R (i + 1) = feE b.edges (inB m.edges) R i ++ [⟨b.edges[i].ty, R[b.edges[i].fr.toNat], R[b.edges[i].to.toNat]⟩] := by simp only [feE, gb, gR1, gR2]; rw [if_pos hbi]
          have hA : (rkR [] (inB m.edges) b.edges.length i).set i ((feE b.edges (inB m.edges) R i).length : Int) = rkR [] (inB m.edges) b.edges.length (i + 1) := by rw [rkR_set _ _ hlt, hfl]; simp only [rkR, rkK]; rw [if_pos hbi]
          exact ⟨⟨i + 1, _, _, _, _⟩, ⟨hlt, htk2⟩, by simp; omega, Weaks.mk htk2.le rfl (by simp [ToL, lk]) (by simp [BoxL, lk, hC, hF, hA])⟩
        · have hbi : ¬ inB m.edges i = true := by unfold inB; simpa using hbit
          simp [hbit]
          repeat (first | refine AL.seq ?_ | refine AL.block ?_ | refine AL.skip ?_ | refine AL.blk ?_)
          refine AL.cond ?_
          simp
          repeat (first | refine AL.seq ?_ | refine AL.block ?_ | refine AL.skip ?_ | refine AL.blk ?_)
          refine AL.region follows_Try (Nat.le_refl _) (by kernel_rfl) ?_
          simp [hw]
          repeat (first | refine AL.seq ?_ | refine AL.block ?_ | refine AL.skip ?_ | refine AL.blk ?_)
          refine AL.nil ?_
          have hC : chN [] (inB m.edges) (i + 1) = chN [] (inB m.edges) i := by simp only [chN]; rw [if_neg hbi]
          have hF : feE b.edges (inB m.edges) R (i + 1) = feE b.edges (inB m.edges) R i := by simp only [feE]; rw [if_neg hbi]
          have hA := rkR_skip [] (inB m.edges) hlt hbi
          exact ⟨⟨i + 1, _, _, _, _⟩, ⟨hlt, htk⟩, by simp; omega, Weaks.mk htk.le rfl (by simp [ToL, lk]) (by simp [BoxL, lk, hC, hF, ← hA])⟩
      · repeat (first | refine AL.seq ?_ | refine AL.block ?_ | refine AL.skip ?_ | refine AL.blk ?_)
        refine AL.exit ?_
        simp only [AU, ↓reduceIte]
        have : i = b.edges.length := by omega
        subst this
        have hR2l : (rkR [] (inB m.edges) b.edges.length b.edges.length).length = b.edges.length := by simp
        generalize hR2d : rkR [] (inB m.edges) b.edges.length b.edges.length = R2 at *
        generalize hFd : feE b.edges (inB m.edges) R b.edges.length = F at *
        generalize hKd : (chN [] (inB m.edges) b.edges.length).2 = K at *
        refine AL.weak (Weaks.frz (l' := [(5, .ptr (nb + 5) 0 0), (6, .ptr (nb + 6) 0 0), (7, .ptr (nb + 7) 0 0), (8, .ptr (nb + 8) 0 0), (11, .ptr (nb + 11) 0 0), (12, .ptr (nb + 12) 0 0), (13, .ptr (nb + 13) 0 0), (14, .d (ints R)), (15, .msl (nb + 36) 0 R2.length 1)])
          (loc' := [(5, [[.d (ints m.nodes), .d (ints m.edges)]]), (6, [[.bot, .bot]]), (7, [[.bot, .bot]]), (8, [[.bot, .bot]]), (11, [[.d (ints C.1), .d (AM.edges F)]]), (12, [[.d (ints C.2), .d (ints K)]]), (13, [[.osl 0 [] .full, .osl 0 [] .full]]), (36, rowsI R2)])
          32 1 (rI R) htk.le rfl (by simp [lk, rowsI_eq]) (by simp [lk]) (by simp) (by simp [ToL, lk, hRl, hR2l]) (by simp [BoxL, lk])) ?_
        refine AL.weak (Weaks.frz (l' := [(5, .ptr (nb + 5) 0 0), (6, .ptr (nb + 6) 0 0), (7, .ptr (nb + 7) 0 0), (8, .ptr (nb + 8) 0 0), (11, .ptr (nb + 11) 0 0), (12, .ptr (nb + 12) 0 0), (13, .ptr (nb + 13) 0 0), (14, .d (ints R)), (15, .d (ints R2))])
          (loc' := [(5, [[.d (ints m.nodes), .d (ints m.edges)]]), (6, [[.bot, .bot]]), (7, [[.bot, .bot]]), (8, [[.bot, .bot]]), (11, [[.d (ints C.1), .d (AM.edges F)]]), (12, [[.d (ints C.2), .d (ints K)]]), (13, [[.osl 0 [] .full, .osl 0 [] .full]])])
          36 1 (rI R2) htk.le rfl (by simp [lk, rowsI_eq]) (by simp [lk]) (by simp) (by simp [ToL, lk]) (by simp [BoxL, lk])) ?_
        repeat (first | refine AL.seq ?_ | refine AL.block ?_ | refine AL.skip ?_ | refine AL.blk ?_)
        refine AL.region follows_Try (Nat.le_refl _) (by kernel_rfl) ?_
        simp
        refine Stop.of_d (through68_c m.nodes R hmn (fun x hx => by have := v.n x hx; omega) _ _) ?_
        simp
        repeat (first | refine AL.seq ?_ | refine AL.block ?_ | refine AL.skip ?_ | refine AL.blk ?_)
        refine AL.region follows_Try (Nat.le_refl _) (by kernel_rfl) ?_
        simp
        refine Stop.of_d (through68_c m.edges R2 hme (fun x hx => by have := v.e x hx; omega) _ _) ?_
        simp
        repeat (first | refine AL.seq ?_ | refine AL.block ?_ | refine AL.skip ?_ | refine AL.blk ?_)
        refine AL.region2 follows_Try (Nat.le_refl _) (by kernel_rfl) (Side.of (by simp)) ?_
        simp
        have hRes : facS a b m = ⟨⟨C.1, F⟩, ⟨byK m.nodes R m.nodes.length, byK m.edges R2 m.edges.length⟩, ⟨C.2, K⟩, 0⟩ := by
          simp only [facS, rnkN, rnkE, hRd, hCd, hR2d, hFd, hKd]; rw [if_neg (by simp [h1])]
        repeat (first | refine AL.seq ?_ | refine AL.block ?_ | refine AL.skip ?_ | refine AL.blk ?_)
        refine AL.ret ?_
        try simp only [AU]
        refine ⟨by simp, Fin.data (by simp [resAs, resA]; rfl) hbox rfl htok htk.old htk.le ?_⟩
        simp [packA, hRes]
  · have hb1 : (validM a b m != 0) = true := by simp [h1]
    repeat (first | refine AL.seq ?_ | refine AL.block ?_ | refine AL.skip ?_ | refine AL.blk ?_)
    refine AL.region follows_Try (Nat.le_refl _) (by kernel_rfl) ?_
    simp [hb1]
    repeat (first | refine AL.seq ?_ | refine AL.block ?_ | refine AL.skip ?_ | refine AL.blk ?_)
    refine AL.cond ?_
    simp
    repeat (first | refine AL.seq ?_ | refine AL.block ?_ | refine AL.skip ?_ | refine AL.blk ?_)
    refine AL.region follows_Try (Nat.le_refl _) (by kernel_rfl) ?_
    simp
    repeat (first | refine AL.seq ?_ | refine AL.block ?_ | refine AL.skip ?_ | refine AL.blk ?_)
    refine AL.ret ?_
    try simp only [AU]
    refine ⟨by simp, Fin.data (by simp [resAs, resA]; rfl) hbox rfl htok (fun _ h => h) (Nat.le_refl _) ?_⟩
    simp [packA, facS, h1, ints, AM.edges]
end Go.AM
/-
  The plain law of Factor: what the two programs compute is one. No program in sight.
-/
namespace Go.AM
open Go
set_option linter.unusedSimpArgs false
set_option linter.unusedVariables false

theorem lt_sorted_ext : ∀ {l k : List Int}, l.Pairwise (· < ·) → k.Pairwise (· < ·) → (∀ x, x ∈ l ↔ x ∈ k) → l = k
  | [], [], _, _, _ => rfl
  | [], y :: k, _, _, h => by have := (h y).2 (by simp); simp at this
  | x :: l, [], _, _, h => by have := (h x).1 (by simp); simp at this
  | x :: l, y :: k, hl, hk, h => by
    have hl' := List.pairwise_cons.1 hl
    have hk' := List.pairwise_cons.1 hk
    have e : x = y := by
      rcases List.mem_cons.1 ((h x).1 (by simp)) with e | hx
      · exact e
      · rcases List.mem_cons.1 ((h y).2 (by simp)) with e | hy
        · exact e.symm
        · have a1 := hk'.1 x hx
          have a2 := hl'.1 y hy
          omega
    subst e
    rw [lt_sorted_ext hl'.2 hk'.2 fun z => ?_]
    constructor
    · intro hz
      rcases List.mem_cons.1 ((h z).1 (by simp [hz])) with e | hz'
      · have := hl'.1 z hz; omega
      · exact hz'
    · intro hz
      rcases List.mem_cons.1 ((h z).2 (by simp [hz])) with e | hz'
      · have := hk'.1 z hz; omega
      · exact hz'

theorem chN_sorted (ns : List Int) (bit : Nat → Bool) : ∀ i, (chN ns bit i).2.Pairwise (· < ·) ∧ ∀ x, x ∈ (chN ns bit i).2 ↔ ∃ j : Nat, j < i ∧ bit j = true ∧ x = j
  | 0 => ⟨by simp [chN], fun x => ⟨fun h => by simp [chN] at h, fun ⟨j, hj, _⟩ => absurd hj (Nat.not_lt_zero _)⟩⟩
  | i + 1 => by
    obtain ⟨h1, h2⟩ := chN_sorted ns bit i
    simp only [chN]
    by_cases hb : bit i = true
    · rw [if_pos hb]
      refine ⟨List.pairwise_append.2 ⟨h1, List.pairwise_singleton _ _, fun x hx y hy => ?_⟩, fun x => ?_⟩
      · rw [List.mem_singleton] at hy
        obtain ⟨j, hj, _, e⟩ := (h2 x).1 hx
        omega
      · rw [List.mem_append, List.mem_singleton, h2]
        constructor
        · rintro (⟨j, hj, hbj, e⟩ | e)
          · exact ⟨j, by omega, hbj, e⟩
          · exact ⟨i, by omega, hb, e⟩
        · rintro ⟨j, hj, hbj, e⟩
          by_cases ej : j = i
          · subst ej; exact .inr e
          · exact .inl ⟨j, by omega, hbj, e⟩
    · rw [if_neg hb]
      refine ⟨h1, fun x => ?_⟩
      rw [h2]
      constructor
      · rintro ⟨j, hj, hbj, e⟩; exact ⟨j, by omega, hbj, e⟩
      · rintro ⟨j, hj, hbj, e⟩
        by_cases ej : j = i
        · subst ej; exact absurd hbj hb
        · exact ⟨j, by omega, hbj, e⟩

theorem chN_images (ns l : List Int) (n : Nat) (h : ∀ x ∈ l, 0 ≤ x ∧ x < n) : (chN ns (inB l) n).2 = imagesI l := by
  obtain ⟨h1, h2⟩ := chN_sorted ns (inB l) n
  refine lt_sorted_ext h1 (imagesI_sorted l) fun x => ?_
  rw [h2, imagesI_mem]
  constructor
  · rintro ⟨j, _, hb, rfl⟩
    unfold inB at hb
    simpa using hb
  · intro hx
    have := h x hx
    exact ⟨x.toNat, by omega, by unfold inB; rw [Int.toNat_of_nonneg this.1]; simpa using hx, by omega⟩

theorem rkK_spot (ns : List Int) (bit : Nat → Bool) : ∀ i, ∀ j, j < i → bit j = true → ∃ r : Nat, (rkK ns bit i).getD j 0 = r ∧ r < (chN ns bit i).2.length ∧ (chN ns bit i).2.getD r 0 = j
  | 0, j, hj, _ => absurd hj (Nat.not_lt_zero _)
  | i + 1, j, hj, hbj => by
    have hl := rkK_len ns bit i
    have hc := (chN_len ns bit i).2
    simp only [rkK, chN]
    by_cases hb : bit i = true
    · rw [if_pos hb, if_pos hb]
      by_cases e : j = i
      · subst e
        refine ⟨(chN ns bit j).1.length, ?_, by simp [hc], ?_⟩
        · have : (rkK ns bit j ++ [((chN ns bit j).1.length : Int)]).getD (rkK ns bit j).length 0 = ((chN ns bit j).1.length : Int) := getD_at
          rw [hl] at this; exact this
        · simp only
          rw [← hc]; exact getD_at
      · obtain ⟨r, h1, h2, h3⟩ := rkK_spot ns bit i j (by omega) hbj
        exact ⟨r, by rw [getD_lt (by omega)]; exact h1, by simp; omega, by simp only; rw [getD_lt h2]; exact h3⟩
    · rw [if_neg hb, if_neg hb]
      have e : j ≠ i := fun e => hb (e ▸ hbj)
      obtain ⟨r, h1, h2, h3⟩ := rkK_spot ns bit i j (by omega) hbj
      exact ⟨r, by rw [getD_lt (by omega)]; exact h1, h2, h3⟩

theorem rank_index (ns l : List Int) (n : Nat) (h : ∀ x ∈ l, 0 ≤ x ∧ x < n) {x : Int} (hx : x ∈ l) : (rkR ns (inB l) n n).getD x.toNat 0 = indexI (imagesI l) x := by
  have hb := h x hx
  obtain ⟨r, h1, h2, h3⟩ := rkK_spot ns (inB l) n x.toNat (by omega) (by unfold inB; rw [Int.toNat_of_nonneg hb.1]; simpa using hx)
  have e : rkR ns (inB l) n n = rkK ns (inB l) n := by simp [rkR]
  rw [e, h1]
  rw [chN_images ns l n h] at h2 h3
  have hn : (imagesI l).Nodup := (imagesI_sorted l).imp fun h => by omega
  have := indexI_at hn h2
  rw [h3, Int.toNat_of_nonneg hb.1] at this
  exact this.symm

theorem feE_map (es : List E) (bit : Nat → Bool) (R : List Int) : ∀ i, feE es bit R i = (chN [] bit i).2.map fun j => ⟨(es.getD j.toNat default).ty, R.getD (es.getD j.toNat default).fr.toNat 0, R.getD (es.getD j.toNat default).to.toNat 0⟩
  | 0 => rfl
  | i + 1 => by
    simp only [feE, chN]
    by_cases hb : bit i = true
    · rw [if_pos hb, if_pos hb, feE_map es bit R i]; simp
    · rw [if_neg hb, if_neg hb, feE_map es bit R i]
theorem chN_map (ns : List Int) (bit : Nat → Bool) : ∀ i, (chN ns bit i).1 = (chN ns bit i).2.map fun j => ns.getD j.toNat 0
  | 0 => rfl
  | i + 1 => by
    simp only [chN]
    by_cases hb : bit i = true
    · rw [if_pos hb, List.map_append, ← chN_map ns bit i]; simp
    · rw [if_neg hb, chN_map ns bit i]

theorem facS_facR {a b : Gr} {m : Mo} : facS a b m = facR a b m := by
  by_cases h : validM a b m = 0
  · have v := validM_VM h
    have ea := validG_edges v.va
    have c1 := chN_images b.nodes m.nodes b.nodes.length v.n
    have c2 := chN_images [] m.edges b.edges.length v.e
    have k1 : (chN b.nodes (inB m.nodes) b.nodes.length).1 = pickN b.nodes (imagesI m.nodes) (imagesI m.nodes).length := by
      rw [chN_map, c1]; simp [pickN]
    have k2 : feE b.edges (inB m.edges) (rnkN b m) b.edges.length = pickE b.edges (imagesI m.nodes) (imagesI m.edges) (imagesI m.edges).length := by
      rw [feE_map, c2]
      simp only [pickE, List.take_length]
      refine List.map_congr_left fun j hj => ?_
      obtain ⟨q, hq, e⟩ := mem_getD ((imagesI_mem _ _).1 hj)
      have hq' : q < a.edges.length := by rw [← v.le]; exact hq
      have t := v.et q hq'
      rw [e] at t
      obtain ⟨a1, a2, a3, a4⟩ := ea _ (getD_mem (d := default) hq')
      have f1 : (b.edges.getD j.toNat default).fr ∈ m.nodes := by rw [t]; exact getD_mem (by rw [v.ln]; omega)
      have f2 : (b.edges.getD j.toNat default).to ∈ m.nodes := by rw [t]; exact getD_mem (by rw [v.ln]; omega)
      rw [rnkN, rank_index _ _ _ v.n f1, rank_index _ _ _ v.n f2]
    have k3 : byK m.nodes (rnkN b m) m.nodes.length = placesK m.nodes (imagesI m.nodes) m.nodes.length := by
      simp only [byK, placesK, List.take_length]
      exact List.map_congr_left fun x hx => rank_index _ _ _ v.n hx
    have k4 : byK m.edges (rnkE b m) m.edges.length = placesK m.edges (imagesI m.edges) m.edges.length := by
      simp only [byK, placesK, List.take_length]
      exact List.map_congr_left fun x hx => rank_index _ _ _ v.e hx
    unfold facS facR
    rw [if_neg (by simp [h]), if_neg (by simp [h]), k1, k2, k3, k4, c1, c2]
  · unfold facS facR
    rw [if_pos h, if_pos h]
end Go.AM
/-
  The plain law of Factor, second part: the two factors are morphisms, compose to the given one, the first onto, the second injective. No program in sight.
-/
namespace Go.AM
open Go
set_option linter.unusedSimpArgs false
set_option linter.unusedVariables false

theorem indexI_mem {N : List Int} {x : Int} (hx : x ∈ N) : ∃ r : Nat, r < N.length ∧ indexI N x = r ∧ N.getD r 0 = x := by
  rcases indexI_cases N x with ⟨h, _⟩ | h
  · exact absurd hx h
  · exact h

theorem fac_law {a b : Gr} {m : Mo} (h : validM a b m = 0) : (facR a b m).e = 0 ∧ compM a (facR a b m).g b (facR a b m).onto (facR a b m).into = (m, 0) ∧ surM a (facR a b m).g (facR a b m).onto = true ∧ injM (facR a b m).g b (facR a b m).into = true := by
  have v := validM_VM h
  obtain ⟨tb, tbn, tbe⟩ := validG_types v.vb
  obtain ⟨ta, _, _⟩ := validG_types v.va
  have ea := validG_edges v.va
  have eR : facR a b m = ⟨⟨pickN b.nodes (imagesI m.nodes) (imagesI m.nodes).length, pickE b.edges (imagesI m.nodes) (imagesI m.edges) (imagesI m.edges).length⟩,
    ⟨placesK m.nodes (imagesI m.nodes) m.nodes.length, placesK m.edges (imagesI m.edges) m.edges.length⟩, ⟨imagesI m.nodes, imagesI m.edges⟩, 0⟩ := by simp [facR, h]
  rw [eR]
  simp only
  have mN : ∀ x, x ∈ imagesI m.nodes ↔ x ∈ m.nodes := imagesI_mem _
  have mM : ∀ x, x ∈ imagesI m.edges ↔ x ∈ m.edges := imagesI_mem _
  have nN : (imagesI m.nodes).Nodup := (imagesI_sorted _).imp fun h => by omega
  have nM : (imagesI m.edges).Nodup := (imagesI_sorted _).imp fun h => by omega
  generalize imagesI m.nodes = N at *
  generalize imagesI m.edges = M at *
  have bN : ∀ x ∈ N, 0 ≤ x ∧ x < b.nodes.length := fun x hx => v.n x ((mN x).1 hx)
  have bM : ∀ x ∈ M, 0 ≤ x ∧ x < b.edges.length := fun x hx => v.e x ((mM x).1 hx)
  have lN := nodup_bound nN bN
  have lM := nodup_bound nM bM
  have gN : ∀ i, i < N.length → (pickN b.nodes N N.length).getD i 0 = b.nodes.getD (N.getD i 0).toNat 0 := fun i hi => by simp [pickN, hi]
  have gM : ∀ i, i < M.length → (pickE b.edges N M M.length).getD i default = ⟨(b.edges.getD (M.getD i 0).toNat default).ty, indexI N (b.edges.getD (M.getD i 0).toNat default).fr, indexI N (b.edges.getD (M.getD i 0).toNat default).to⟩ := fun i hi => by simp [pickE, hi]
  -- the ends of a chosen edge are chosen
  have ends : ∀ j ∈ M, (b.edges.getD j.toNat default).fr ∈ N ∧ (b.edges.getD j.toNat default).to ∈ N := fun j hj => by
    obtain ⟨q, hq, e⟩ := mem_getD ((mM j).1 hj)
    have hq' : q < a.edges.length := by rw [← v.le]; exact hq
    have t := v.et q hq'
    rw [e] at t
    obtain ⟨a1, a2, a3, a4⟩ := ea _ (getD_mem (d := default) hq')
    rw [mN, mN, t]
    exact ⟨getD_mem (by rw [v.ln]; omega), getD_mem (by rw [v.ln]; omega)⟩
  have hv : validG ⟨pickN b.nodes N N.length, pickE b.edges N M M.length⟩ = 0 := by
    refine validG_of (by simp; omega) (fun n hn => ?_) fun e he => ?_
    · simp only [pickN, List.take_length, List.mem_map] at hn
      obtain ⟨j, hj, rfl⟩ := hn
      exact tbn _ (getD_mem (by have := bN j hj; omega))
    · simp only [pickE, List.take_length, List.mem_map] at he
      obtain ⟨j, hj, rfl⟩ := he
      have hj2 := bM j hj
      have t := (fitsB_iff _ _).1 (tbe _ (getD_mem (d := default) (show j.toNat < b.edges.length by omega)))
      obtain ⟨f1, f2⟩ := ends j hj
      obtain ⟨r1, q1, q2, _⟩ := indexI_mem f1
      obtain ⟨r2, p1, p2, _⟩ := indexI_mem f2
      rw [fitsB_iff]
      simp only [pickN_len, Nat.min_self]
      exact ⟨t.1, by omega, by omega⟩
  have rN : ∀ x ∈ placesK m.nodes N m.nodes.length, 0 ≤ x ∧ x < N.length := fun x hx => by
    simp only [placesK, List.take_length, List.mem_map] at hx
    obtain ⟨y, hy, rfl⟩ := hx
    obtain ⟨r, q1, q2, _⟩ := indexI_mem ((mN y).2 hy)
    omega
  have rM : ∀ x ∈ placesK m.edges M m.edges.length, 0 ≤ x ∧ x < M.length := fun x hx => by
    simp only [placesK, List.take_length, List.mem_map] at hx
    obtain ⟨y, hy, rfl⟩ := hx
    obtain ⟨r, q1, q2, _⟩ := indexI_mem ((mM y).2 hy)
    omega
  have v1 : VM a ⟨pickN b.nodes N N.length, pickE b.edges N M M.length⟩ ⟨placesK m.nodes N m.nodes.length, placesK m.edges M m.edges.length⟩ := by
    refine ⟨v.va, hv, by simp [v.ln], by simp [v.le], by simpa using rN, by simpa using rM, fun i hi => ?_, fun i hi => ?_⟩
    · have hi' : i < m.nodes.length := by rw [v.ln]; exact hi
      obtain ⟨r, q1, q2, q3⟩ := indexI_mem ((mN _).2 (getD_mem (d := 0) hi'))
      simp only
      rw [placesK_getD hi', q2, Int.toNat_natCast, gN r q1, q3]
      exact v.nt i hi
    · have hi' : i < m.edges.length := by rw [v.le]; exact hi
      obtain ⟨r, q1, q2, q3⟩ := indexI_mem ((mM _).2 (getD_mem (d := 0) hi'))
      obtain ⟨a1, a2, a3, a4⟩ := ea _ (getD_mem (d := default) hi)
      simp only
      rw [placesK_getD hi', q2, Int.toNat_natCast, gM r q1, q3, v.et i hi, placesK_getD (by rw [v.ln]; omega), placesK_getD (by rw [v.ln]; omega)]
  have v2 : VM ⟨pickN b.nodes N N.length, pickE b.edges N M M.length⟩ b ⟨N, M⟩ := by
    refine ⟨hv, v.vb, by simp, by simp, bN, bM, fun i hi => ?_, fun i hi => ?_⟩
    · simp only [pickN_len, Nat.min_self] at hi
      exact (gN i hi).symm
    · simp only [pickE_len, Nat.min_self] at hi
      obtain ⟨f1, f2⟩ := ends _ (getD_mem (d := 0) hi)
      obtain ⟨r1, p1, p2, p3⟩ := indexI_mem f1
      obtain ⟨r2, s1, s2, s3⟩ := indexI_mem f2
      simp only
      rw [gM i hi]
      simp only
      rw [p2, s2, Int.toNat_natCast, Int.toNat_natCast, p3, s3]
  have w1 := validM_of v1
  have w2 := validM_of v2
  have c1 : byK (placesK m.nodes N m.nodes.length) N (placesK m.nodes N m.nodes.length).length = m.nodes := byK_ext (by simp) fun i hi => by
    have hi' : i < m.nodes.length := by simpa using hi
    obtain ⟨r, q1, q2, q3⟩ := indexI_mem ((mN _).2 (getD_mem (d := 0) hi'))
    rw [placesK_getD hi', q2, Int.toNat_natCast, q3]
  have c2 : byK (placesK m.edges M m.edges.length) M (placesK m.edges M m.edges.length).length = m.edges := byK_ext (by simp) fun i hi => by
    have hi' : i < m.edges.length := by simpa using hi
    obtain ⟨r, q1, q2, q3⟩ := indexI_mem ((mM _).2 (getD_mem (d := 0) hi'))
    rw [placesK_getD hi', q2, Int.toNat_natCast, q3]
  have cov : ∀ {l K : List Int}, K.Nodup → (∀ x, x ∈ K ↔ x ∈ l) → covL (placesK l K l.length) K.length = true := fun {l K} hn hm => by
    simp only [covL, List.all_eq_true, List.mem_range, decide_eq_true_eq]
    intro r hr
    have hx := (hm _).1 (getD_mem (d := 0) hr)
    simp only [placesK, List.take_length, List.mem_map]
    exact ⟨_, hx, indexI_at hn hr⟩
  refine ⟨trivial, ?_, ?_, (injM_iff _ _ _).2 ⟨w2, nN, nM⟩⟩
  · unfold compM
    rw [if_neg (by simp [w1]), if_neg (by simp [w2])]
    simp only [thenM, c1, c2]
  · unfold surM
    rw [w1]
    simp only [pickN_len, pickE_len, Nat.min_self]
    rw [cov nN mN, cov nM mM]
    rfl
end Go.AM
namespace Go.AM
open Go Go.Proofs
set_option linter.unusedSimpArgs false
set_option linter.unusedVariables false

theorem facR_fit {a b : Gr} {m : Mo} (hb : b.Fit) (hm : m.Fit) : (facR a b m).g.Fit ∧ (facR a b m).onto.Fit ∧ (facR a b m).into.Fit := by
  have h1 := hm.n
  have h2 := hm.e
  have l1 := imagesI_len m.nodes
  have l2 := imagesI_len m.edges
  unfold facR
  split
  · exact ⟨⟨by simp, by simp⟩, ⟨by simp, by simp⟩, ⟨by simp, by simp⟩⟩
  · exact ⟨⟨by simp; omega, by simp; omega⟩, ⟨by simp; omega, by simp; omega⟩, ⟨by simp only; omega, by simp only; omega⟩⟩

theorem law9_c (a b : Gr) (m : Mo) (tok : Nat → Bool) (nt : Nat) : ∃ tok' nt', DCall Try.prog 9 [a.av, .agg [.d (ints b.nodes), .d (AM.edges b.edges), .d (ints m.nodes), .d (ints m.edges)]] tok nt (B true) tok' nt' := by
  refine ⟨tok, nt, ?_⟩
  intro box nb
  refine ACalls.of_body Try.func9 rfl (by kernel_rfl) follows_Try (by kernel_rfl) (by simp [Try.ntmps9]) ?_
  intro hbox htok
  simp only at hbox htok
  apply AL.start
  repeat (first | refine AL.seq ?_ | refine AL.block ?_ | refine AL.skip ?_ | refine AL.blk ?_)
  refine AL.region follows_Try (Nat.le_refl _) (by kernel_rfl) ?_
  simp
  repeat (first | refine AL.seq ?_ | refine AL.block ?_ | refine AL.skip ?_ | refine AL.blk ?_)
  refine AL.region follows_Try (Nat.le_refl _) (by kernel_rfl) ?_
  simp
  refine Stop.of_d (awake_c _ _) ?_
  simp
  refine Stop.of_d (few05_c a _ _) ?_
  simp
  by_cases h1 : fewG a = true
  · simp [h1]
    refine Stop.of_d (few05_c b _ _) ?_
    simp [h1]
    by_cases h2 : fewG b = true
    · simp [h2]
      by_cases h3 : 100 < (m.nodes.length : Int)
      · simp [h3]
        repeat (first | refine AL.seq ?_ | refine AL.block ?_ | refine AL.skip ?_ | refine AL.blk ?_)
        refine AL.cond ?_
        simp
        repeat (first | refine AL.seq ?_ | refine AL.block ?_ | refine AL.skip ?_ | refine AL.blk ?_)
        refine AL.region follows_Try (Nat.le_refl _) (by kernel_rfl) ?_
        simp
        refine Stop.of_d (awake_c _ _) ?_
        simp
        repeat (first | refine AL.seq ?_ | refine AL.block ?_ | refine AL.skip ?_ | refine AL.blk ?_)
        refine AL.ret ?_
        try simp only [AU]
        refine ⟨by simp, Fin.data (by simp [resAs, resA]; rfl) hbox rfl htok (fun _ h => h) (Nat.le_refl _) ?_⟩
        simp [packA]
      · simp [h3]
        by_cases h4 : 100 < (m.edges.length : Int)
        · simp [h4]
          repeat (first | refine AL.seq ?_ | refine AL.block ?_ | refine AL.skip ?_ | refine AL.blk ?_)
          refine AL.cond ?_
          simp
          repeat (first | refine AL.seq ?_ | refine AL.block ?_ | refine AL.skip ?_ | refine AL.blk ?_)
          refine AL.region follows_Try (Nat.le_refl _) (by kernel_rfl) ?_
          simp
          refine Stop.of_d (awake_c _ _) ?_
          simp
          repeat (first | refine AL.seq ?_ | refine AL.block ?_ | refine AL.skip ?_ | refine AL.blk ?_)
          refine AL.ret ?_
          try simp only [AU]
          refine ⟨by simp, Fin.data (by simp [resAs, resA]; rfl) hbox rfl htok (fun _ h => h) (Nat.le_refl _) ?_⟩
          simp [packA]
        · simp [h4]
          repeat (first | refine AL.seq ?_ | refine AL.block ?_ | refine AL.skip ?_ | refine AL.blk ?_)
          refine AL.cond ?_
          simp
          have fa := fewG_fit h1
          have fb := fewG_fit h2
          have fm : m.Fit := ⟨by omega, by omega⟩
          repeat (first | refine AL.seq ?_ | refine AL.block ?_ | refine AL.skip ?_ | refine AL.blk ?_)
          refine AL.region follows_Try (Nat.le_refl _) (by kernel_rfl) ?_
          simp
          refine Stop.of_d (copied_c a fa _ _) ?_
          simp
          refine Stop.of_d (copied_c b fb _ _) ?_
          simp
          refine Stop.data ?_
          have htk := (TK.start htok).full.app.full.app.full.app.full.app
          refine Stop.of_d (factor35_c a b m fa fb fm _ _) ?_
          simp
          repeat (first | refine AL.seq ?_ | refine AL.block ?_ | refine AL.skip ?_ | refine AL.blk ?_)
          refine AL.region follows_Try (Nat.le_refl _) (by kernel_rfl) ?_
          simp
          have c36 := fun tok nt => factor36_c a b m fa fb fm tok nt
          rw [facS_facR] at c36
          refine Stop.of_d (c36 _ _) ?_
          simp
          have hfit := facR_fit (a := a) fb fm
          have hgood : (facR a b m).e = 0 → validM a b m = 0 := fun he => by
            by_cases g : validM a b m = 0
            · exact g
            · have : (facR a b m).e = validM a b m := by unfold facR; rw [if_pos g]
              omega
          have hlaw := fun h => fac_law (a := a) (b := b) (m := m) (hgood h)
          generalize facR a b m = F at *
          obtain ⟨fg, fo, fi⟩ := hfit
          repeat (first | refine AL.seq ?_ | refine AL.block ?_ | refine AL.skip ?_ | refine AL.blk ?_)
          refine AL.region follows_Try (Nat.le_refl _) (by kernel_rfl) ?_
          simp
          refine Stop.of_d (same05_c F.g F.g fg _ _) ?_
          simp
          refine Stop.of_d (same06_c F.onto F.onto fo _ _) ?_
          simp
          refine Stop.of_d (same06_c F.into F.into fi _ _) ?_
          simp
          by_cases he : F.e = 0
          · obtain ⟨_, q1, q2, q3⟩ := hlaw he
            have hb : (F.e != 0) = false := by simp [he]
            simp only [hb]
            repeat (first | refine AL.seq ?_ | refine AL.block ?_ | refine AL.skip ?_ | refine AL.blk ?_)
            refine AL.cond ?_
            simp
            have d1 := fun tok nt => compose31_c a F.g b F.onto F.into fa fg fb fo tok nt
            have d2 := fun tok nt => surjective38_c a F.g F.onto fa fg fo tok nt
            have d3 := fun tok nt => injective26_c F.g b F.into fg fb fi tok nt
            rw [q1] at d1
            rw [q2] at d2
            rw [q3] at d3
            repeat (first | refine AL.seq ?_ | refine AL.block ?_ | refine AL.skip ?_ | refine AL.blk ?_)
            refine AL.region follows_Try (Nat.le_refl _) (by kernel_rfl) ?_
            simp
            refine Stop.of_d (d1 _ _) ?_
            simp
            repeat (first | refine AL.seq ?_ | refine AL.block ?_ | refine AL.skip ?_ | refine AL.blk ?_)
            refine AL.region follows_Try (Nat.le_refl _) (by kernel_rfl) ?_
            simp
            refine Stop.of_d (same06_c m m fm _ _) ?_
            simp
            refine Stop.of_d (d2 _ _) ?_
            simp
            refine Stop.of_d (d3 _ _) ?_
            simp
            repeat (first | refine AL.seq ?_ | refine AL.block ?_ | refine AL.skip ?_ | refine AL.blk ?_)
            refine AL.ret ?_
            try simp only [AU]
            refine ⟨by simp, Fin.data (by simp [resAs, resA]; rfl) hbox rfl htok htk.old htk.le ?_⟩
            simp [packA, ]
          · have hb : (F.e != 0) = true := by simp [he]
            simp only [hb]
            repeat (first | refine AL.seq ?_ | refine AL.block ?_ | refine AL.skip ?_ | refine AL.blk ?_)
            refine AL.cond ?_
            simp
            repeat (first | refine AL.seq ?_ | refine AL.block ?_ | refine AL.skip ?_ | refine AL.blk ?_)
            refine AL.region follows_Try (Nat.le_refl _) (by kernel_rfl) ?_
            simp
            refine Stop.of_d (same05_c F.g F.g fg _ _) ?_
            simp
            refine Stop.of_d (same06_c F.onto F.onto fo _ _) ?_
            simp
            refine Stop.of_d (same06_c F.into F.into fi _ _) ?_
            simp
            repeat (first | refine AL.seq ?_ | refine AL.block ?_ | refine AL.skip ?_ | refine AL.blk ?_)
            refine AL.ret ?_
            try simp only [AU]
            refine ⟨by simp, Fin.data (by simp [resAs, resA]; rfl) hbox rfl htok htk.old htk.le ?_⟩
            simp [packA, ]
    · simp [h2]
      repeat (first | refine AL.seq ?_ | refine AL.block ?_ | refine AL.skip ?_ | refine AL.blk ?_)
      refine AL.cond ?_
      simp
      repeat (first | refine AL.seq ?_ | refine AL.block ?_ | refine AL.skip ?_ | refine AL.blk ?_)
      refine AL.region follows_Try (Nat.le_refl _) (by kernel_rfl) ?_
      simp
      refine Stop.of_d (awake_c _ _) ?_
      simp
      repeat (first | refine AL.seq ?_ | refine AL.block ?_ | refine AL.skip ?_ | refine AL.blk ?_)
      refine AL.ret ?_
      try simp only [AU]
      refine ⟨by simp, Fin.data (by simp [resAs, resA]; rfl) hbox rfl htok (fun _ h => h) (Nat.le_refl _) ?_⟩
      simp [packA]
  · simp [h1]
    repeat (first | refine AL.seq ?_ | refine AL.block ?_ | refine AL.skip ?_ | refine AL.blk ?_)
    refine AL.cond ?_
    simp
    repeat (first | refine AL.seq ?_ | refine AL.block ?_ | refine AL.skip ?_ | refine AL.blk ?_)
    refine AL.region follows_Try (Nat.le_refl _) (by kernel_rfl) ?_
    simp
    refine Stop.of_d (awake_c _ _) ?_
    simp
    repeat (first | refine AL.seq ?_ | refine AL.block ?_ | refine AL.skip ?_ | refine AL.blk ?_)
    refine AL.ret ?_
    try simp only [AU]
    refine ⟨by simp, Fin.data (by simp [resAs, resA]; rfl) hbox rfl htok (fun _ h => h) (Nat.le_refl _) ?_⟩
    simp [packA]
end Go.AM
/-
  The plain law of FactorOnto: of all standard quotients just one identifies what a morphism identifies. No program in sight.
-/
namespace Go.AM
open Go
set_option linter.unusedSimpArgs false
set_option linter.unusedVariables false

/-! ### Equal at the same pairs of places -/
def sameAt (a b : List Int) (i k : Nat) : Bool := decide (a.getD i 0 = a.getD k 0) == decide (b.getD i 0 = b.getD k 0)
def alikeL (a b : List Int) : Bool := decide (a.length = b.length) && (List.range a.length).all fun i => (List.range i).all fun k => sameAt a b i k

theorem alikeL_iff (a b : List Int) : alikeL a b = true ↔ a.length = b.length ∧ ∀ i k, i < a.length → k < a.length → (a.getD i 0 = a.getD k 0 ↔ b.getD i 0 = b.getD k 0) := by
  simp only [alikeL, sameAt, Bool.and_eq_true, decide_eq_true_eq, List.all_eq_true, List.mem_range, beq_iff_eq, decide_eq_decide]
  refine and_congr_right fun hl => ⟨fun h i k hi hk => ?_, fun h i hi k hk => h i k hi (by omega)⟩
  rcases Nat.lt_trichotomy i k with hlt | rfl | hlt
  · have := h k hk i hlt
    exact ⟨fun e => (this.1 e.symm).symm, fun e => (this.2 e.symm).symm⟩
  · exact ⟨fun _ => rfl, fun _ => rfl⟩
  · exact h i hi k hlt

/-! ### The partition of equal numbers -/
def canonL (f : List Int) : List Int := f.map (indexI f)
theorem canonL_len (f : List Int) : (canonL f).length = f.length := by simp [canonL]

theorem canonL_spec (f : List Int) {i : Nat} (hi : i < f.length) : ∃ r : Nat, (canonL f).getD i 0 = r ∧ r ≤ i ∧ f.getD r 0 = f.getD i 0 ∧ ∀ s, s < f.length → f.getD s 0 = f.getD i 0 → r ≤ s := by
  have e : (canonL f).getD i 0 = indexI f f[i] := by simp [canonL, hi]
  have hv : f[i] ∈ f := List.getElem_mem hi
  have hg : f.getD i 0 = f[i] := by simp [hi]
  have least : ∀ s, s < f.length → f.getD s 0 = f[i] → f.idxOf f[i] ≤ s := by
    intro s hs he
    rw [List.getD_eq_getElem?_getD, List.getElem?_eq_getElem hs] at he
    simp only [Option.getD_some] at he
    rw [← he]
    apply Nat.not_lt.1
    intro hlt
    have := List.not_of_lt_findIdx (p := (· == f[s])) hlt
    simp at this
  refine ⟨f.idxOf f[i], by rw [e, indexI, if_pos hv], least i hi hg, ?_, by rw [hg]; exact least⟩
  have hj : f.idxOf f[i] < f.length := List.idxOf_lt_length_iff.2 hv
  rw [hg, List.getD_eq_getElem?_getD, List.getElem?_eq_getElem hj]
  simp

theorem canonL_partL (f : List Int) : PartL (canonL f) := by
  intro i hi
  have hi' : i < f.length := by rw [← canonL_len f]; exact hi
  obtain ⟨r, h1, h2, h3, h4⟩ := canonL_spec f hi'
  have e : (canonL f)[i] = r := by rw [← h1]; simp [hi]
  rw [e]
  refine ⟨by omega, by omega, ?_⟩
  rw [Int.toNat_natCast]
  obtain ⟨s, g1, g2, g3, g4⟩ := canonL_spec f (show r < f.length by omega)
  rw [g1]
  have := h4 s (by omega) (g3.trans h3)
  have := g4 r (by omega) rfl
  omega

theorem canonL_ker (f : List Int) {i k : Nat} (hi : i < f.length) (hk : k < f.length) : (canonL f).getD i 0 = (canonL f).getD k 0 ↔ f.getD i 0 = f.getD k 0 := by
  obtain ⟨r, h1, h2, h3, h4⟩ := canonL_spec f hi
  obtain ⟨s, g1, g2, g3, g4⟩ := canonL_spec f hk
  rw [h1, g1]
  constructor
  · intro e
    have : r = s := by omega
    subst this
    exact h3.symm.trans g3
  · intro e
    have := h4 s (by omega) (g3.trans e.symm)
    have := g4 r (by omega) (h3.trans e)
    omega

theorem canonL_unique {p f : List Int} (hp : PartL p) (hl : p.length = f.length) (h : ∀ i k, i < p.length → k < p.length → (p.getD i 0 = p.getD k 0 ↔ f.getD i 0 = f.getD k 0)) : p = canonL f := by
  refine List.ext_getElem (by rw [canonL_len]; exact hl) fun i h1 h2 => ?_
  have hi : i < f.length := by omega
  obtain ⟨r, c1, c2, c3, c4⟩ := canonL_spec f hi
  have e : (canonL f)[i] = r := by rw [← c1]; simp [h2]
  rw [e]
  obtain ⟨p1, p2, p3⟩ := hp i h1
  have hg : p.getD i 0 = p[i] := by simp [h1]
  have a1 : p.getD p[i].toNat 0 = p.getD i 0 := by rw [p3, hg]
  have a2 := (h p[i].toNat i (by omega) h1).1 a1
  have a3 := c4 _ (by omega) a2
  have a4 := (h r i (by omega) h1).2 c3
  have hr : r < p.length := by omega
  obtain ⟨q1, q2, q3⟩ := hp r hr
  have : p[r] = p[i] := by rw [← hg, ← a4]; simp [hr]
  omega

/-! ### All partitions, each once -/
theorem partsN_all : ∀ (n : Nat) (l : List Int), l.length = n → PartL l → l ∈ partsN n
  | 0, l, hl, _ => by
    have : l = [] := List.length_eq_zero_iff.1 hl
    subst this
    simp [partsN]
  | n + 1, l, hl, hp => by
    obtain ⟨q, x, rfl⟩ : ∃ q x, l = q ++ [x] := ⟨l.dropLast, l.getLast (by intro e; subst e; simp at hl), (List.dropLast_concat_getLast _).symm⟩
    have hq : q.length = n := by simpa using hl
    have hpq : PartL q := by
      intro i hi
      obtain ⟨h1, h2, h3⟩ := hp i (by simp; omega)
      rw [List.getElem_append_left hi] at h1 h2 h3
      exact ⟨h1, h2, by rw [getD_lt (by omega)] at h3; exact h3⟩
    simp only [partsN, List.mem_flatMap]
    refine ⟨q, partsN_all n q hq hpq, ?_⟩
    obtain ⟨h1, h2, h3⟩ := hp q.length (by simp)
    simp only [List.getElem_concat_length] at h1 h2 h3
    simp only [nextsK, List.mem_map, List.mem_filter, List.mem_range, Bool.or_eq_true, decide_eq_true_eq]
    refine ⟨x.toNat, ⟨by omega, ?_⟩, by rw [Int.toNat_of_nonneg h1]⟩
    by_cases e : x.toNat = q.length
    · exact .inl e
    · rw [getD_lt (by omega)] at h3
      exact .inr (by omega)

theorem nodup_map_inj {α β : Type} {f : α → β} : ∀ {l : List α}, l.Nodup → (∀ x ∈ l, ∀ y ∈ l, f x = f y → x = y) → (l.map f).Nodup
  | [], _, _ => by simp
  | x :: l, h, hf => by
    have h' := List.pairwise_cons.1 h
    refine List.pairwise_cons.2 ⟨fun y hy => ?_, nodup_map_inj h'.2 fun x hx y hy => hf x (by simp [hx]) y (by simp [hy])⟩
    obtain ⟨z, hz, rfl⟩ := List.mem_map.1 hy
    intro e
    exact h'.1 z hz (hf x (by simp) z (by simp [hz]) e)
theorem nodup_flatMap' {α β : Type} {f : α → List β} : ∀ {l : List α}, l.Nodup → (∀ x ∈ l, (f x).Nodup) → (∀ x ∈ l, ∀ y ∈ l, ∀ z, z ∈ f x → z ∈ f y → x = y) → (l.flatMap f).Nodup
  | [], _, _, _ => by simp
  | x :: l, h, h1, h2 => by
    have h' := List.pairwise_cons.1 h
    rw [List.flatMap_cons]
    refine List.nodup_append.2 ⟨h1 x (by simp), nodup_flatMap' h'.2 (fun y hy => h1 y (by simp [hy])) (fun y hy z hz => h2 y (by simp [hy]) z (by simp [hz])), fun u hu v hv e => ?_⟩
    subst e
    obtain ⟨y, hy, hv⟩ := List.mem_flatMap.1 hv
    exact h'.1 y hy (h2 x (by simp) y (by simp [hy]) u hu hv)

theorem partsN_nodup : ∀ n, (partsN n).Nodup
  | 0 => by simp [partsN]
  | n + 1 => by
    refine nodup_flatMap' (partsN_nodup n) (fun l hl => ?_) fun l hl k hk z hz1 hz2 => ?_
    · refine nodup_map_inj (List.nodup_range.filter _) fun x _ y _ e => ?_
      have := List.append_cancel_left e
      simp at this
      omega
    · simp only [nextsK, List.mem_map] at hz1 hz2
      obtain ⟨x, _, rfl⟩ := hz1
      obtain ⟨y, _, e⟩ := hz2
      exact (List.append_inj e (by rw [partsN_len n l hl, partsN_len n k hk])).1.symm

/-! ### Numbers of classes identify what the partition identifies -/
theorem numN_ker {p : List Int} (hp : PartL p) {i k : Nat} (hi : i < p.length) (hk : k < p.length) : (numN p p.length).1.getD i 0 = (numN p p.length).1.getD k 0 ↔ p.getD i 0 = p.getD k 0 := by
  constructor
  · intro e
    have key := numN_get hp (fun j => p.getD j 0) (fun j hj => by have := (hp j hj).2.2; rw [this]; simp [hj]) p.length (Nat.le_refl _)
    have a := key i hi
    have b := key k hk
    rw [e, b] at a
    exact (Option.some.inj a).symm
  · intro e
    rw [numN_class hp i hi, numN_class hp k hk]
    have e1 : p.getD i 0 = p[i] := by simp [hi]
    have e2 : p.getD k 0 = p[k] := by simp [hk]
    rw [← e1, ← e2, e]

theorem places_ker (l : List Int) {i k : Nat} (hi : i < l.length) (hk : k < l.length) : (placesK l (imagesI l) l.length).getD i 0 = (placesK l (imagesI l) l.length).getD k 0 ↔ l.getD i 0 = l.getD k 0 := by
  rw [placesK_getD hi, placesK_getD hk]
  obtain ⟨r, _, h2, h3⟩ := indexI_mem ((imagesI_mem l _).2 (getD_mem (d := 0) hi))
  obtain ⟨s, _, g2, g3⟩ := indexI_mem ((imagesI_mem l _).2 (getD_mem (d := 0) hk))
  rw [h2, g2]
  constructor
  · intro e
    have : r = s := by omega
    subst this
    exact h3.symm.trans g3
  · intro e
    rw [← h2, ← g2, e]

theorem alike_iff {p l : List Int} (hp : PartL p) (hl : p.length = l.length) : alikeL (numN p p.length).1 (placesK l (imagesI l) l.length) = true ↔ p = canonL l := by
  rw [alikeL_iff]
  have h1 := (numN_len p p.length).1
  rw [h1]
  constructor
  · rintro ⟨_, h⟩
    refine canonL_unique hp hl fun i k hi hk => ?_
    rw [← numN_ker hp hi hk, h i k hi hk, places_ker l (by omega) (by omega)]
  · rintro rfl
    refine ⟨by simp [hl], fun i k hi hk => ?_⟩
    rw [canonL_len] at hi hk
    rw [numN_ker hp (by rw [canonL_len]; exact hi) (by rw [canonL_len]; exact hk), canonL_ker l hi hk, places_ker l hi hk]

/-! ### Just one -/
def pairsQ (a : Gr) : List (List Int × List Int) := ((partsN a.nodes.length).filter (alikeB (gN a))).flatMap fun p => ((partsN a.edges.length).filter (alikeB (gE a p))).map fun k => (p, k)
theorem listQ_pairs (a : Gr) : listQ a = (pairsQ a).map fun x => quF a x.1 x.2 := by
  unfold listQ pairsQ
  rw [List.map_flatMap]
  simp only [List.map_map]
  rfl
theorem pairsQ_mem (a : Gr) (x : List Int × List Int) : x ∈ pairsQ a ↔ (x.1 ∈ partsN a.nodes.length ∧ alikeB (gN a) x.1 = true) ∧ x.2 ∈ partsN a.edges.length ∧ alikeB (gE a x.1) x.2 = true := by
  unfold pairsQ
  simp only [List.mem_flatMap, List.mem_map, List.mem_filter]
  constructor
  · rintro ⟨p, hp, k, hk, rfl⟩
    exact ⟨hp, hk⟩
  · rintro ⟨hp, hk⟩
    exact ⟨x.1, hp, x.2, hk, rfl⟩
theorem pairsQ_nodup (a : Gr) : (pairsQ a).Nodup := by
  refine nodup_flatMap' ((partsN_nodup _).filter _) (fun p _ => nodup_map_inj ((partsN_nodup _).filter _) fun x _ y _ e => (Prod.mk.inj e).2) fun p _ q _ z h1 h2 => ?_
  obtain ⟨k, _, rfl⟩ := List.mem_map.1 h1
  obtain ⟨j, _, e⟩ := List.mem_map.1 h2
  exact (Prod.mk.inj e).1.symm

theorem alikeB_of {g : Nat → Int → Bool} {l : List Int} (h : ∀ i (hi : i < l.length), g i l[i] = true) : alikeB g l = true := by
  unfold alikeB alikeK
  refine List.all_eq_true.2 fun i hi => ?_
  have hi' : i < l.length := by simpa using hi
  have := h i hi'
  simpa [hi'] using this

theorem countP_one {α : Type} [DecidableEq α] {l : List α} {p : α → Bool} {x : α} (hn : l.Nodup) (hx : x ∈ l) (h : ∀ y ∈ l, p y = true ↔ y = x) : l.countP p = 1 := by
  have : l.countP p = l.count x := by
    unfold List.count
    refine List.countP_congr fun y hy => ?_
    rw [h y hy]
    simp
  rw [this, hn.count, if_pos hx]

theorem onto_law {a b : Gr} {m : Mo} (v : VM a b m) : (listQ a).countP (fun q => alikeL q.o.nodes (facR a b m).onto.nodes && alikeL q.o.edges (facR a b m).onto.edges) = 1 := by
  have hv := validM_of v
  have eR : (facR a b m).onto = ⟨placesK m.nodes (imagesI m.nodes) m.nodes.length, placesK m.edges (imagesI m.edges) m.edges.length⟩ := by simp [facR, hv]
  have ea := validG_edges v.va
  rw [eR, listQ_pairs, List.countP_map]
  have n1 : (canonL m.nodes).length = a.nodes.length := by rw [canonL_len, v.ln]
  have n2 : (canonL m.edges).length = a.edges.length := by rw [canonL_len, v.le]
  refine countP_one (x := (canonL m.nodes, canonL m.edges)) (pairsQ_nodup a) ((pairsQ_mem a _).2 ⟨⟨partsN_all _ _ n1 (canonL_partL _), alikeB_of fun i hi => ?_⟩, partsN_all _ _ n2 (canonL_partL _), alikeB_of fun i hi => ?_⟩) ?_
  · have hi' : i < m.nodes.length := by rw [canonL_len] at hi; exact hi
    obtain ⟨r, h1, h2, h3, _⟩ := canonL_spec m.nodes hi'
    have e : (canonL m.nodes)[i] = r := by rw [← h1]; simp [hi]
    have hl := v.ln
    simp only [gN, e, Int.toNat_natCast, decide_eq_true_eq]
    rw [← v.nt i (by omega), ← v.nt r (by omega), h3]
  · have hi' : i < m.edges.length := by rw [canonL_len] at hi; exact hi
    obtain ⟨r, h1, h2, h3, _⟩ := canonL_spec m.edges hi'
    have e : (canonL m.edges)[i] = r := by rw [← h1]; simp [hi]
    have hl := v.le
    have hl2 := v.ln
    simp only [gE, likeE, e, Int.toNat_natCast, decide_eq_true_eq]
    have t1 := v.et i (by omega)
    have t2 := v.et r (by omega)
    rw [h3] at t2
    have t3 := E.mk.inj (t1.symm.trans t2)
    obtain ⟨x1, x2, x3, x4⟩ := ea _ (getD_mem (d := default) (show i < a.edges.length by omega))
    obtain ⟨y1, y2, y3, y4⟩ := ea _ (getD_mem (d := default) (show r < a.edges.length by omega))
    exact ⟨t3.1, (canonL_ker m.nodes (by omega) (by omega)).2 t3.2.1, (canonL_ker m.nodes (by omega) (by omega)).2 t3.2.2⟩
  · rintro ⟨p, k⟩ hpk
    obtain ⟨⟨p1, _⟩, k1, _⟩ := (pairsQ_mem a _).1 hpk
    have lp := partsN_len _ p p1
    have lk := partsN_len _ k k1
    simp only [Function.comp, quF, Bool.and_eq_true]
    rw [alike_iff (partsN_partL _ p p1) (by rw [lp, v.ln]), alike_iff (partsN_partL _ k k1) (by rw [lk, v.le])]
    simp only [Prod.mk.injEq]
end Go.AM
namespace Go.AM
open Go Go.Proofs
set_option linter.unusedSimpArgs false
set_option linter.unusedVariables false

/-! ### ref02: Valid, one, Quotient, Merge; ref06.numbers -/
def st104 (l : List Int) (nb : Nat) (box : Nat → Option (List (List AV))) (tok : Nat → Bool) (nt : Nat) (i : Nat) : AState := ⟨tl [(0, .d (ints l)), (3, I i)], lb nb box [], tok, nt⟩

theorem valid104_c (l : List Int) (hl : l.length ≤ 80) (hp : PartL l) (tok : Nat → Bool) (nt : Nat) : DCall Try.prog 104 [.d (ints l)] tok nt (B true) tok nt := by
  intro box nb
  have h80 : ¬ 80 < (l.length : Int) := by omega
  refine ACalls.of_body Try.func104 rfl (by kernel_rfl) follows_Try (by kernel_rfl) (by simp [Try.ntmps104]) ?_
  intro hbox htok
  simp only at hbox htok
  apply AL.start
  repeat (first | refine AL.seq ?_ | refine AL.block ?_ | refine AL.skip ?_ | refine AL.blk ?_)
  refine AL.region follows_Try (Nat.le_refl _) (by kernel_rfl) ?_
  simp
  repeat (first | refine AL.seq ?_ | refine AL.block ?_ | refine AL.skip ?_ | refine AL.blk ?_)
  refine AL.region follows_Try (Nat.le_refl _) (by kernel_rfl) ?_
  simp
  repeat (first | refine AL.seq ?_ | refine AL.block ?_ | refine AL.skip ?_ | refine AL.blk ?_)
  refine AL.cond ?_
  simp [h80]
  repeat (first | refine AL.seq ?_ | refine AL.block ?_ | refine AL.skip ?_ | refine AL.blk ?_)
  refine AL.region follows_Try (Nat.le_refl _) (by kernel_rfl) ?_
  simp
  repeat (first | refine AL.seq ?_ | refine AL.block ?_ | refine AL.skip ?_ | refine AL.blk ?_)
  refine AL.loopT (st104 l nb box tok nt) (fun i => i ≤ l.length) (fun i => l.length - i) 0 (Nat.zero_le _) (Weaks.mk (Nat.le_refl _) rfl (by simp [ToL]) trivial) ?_
  rintro i S hi hS
  simp only [st104] at hS
  subst hS
  have hw : IntKind.i64.wrap (↑i + 1) = ((i + 1 : Nat) : Int) := by rw [wrap_in (by omega) (by omega)]; rfl
  repeat (first | refine AL.seq ?_ | refine AL.block ?_ | refine AL.skip ?_ | refine AL.blk ?_)
  refine AL.region follows_Try (Nat.le_refl _) (by kernel_rfl) ?_
  simp
  repeat (first | refine AL.seq ?_ | refine AL.block ?_ | refine AL.skip ?_ | refine AL.blk ?_)
  refine AL.cond ?_
  simp
  refine ⟨fun hlt => ?_, fun hge => ?_⟩
  · obtain ⟨h1, h2, h3⟩ := hp i hlt
    have h4 : l[i].toNat < l.length := by omega
    have h5 : l[l[i].toNat] = l[i] := by simpa [h4] using h3
    have k1 : ¬ l[i] < 0 := by omega
    have k2 : ¬ (i : Int) < l[i] := by omega
    repeat (first | refine AL.seq ?_ | refine AL.block ?_ | refine AL.skip ?_ | refine AL.blk ?_)
    refine AL.region follows_Try (Nat.le_refl _) (by kernel_rfl) ?_
    simp [hlt, k1, k2, h1, h4, h5]
    refine ⟨by omega, ?_⟩
    repeat (first | refine AL.seq ?_ | refine AL.block ?_ | refine AL.skip ?_ | refine AL.blk ?_)
    refine AL.cond ?_
    simp
    repeat (first | refine AL.seq ?_ | refine AL.block ?_ | refine AL.skip ?_ | refine AL.blk ?_)
    refine AL.region follows_Try (Nat.le_refl _) (by kernel_rfl) ?_
    simp [hw]
    repeat (first | refine AL.seq ?_ | refine AL.block ?_ | refine AL.skip ?_ | refine AL.blk ?_)
    refine AL.nil ?_
    refine ⟨i + 1, hlt, by omega, Weaks.mk (Nat.le_refl _) rfl (by simp [ToL]) trivial⟩
  · repeat (first | refine AL.seq ?_ | refine AL.block ?_ | refine AL.skip ?_ | refine AL.blk ?_)
    refine AL.exit ?_
    simp only [AU, ↓reduceIte]
    repeat (first | refine AL.seq ?_ | refine AL.block ?_ | refine AL.skip ?_ | refine AL.blk ?_)
    refine AL.region follows_Try (Nat.le_refl _) (by kernel_rfl) ?_
    simp
    repeat (first | refine AL.seq ?_ | refine AL.block ?_ | refine AL.skip ?_ | refine AL.blk ?_)
    refine AL.ret ?_
    try simp only [AU]
    refine ⟨by simp, Fin.data (by simp [resAs, resA]; rfl) hbox rfl htok (fun _ h => h) (Nat.le_refl _) ?_⟩
    simp [packA]

theorem one95_c (l : List Int) (hl : l.length ≤ 80) (hp : PartL l) (tok : Nat → Bool) (nt : Nat) : DCall Try.prog 95 [.d (ints l)] tok nt (I 0) tok nt := by
  intro box nb
  refine ACalls.of_body Try.func95 rfl (by kernel_rfl) follows_Try (by kernel_rfl) (by simp [Try.ntmps95]) ?_
  intro hbox htok
  simp only at hbox htok
  apply AL.start
  repeat (first | refine AL.seq ?_ | refine AL.block ?_ | refine AL.skip ?_ | refine AL.blk ?_)
  refine AL.region follows_Try (Nat.le_refl _) (by kernel_rfl) ?_
  simp
  repeat (first | refine AL.seq ?_ | refine AL.block ?_ | refine AL.skip ?_ | refine AL.blk ?_)
  refine AL.region follows_Try (Nat.le_refl _) (by kernel_rfl) ?_
  simp
  have h80 : ¬ 80 < (l.length : Int) := by omega
  repeat (first | refine AL.seq ?_ | refine AL.block ?_ | refine AL.skip ?_ | refine AL.blk ?_)
  refine AL.cond ?_
  simp [h80]
  repeat (first | refine AL.seq ?_ | refine AL.block ?_ | refine AL.skip ?_ | refine AL.blk ?_)
  refine AL.region follows_Try (Nat.le_refl _) (by kernel_rfl) ?_
  simp
  refine Stop.of_d (valid104_c l hl hp _ _) ?_
  simp
  repeat (first | refine AL.seq ?_ | refine AL.block ?_ | refine AL.skip ?_ | refine AL.blk ?_)
  refine AL.cond ?_
  simp
  repeat (first | refine AL.seq ?_ | refine AL.block ?_ | refine AL.skip ?_ | refine AL.blk ?_)
  refine AL.region follows_Try (Nat.le_refl _) (by kernel_rfl) ?_
  simp
  repeat (first | refine AL.seq ?_ | refine AL.block ?_ | refine AL.skip ?_ | refine AL.blk ?_)
  refine AL.ret ?_
  try simp only [AU]
  refine ⟨by simp, Fin.data (by simp [resAs, resA]; rfl) hbox rfl htok (fun _ h => h) (Nat.le_refl _) ?_⟩
  simp [packA]

def st74 (l : List Int) (nb : Nat) (box : Nat → Option (List (List AV))) (x : Acc) : AState :=
  ⟨tl [(0, .d (ints l)), (6, .osl 1 (rI (numN l x.i).1) x.own), (7, I (numN l x.i).2), (8, I x.i)], lb nb box [], x.tok, x.nt⟩

theorem quotient74_c (l : List Int) (hl : l.length ≤ 80) (hp : PartL l) (tok : Nat → Bool) (nt : Nat) : DCall Try.prog 74 [.d (ints l)] tok nt (.tup [.d (ints (numN l l.length).1), I (numN l l.length).2, I 0]) tok nt := by
  intro box nb
  refine ACalls.of_body Try.func74 rfl (by kernel_rfl) follows_Try (by kernel_rfl) (by simp [Try.ntmps74]) ?_
  intro hbox htok
  simp only at hbox htok
  apply AL.start
  repeat (first | refine AL.seq ?_ | refine AL.block ?_ | refine AL.skip ?_ | refine AL.blk ?_)
  refine AL.region follows_Try (Nat.le_refl _) (by kernel_rfl) ?_
  simp
  repeat (first | refine AL.seq ?_ | refine AL.block ?_ | refine AL.skip ?_ | refine AL.blk ?_)
  refine AL.region follows_Try (Nat.le_refl _) (by kernel_rfl) ?_
  simp
  refine Stop.of_d (one95_c l hl hp _ _) ?_
  simp
  repeat (first | refine AL.seq ?_ | refine AL.block ?_ | refine AL.skip ?_ | refine AL.blk ?_)
  refine AL.region follows_Try (Nat.le_refl _) (by kernel_rfl) ?_
  simp
  repeat (first | refine AL.seq ?_ | refine AL.block ?_ | refine AL.skip ?_ | refine AL.blk ?_)
  refine AL.cond ?_
  simp
  repeat (first | refine AL.seq ?_ | refine AL.block ?_ | refine AL.skip ?_ | refine AL.blk ?_)
  refine AL.region follows_Try (Nat.le_refl _) (by kernel_rfl) ?_
  simp
  repeat (first | refine AL.seq ?_ | refine AL.block ?_ | refine AL.skip ?_ | refine AL.blk ?_)
  refine AL.region follows_Try (Nat.le_refl _) (by kernel_rfl) ?_
  simp
  repeat (first | refine AL.seq ?_ | refine AL.block ?_ | refine AL.skip ?_ | refine AL.blk ?_)
  refine AL.region follows_Try (Nat.le_refl _) (by kernel_rfl) ?_
  simp
  repeat (first | refine AL.seq ?_ | refine AL.block ?_ | refine AL.skip ?_ | refine AL.blk ?_)
  refine AL.loopT (st74 l nb box) (fun x => x.i ≤ l.length ∧ TK tok nt x.tok x.nt [x.own]) (fun x => l.length - x.i) ⟨0, .full, tok, nt⟩ ⟨Nat.zero_le _, (TK.start htok).full⟩ (Weaks.mk (Nat.le_refl _) rfl (by simp [ToL, numN]) trivial) ?_
  rintro ⟨i, own, tok', nt'⟩ S ⟨hi, htk⟩ hS
  simp only [st74] at hS hi htk
  subst hS
  have hw : IntKind.i64.wrap (↑i + 1) = ((i + 1 : Nat) : Int) := by rw [wrap_in (by omega) (by omega)]; rfl
  obtain ⟨hn1, hn2, hn3⟩ := numN_len l i
  repeat (first | refine AL.seq ?_ | refine AL.block ?_ | refine AL.skip ?_ | refine AL.blk ?_)
  refine AL.region follows_Try (Nat.le_refl _) (by kernel_rfl) ?_
  simp
  repeat (first | refine AL.seq ?_ | refine AL.block ?_ | refine AL.skip ?_ | refine AL.blk ?_)
  refine AL.cond ?_
  simp
  refine ⟨fun hlt => ?_, fun hge => ?_⟩
  · obtain ⟨h1, h2, h3⟩ := hp i hlt
    have hwn : IntKind.i64.wrap ((numN l i).2 + 1) = (numN l i).2 + 1 := wrap_in (by omega) (by omega)
    repeat (first | refine AL.seq ?_ | refine AL.block ?_ | refine AL.skip ?_ | refine AL.blk ?_)
    refine AL.region follows_Try (Nat.le_refl _) (by kernel_rfl) ?_
    simp [hlt]
    repeat (first | refine AL.seq ?_ | refine AL.block ?_ | refine AL.skip ?_ | refine AL.blk ?_)
    refine AL.cond ?_
    simp
    refine ⟨fun he => ?_, fun hne => ?_⟩
    · repeat (first | refine AL.seq ?_ | refine AL.block ?_ | refine AL.skip ?_ | refine AL.blk ?_)
      refine AL.region follows_Try (Nat.le_refl _) (by kernel_rfl) ?_
      simp
      refine ⟨⟨by omega, htk.live⟩, ?_⟩
      repeat (first | refine AL.seq ?_ | refine AL.block ?_ | refine AL.skip ?_ | refine AL.blk ?_)
      refine AL.region follows_Try (Nat.le_refl _) (by kernel_rfl) ?_
      simp [hwn]
      repeat (first | refine AL.seq ?_ | refine AL.block ?_ | refine AL.skip ?_ | refine AL.blk ?_)
      refine AL.region follows_Try (Nat.le_refl _) (by kernel_rfl) ?_
      simp [hw]
      repeat (first | refine AL.seq ?_ | refine AL.block ?_ | refine AL.skip ?_ | refine AL.blk ?_)
      refine AL.nil ?_
      refine ⟨⟨i + 1, _, _, _⟩, ⟨hlt, htk.app⟩, by simp; omega, Weaks.mk htk.app.le rfl (by simp [ToL, numN, hlt, he]) trivial⟩
    · have h4 : l[i].toNat < (numN l i).1.length := by omega
      have h5 : l[i] < ((numN l i).1.length : Int) := by omega
      repeat (first | refine AL.seq ?_ | refine AL.block ?_ | refine AL.skip ?_ | refine AL.blk ?_)
      refine AL.region follows_Try (Nat.le_refl _) (by kernel_rfl) ?_
      simp [hlt, h1, h4, h5]
      refine ⟨⟨by omega, htk.live⟩, ?_⟩
      repeat (first | refine AL.seq ?_ | refine AL.block ?_ | refine AL.skip ?_ | refine AL.blk ?_)
      refine AL.region follows_Try (Nat.le_refl _) (by kernel_rfl) ?_
      simp [hw]
      repeat (first | refine AL.seq ?_ | refine AL.block ?_ | refine AL.skip ?_ | refine AL.blk ?_)
      refine AL.nil ?_
      refine ⟨⟨i + 1, _, _, _⟩, ⟨hlt, htk.app⟩, by simp; omega, Weaks.mk htk.app.le rfl (by simp [ToL, numN, hlt, hne, h4]) trivial⟩
  · repeat (first | refine AL.seq ?_ | refine AL.block ?_ | refine AL.skip ?_ | refine AL.blk ?_)
    refine AL.exit ?_
    simp only [AU, ↓reduceIte]
    have : i = l.length := by omega
    subst this
    repeat (first | refine AL.seq ?_ | refine AL.block ?_ | refine AL.skip ?_ | refine AL.blk ?_)
    refine AL.region follows_Try (Nat.le_refl _) (by kernel_rfl) ?_
    simp
    repeat (first | refine AL.seq ?_ | refine AL.block ?_ | refine AL.skip ?_ | refine AL.blk ?_)
    refine AL.ret ?_
    try simp only [AU]
    refine ⟨by simp, Fin.data (by simp [resAs, resA]; rfl) hbox rfl htok htk.old htk.le ?_⟩
    simp [packA, ]

def mrgK (l : List Int) (lo hi : Int) (i : Nat) : List Int := (l.take i).map fun k => if k = hi then lo else k
theorem mrgK_zero (l : List Int) (lo hi : Int) : mrgK l lo hi 0 = [] := by simp [mrgK]
@[simp] theorem mrgK_len (l : List Int) (lo hi : Int) (i : Nat) : (mrgK l lo hi i).length = min i l.length := by simp [mrgK]
theorem mrgK_succ (l : List Int) (lo hi : Int) {i : Nat} (h : i < l.length) : mrgK l lo hi (i + 1) = mrgK l lo hi i ++ [if l[i] = hi then lo else l[i]] := by simp only [mrgK, List.take_add_one, List.getElem?_eq_getElem h, Option.toList, List.map_append, List.map_cons, List.map_nil]

def st73 (l : List Int) (lo hi : Int) (nb : Nat) (box : Nat → Option (List (List AV))) (x : Acc) : AState :=
  ⟨tl [(0, .d (ints l)), (7, I lo), (8, I hi), (9, .osl 1 (rI (mrgK l lo hi x.i)) x.own), (10, I x.i)], lb nb box [], x.tok, x.nt⟩

theorem merge73_c (l : List Int) (a b : Nat) (ha : a < l.length) (hb : b < l.length) (hl : l.length ≤ 80) (tok : Nat → Bool) (nt : Nat) : DCall Try.prog 73 [.d (ints l), I a, I b] tok nt (.d (ints (mrgK l (min l[a] l[b]) (max l[a] l[b]) l.length))) tok nt := by
  intro box nb
  refine ACalls.of_body Try.func73 rfl (by kernel_rfl) follows_Try (by kernel_rfl) (by simp [Try.ntmps73]) ?_
  intro hbox htok
  simp only at hbox htok
  apply AL.start
  repeat (first | refine AL.seq ?_ | refine AL.block ?_ | refine AL.skip ?_ | refine AL.blk ?_)
  refine AL.region follows_Try (Nat.le_refl _) (by kernel_rfl) ?_
  simp
  repeat (first | refine AL.seq ?_ | refine AL.block ?_ | refine AL.skip ?_ | refine AL.blk ?_)
  refine AL.region follows_Try (Nat.le_refl _) (by kernel_rfl) ?_
  simp [ha, hb]
  generalize min l[a] l[b] = lo
  generalize max l[a] l[b] = hg
  repeat (first | refine AL.seq ?_ | refine AL.block ?_ | refine AL.skip ?_ | refine AL.blk ?_)
  refine AL.region follows_Try (Nat.le_refl _) (by kernel_rfl) ?_
  simp
  repeat (first | refine AL.seq ?_ | refine AL.block ?_ | refine AL.skip ?_ | refine AL.blk ?_)
  refine AL.region follows_Try (Nat.le_refl _) (by kernel_rfl) ?_
  simp
  repeat (first | refine AL.seq ?_ | refine AL.block ?_ | refine AL.skip ?_ | refine AL.blk ?_)
  refine AL.loopT (st73 l lo hg nb box) (fun x => x.i ≤ l.length ∧ TK tok nt x.tok x.nt [x.own]) (fun x => l.length - x.i) ⟨0, .full, tok, nt⟩ ⟨Nat.zero_le _, (TK.start htok).full⟩ (Weaks.mk (Nat.le_refl _) rfl (by simp [ToL, mrgK_zero]) trivial) ?_
  rintro ⟨i, own, tok', nt'⟩ S ⟨hi, htk⟩ hS
  simp only [st73] at hS hi htk
  subst hS
  have hw : IntKind.i64.wrap (↑i + 1) = ((i + 1 : Nat) : Int) := by rw [wrap_in (by omega) (by omega)]; rfl
  repeat (first | refine AL.seq ?_ | refine AL.block ?_ | refine AL.skip ?_ | refine AL.blk ?_)
  refine AL.region follows_Try (Nat.le_refl _) (by kernel_rfl) ?_
  simp
  repeat (first | refine AL.seq ?_ | refine AL.block ?_ | refine AL.skip ?_ | refine AL.blk ?_)
  refine AL.cond ?_
  simp
  refine ⟨fun hlt => ?_, fun hge => ?_⟩
  · have hS := mrgK_succ l lo hg hlt
    repeat (first | refine AL.seq ?_ | refine AL.block ?_ | refine AL.skip ?_ | refine AL.blk ?_)
    refine AL.region follows_Try (Nat.le_refl _) (by kernel_rfl) ?_
    simp [hlt]
    repeat (first | refine AL.seq ?_ | refine AL.block ?_ | refine AL.skip ?_ | refine AL.blk ?_)
    refine AL.region follows_Try (Nat.le_refl _) (by kernel_rfl) ?_
    simp
    repeat (first | refine AL.seq ?_ | refine AL.block ?_ | refine AL.skip ?_ | refine AL.blk ?_)
    refine AL.cond ?_
    simp
    refine ⟨fun he => ?_, fun hne => ?_⟩
    · repeat (first | refine AL.seq ?_ | refine AL.block ?_ | refine AL.skip ?_ | refine AL.blk ?_)
      refine AL.region follows_Try (Nat.le_refl _) (by kernel_rfl) ?_
      simp
      repeat (first | refine AL.seq ?_ | refine AL.block ?_ | refine AL.skip ?_ | refine AL.blk ?_)
      refine AL.region follows_Try (Nat.le_refl _) (by kernel_rfl) ?_
      simp
      refine ⟨⟨by omega, htk.live⟩, ?_⟩
      repeat (first | refine AL.seq ?_ | refine AL.block ?_ | refine AL.skip ?_ | refine AL.blk ?_)
      refine AL.region follows_Try (Nat.le_refl _) (by kernel_rfl) ?_
      simp [hw]
      repeat (first | refine AL.seq ?_ | refine AL.block ?_ | refine AL.skip ?_ | refine AL.blk ?_)
      refine AL.nil ?_
      refine ⟨⟨i + 1, _, _, _⟩, ⟨hlt, htk.app⟩, by simp; omega, Weaks.mk htk.app.le rfl (by simp [ToL, hS, he]) trivial⟩
    · repeat (first | refine AL.seq ?_ | refine AL.block ?_ | refine AL.skip ?_ | refine AL.blk ?_)
      refine AL.region follows_Try (Nat.le_refl _) (by kernel_rfl) ?_
      simp
      refine ⟨⟨by omega, htk.live⟩, ?_⟩
      repeat (first | refine AL.seq ?_ | refine AL.block ?_ | refine AL.skip ?_ | refine AL.blk ?_)
      refine AL.region follows_Try (Nat.le_refl _) (by kernel_rfl) ?_
      simp [hw]
      repeat (first | refine AL.seq ?_ | refine AL.block ?_ | refine AL.skip ?_ | refine AL.blk ?_)
      refine AL.nil ?_
      refine ⟨⟨i + 1, _, _, _⟩, ⟨hlt, htk.app⟩, by simp; omega, Weaks.mk htk.app.le rfl (by simp [ToL, hS, hne]) trivial⟩
  · repeat (first | refine AL.seq ?_ | refine AL.block ?_ | refine AL.skip ?_ | refine AL.blk ?_)
    refine AL.exit ?_
    simp only [AU, ↓reduceIte]
    have : i = l.length := by omega
    subst this
    repeat (first | refine AL.seq ?_ | refine AL.block ?_ | refine AL.skip ?_ | refine AL.blk ?_)
    refine AL.region follows_Try (Nat.le_refl _) (by kernel_rfl) ?_
    simp
    repeat (first | refine AL.seq ?_ | refine AL.block ?_ | refine AL.skip ?_ | refine AL.blk ?_)
    refine AL.ret ?_
    try simp only [AU]
    refine ⟨by simp, Fin.data (by simp [resAs, resA]; rfl) hbox rfl htok htk.old htk.le ?_⟩
    simp [packA, ]

def preK (l : List Int) (i : Nat) : List Int := l.take i
theorem preK_zero (l : List Int) : preK l 0 = [] := by simp [preK]
@[simp] theorem preK_len (l : List Int) (i : Nat) : (preK l i).length = min i l.length := by simp [preK]
theorem preK_succ (l : List Int) {i : Nat} (h : i < l.length) : preK l (i + 1) = preK l i ++ [l[i]] := List.take_succ_eq_append_getElem h
theorem preK_all (l : List Int) : preK l l.length = l := by simp [preK]
def numsR (l : List Int) : List Int := if l = [] then [0] else l
def st71 (l : List Int) (nb : Nat) (box : Nat → Option (List (List AV))) (x : Acc) : AState :=
  ⟨tl [(0, .d (.sl 1 (l.map fun n => [u8 n]))), (3, .osl 1 (rI (preK l x.i)) x.own), (4, I x.i)], lb nb box [], x.tok, x.nt⟩

theorem numbers71_c (l : List Int) (hl : l.length ≤ 100) (hu : ∀ n ∈ l, 0 ≤ n ∧ n < 256) (tok : Nat → Bool) (nt : Nat) : DCall Try.prog 71 [.d (.sl 1 (l.map fun n => [u8 n]))] tok nt (.d (ints (numsR l))) tok nt := by
  intro box nb
  refine ACalls.of_body Try.func71 rfl (by kernel_rfl) follows_Try (by kernel_rfl) (by simp [Try.ntmps71]) ?_
  intro hbox htok
  simp only at hbox htok
  apply AL.start
  repeat (first | refine AL.seq ?_ | refine AL.block ?_ | refine AL.skip ?_ | refine AL.blk ?_)
  refine AL.region follows_Try (Nat.le_refl _) (by kernel_rfl) ?_
  simp
  repeat (first | refine AL.seq ?_ | refine AL.block ?_ | refine AL.skip ?_ | refine AL.blk ?_)
  refine AL.region follows_Try (Nat.le_refl _) (by kernel_rfl) ?_
  simp
  repeat (first | refine AL.seq ?_ | refine AL.block ?_ | refine AL.skip ?_ | refine AL.blk ?_)
  refine AL.region follows_Try (Nat.le_refl _) (by kernel_rfl) ?_
  simp
  repeat (first | refine AL.seq ?_ | refine AL.block ?_ | refine AL.skip ?_ | refine AL.blk ?_)
  refine AL.loopT (st71 l nb box) (fun x => x.i ≤ l.length ∧ TK tok nt x.tok x.nt [x.own]) (fun x => l.length - x.i) ⟨0, .full, tok, nt⟩ ⟨Nat.zero_le _, (TK.start htok).full⟩ (Weaks.mk (Nat.le_refl _) rfl (by simp [ToL, preK_zero]) trivial) ?_
  rintro ⟨i, own, tok', nt'⟩ S ⟨hi, htk⟩ hS
  simp only [st71] at hS hi htk
  subst hS
  have hw : IntKind.i64.wrap (↑i + 1) = ((i + 1 : Nat) : Int) := by rw [wrap_in (by omega) (by omega)]; rfl
  repeat (first | refine AL.seq ?_ | refine AL.block ?_ | refine AL.skip ?_ | refine AL.blk ?_)
  refine AL.region follows_Try (Nat.le_refl _) (by kernel_rfl) ?_
  simp
  repeat (first | refine AL.seq ?_ | refine AL.block ?_ | refine AL.skip ?_ | refine AL.blk ?_)
  refine AL.cond ?_
  simp
  refine ⟨fun hlt => ?_, fun hge => ?_⟩
  · have hun := hu _ (List.getElem_mem hlt)
    have hwn : IntKind.i64.wrap l[i] = l[i] := wrap_in (by omega) (by omega)
    repeat (first | refine AL.seq ?_ | refine AL.block ?_ | refine AL.skip ?_ | refine AL.blk ?_)
    refine AL.region follows_Try (Nat.le_refl _) (by kernel_rfl) ?_
    simp [hlt]
    refine ⟨⟨by omega, htk.live⟩, ?_⟩
    repeat (first | refine AL.seq ?_ | refine AL.block ?_ | refine AL.skip ?_ | refine AL.blk ?_)
    refine AL.region follows_Try (Nat.le_refl _) (by kernel_rfl) ?_
    simp [hw]
    repeat (first | refine AL.seq ?_ | refine AL.block ?_ | refine AL.skip ?_ | refine AL.blk ?_)
    refine AL.nil ?_
    refine ⟨⟨i + 1, _, _, _⟩, ⟨hlt, htk.app⟩, by simp; omega, Weaks.mk htk.app.le rfl (by simp [ToL, preK_succ l hlt, hwn]) trivial⟩
  · repeat (first | refine AL.seq ?_ | refine AL.block ?_ | refine AL.skip ?_ | refine AL.blk ?_)
    refine AL.exit ?_
    simp only [AU, ↓reduceIte]
    have : i = l.length := by omega
    subst this
    rw [preK_all]
    repeat (first | refine AL.seq ?_ | refine AL.block ?_ | refine AL.skip ?_ | refine AL.blk ?_)
    refine AL.region follows_Try (Nat.le_refl _) (by kernel_rfl) ?_
    simp
    by_cases h0 : l = []
    · subst h0
      simp
      repeat (first | refine AL.seq ?_ | refine AL.block ?_ | refine AL.skip ?_ | refine AL.blk ?_)
      refine AL.cond ?_
      simp
      repeat (first | refine AL.seq ?_ | refine AL.block ?_ | refine AL.skip ?_ | refine AL.blk ?_)
      refine AL.region follows_Try (Nat.le_refl _) (by kernel_rfl) ?_
      simp
      repeat (first | refine AL.seq ?_ | refine AL.block ?_ | refine AL.skip ?_ | refine AL.blk ?_)
      refine AL.region follows_Try (Nat.le_refl _) (by kernel_rfl) ?_
      simp
      repeat (first | refine AL.seq ?_ | refine AL.block ?_ | refine AL.skip ?_ | refine AL.blk ?_)
      refine AL.ret ?_
      try simp only [AU]
      refine ⟨by simp, Fin.data (by simp [resAs, resA]; rfl) hbox rfl htok htk.old htk.le ?_⟩
      simp [packA, numsR, ints]
    · have h1 : ((l.length : Int) == 0) = false := by simp [h0]
      simp [h1]
      repeat (first | refine AL.seq ?_ | refine AL.block ?_ | refine AL.skip ?_ | refine AL.blk ?_)
      refine AL.cond ?_
      simp
      repeat (first | refine AL.seq ?_ | refine AL.block ?_ | refine AL.skip ?_ | refine AL.blk ?_)
      refine AL.region follows_Try (Nat.le_refl _) (by kernel_rfl) ?_
      simp
      repeat (first | refine AL.seq ?_ | refine AL.block ?_ | refine AL.skip ?_ | refine AL.blk ?_)
      refine AL.ret ?_
      try simp only [AU]
      refine ⟨by simp, Fin.data (by simp [resAs, resA]; rfl) hbox rfl htok htk.old htk.le ?_⟩
      simp [packA, numsR, h0, ints]
end Go.AM
