import Derived.Test.YtgonmjghdkoekaaTm9
import Derived.Test.YtgonmjghdkoekaaChecked
import Derived.RangeFuncBox
import Derived.RangeFuncLeaves
import Derived.Shelf.Abstract
import Derived.WalkKit
import Derived.OwnWalkIn
import Derived.TacticsInMore
import Derived.LoopNIn
import Derived.LoopIn
import Derived.Maps.AppendAt
import Derived.Sort.OwnSortedInts
import Derived.Lib.OwnBridge
import Derived.Sort.EveryDepth
import Derived.ProofKit
import Derived.OpenShut
import Derived.ChangeStays
import Derived.SizedLaws
/-
  slices.Values at ints, turned from a worked proof to this program: the closure that it hands back gives the slice's numbers in order; and slices.AppendSeq, Collect, Sorted over it.
-/
namespace Go.Proofs.Ytgonmjghdkoekaa.values
open Go Go.Proofs Go.RowKit Go.Shelf

attribute [local go_sem] Oper.semAt_some

def upto {α : Type} (f : Nat → α) (k : Nat) : List α := (List.range k).map f
theorem upto_succ {α : Type} (f : Nat → α) (k : Nat) : upto f (k + 1) = upto f k ++ [f k] := by simp [upto, List.range_succ]
theorem upto_length {α : Type} (f : Nat → α) (k : Nat) : (upto f k).length = k := by simp [upto]
theorem upto_all (zs : List Int) : upto (fun j => zs[j]?.getD 0) zs.length = zs := by
  apply List.ext_getElem
  · simp [upto]
  · intro i h1 h2
    simp [upto, h2]

set_option maxRecDepth 100000 in
set_option maxHeartbeats 2000000 in
theorem values1_in (F : Fence) (n : Nat) (h7 : F.fn 103) (hro : F.round = none) (hn : 1 ≤ n) (l Bs n₀ b off len cap : Nat) (zs : List Int) (hreach : len * 8 ≤ 140737488351232) (hb : b < n₀) (J Jx : List Int → World → Prop)
    (hY : ∀ pre x W, J pre W → pre.length < len → YieldAt F (n - 1) Try.prog l #[.int .i64 x] W fun e W' =>
      (e = .returned (.bool true) ∧ J (pre ++ [x]) W' ∧ Below n₀ W W') ∨ (e = .returned (.bool false) ∧ Jx (pre ++ [x]) W'))
    (W : World) (hBs : W.cell? ⟨Bs, 0, none⟩ = some (.slice (some ⟨b, off, none⟩) len cap)) (hc : ∀ j, j < len → W.cell? ⟨b, off + j, none⟩ = some (.int .i64 (zs[j]?.getD 0))) (h0 : J [] W) :
    CallsIn F n Try.prog 103 #[.func (.yield l) #[] #[], .pointer (some ⟨Bs, 0, none⟩)] W fun e W' => (∃ v, e = .returned v) ∧
      ((∃ ys, ys = upto (fun j => zs[j]?.getD 0) len ∧ J ys W') ∨ (∃ pre, (∃ k, k ≤ len ∧ pre = upto (fun j => zs[j]?.getD 0) k) ∧ Jx pre W')) := by
  refine callsIn_of_wp Try.func103 rfl h7 ?_ hro
  simp only [Try.ntmps103, List.size_toArray, List.length_cons, List.length_nil, Nat.reduceAdd, Nat.reduceSub, Array.replicate_succ, Array.replicate_zero, List.push_toArray, List.append_toArray, List.nil_append, List.cons_append]
  gi_wp2
  gi_loopw [7] (fun i wr => ∃ k : Nat, k ≤ len ∧ i = .int .i64 k ∧ J (upto (fun j => zs[j]?.getD 0) k) wr ∧ Below n₀ W wr)
    (fun i _ => len - (intOf i).toNat)
  case atStart => exact ⟨0, Nat.zero_le _, rfl, h0, Below.refl _ _⟩
  case round =>
    obtain ⟨k, hk, rfl, hJs, hnx⟩ := hrel
    have hcx : k < len → wr.cell? ⟨b, off + k, none⟩ = some (.int .i64 (zs[k]?.getD 0)) := fun h => (hnx.cell (p := ⟨b, off + k, none⟩) hb).trans (hc k h)
    by_cases hlt : k < len
    · obtain ⟨fn, tmps, assign, body, hy, hR⟩ := hY _ (zs[k]?.getD 0) wr hJs (by rw [upto_length]; exact hlt)
      have hcx' := hcx hlt
      gi_wp2
      refine hR.mono ?_
      rintro e W3 (⟨rfl, hJ3, hk3⟩ | ⟨rfl, hJx3⟩)
      · -- THE ROUND GOES ON
        gi_wp2
        go_roundw
        case rel => exact ⟨k + 1, by omega, by simp, by rw [upto_succ]; exact hJ3, hnx.trans hk3⟩
        case measure => simp [intOf]; omega
      · gi_wp2
        refine bodyPost_ret (results_none rfl _ _ _) rfl ?_
        exact ⟨⟨_, rfl⟩, .inr ⟨_, ⟨k + 1, by omega, (upto_succ _ _).symm⟩, hJx3⟩⟩
    · obtain rfl : k = len := by omega
      gi_wp2
      go_end0
      exact ⟨⟨_, rfl⟩, .inl ⟨_, rfl, hJs⟩⟩

theorem upto_take (zs : List Int) {k : Nat} (hk : k ≤ zs.length) : upto (fun j => zs[j]?.getD 0) k = zs.take k := by
  apply List.ext_getElem
  · simp [upto, hk]
  · intro i h1 h2
    have : i < zs.length := by simp [upto] at h1; omega
    simp [upto, this]

def Ints (n₀ : Nat) (W : World) (sv : Value) (zs : List Int) : Prop :=
  (∃ az cz, sv = .slice az 0 cz ∧ zs = []) ∨ ∃ b off cap, sv = .slice (some ⟨b, off, none⟩) zs.length cap ∧ b < n₀ ∧ ∀ j, j < zs.length → W.cell? ⟨b, off + j, none⟩ = some (.int .i64 (zs[j]?.getD 0))
theorem Ints.below {n₀ : Nat} {A B : World} (h : Below n₀ A B) {sv : Value} {zs : List Int} : Ints n₀ A sv zs → Ints n₀ B sv zs
  | .inl e => .inl e
  | .inr ⟨b, off, cap, e, hb, hc⟩ => .inr ⟨b, off, cap, e, hb, fun j hj => (h.cell (p := ⟨b, off + j, none⟩) hb).trans (hc j hj)⟩

set_option maxRecDepth 100000 in
set_option maxHeartbeats 1000000 in
theorem values1_nil_in (F : Fence) (n : Nat) (h7 : F.fn 103) (hro : F.round = none) (l Bs : Nat) (J : List Int → World → Prop) (W : World) (az : Option Addr) (cz : Nat) (hBs : W.cell? ⟨Bs, 0, none⟩ = some (.slice az 0 cz)) (h0 : J [] W) :
    CallsIn F n Try.prog 103 #[.func (.yield l) #[] #[], .pointer (some ⟨Bs, 0, none⟩)] W fun e W' => (∃ v, e = .returned v) ∧ J [] W' := by
  refine callsIn_of_wp Try.func103 rfl h7 ?_ hro
  simp only [Try.ntmps103, List.size_toArray, List.length_cons, List.length_nil, Nat.reduceAdd, Nat.reduceSub, Array.replicate_succ, Array.replicate_zero, List.push_toArray, List.append_toArray, List.nil_append, List.cons_append]
  gi_wp2
  gi_loopw [7] (fun i wr => i = .int .i64 0 ∧ J [] wr) (fun _ _ => 0)
  case atStart => exact ⟨rfl, h0⟩
  case round =>
    obtain ⟨rfl, hJs⟩ := hrel
    gi_wp2
    go_end0
    exact ⟨⟨_, rfl⟩, hJs⟩

set_option maxHeartbeats 1000000 in
theorem values_in (F : Fence) (n : Nat) (h5 : F.fn 94) (hro : F.round = none) (a : Option Addr) (len cap : Nat) (w : World) :
    CallsIn F n Try.prog 94 #[.slice a len cap] w fun e w' => e = .returned (.func (.func 103) #[] #[.pointer (some ⟨w.heap.size, 0, none⟩)]) ∧ w' = w.alloc (.cells #[.slice a len cap] 22) := by
  refine callsIn_of_wp Try.func94 rfl h5 ?_ hro
  simp only [Try.ntmps94, List.size_toArray, List.length_cons, List.length_nil, Nat.reduceAdd, Nat.reduceSub, Array.replicate_succ, Array.replicate_zero, List.push_toArray, List.append_toArray, List.nil_append, List.cons_append]
  gi_wp2
  go_ret
  exact ⟨rfl, rfl⟩

theorem values_stops (F : Fence) (n : Nat) (h7 : F.fn 103) (hro : F.round = none) (hn : 1 ≤ n) (Bs n₀ : Nat) (sv : Value) (zs : List Int) (hreach : zs.length * 8 ≤ 140737488351232) (w : World) (hBs : Bs < w.heap.size) (hn₀ : n₀ ≤ w.heap.size)
    (hc : w.cell? ⟨Bs, 0, none⟩ = some sv) (hI : Ints n₀ w sv zs) :
    SeqStopsK F n Try.prog 103 #[.pointer (some ⟨Bs, 0, none⟩)] (fun x : Int => #[Value.int .i64 x]) (Below n₀) (fun ys => ys = zs) (fun pre => pre <+: zs) zs.length w := fun l J Jx W hW _ _ hY h0 => by
  have hc' := (hW.cell (p := ⟨Bs, 0, none⟩) hBs).trans hc
  rcases hI.below (hW.mono hn₀) with ⟨az, cz, rfl, rfl⟩ | ⟨b, off, cap, rfl, hb, hcs⟩
  · exact (values1_nil_in F n h7 hro l Bs J W az cz hc' h0).mono fun e W' ⟨he, hj⟩ => ⟨he, .inl ⟨_, rfl, hj⟩⟩
  · refine (values1_in F n h7 hro hn l Bs n₀ b off zs.length cap zs hreach hb J Jx hY W hc' hcs h0).mono ?_
    rintro e W' ⟨he, ⟨ys, rfl, hj⟩ | ⟨pre, ⟨k, hk, rfl⟩, hj⟩⟩
    · exact ⟨he, .inl ⟨_, upto_all zs, hj⟩⟩
    · exact ⟨he, .inr ⟨_, by rw [upto_take zs hk]; exact List.take_prefix _ _, hj⟩⟩


theorem info3 : (Try.prog.info? 3).map (fun i => (i.zero, i.size, i.bytes)) = some (some (.int .i64 0), 1, 8) := by kernel_rfl

set_option maxRecDepth 100000 in
set_option maxHeartbeats 2000000 in
theorem appendSeq_in (F : Fence) (n : Nat) (h109 : F.fn 109) (h103 : F.fn 103) (hro : F.round = none) (hn : 3 ≤ n) (Bs : Nat) (sv : Value) (zs : List Int) (hlen : zs.length ≤ maxLen) (hbytes : zs.length * 8 ≤ 140737488351232) (w : World) (hBs : Bs < w.heap.size)
    (hc : w.cell? ⟨Bs, 0, none⟩ = some sv) (hI : Ints w.heap.size w sv zs) :
    CallsIn F n Try.prog 109 #[.slice none 0 0, .func (.func 103) #[] #[.pointer (some ⟨Bs, 0, none⟩)]] w fun e W' => ∃ v, e = .returned v ∧ W'.ownsRow w.heap.size 3 1 v zs.length (zs.map (Value.int .i64)) ∧ (v = .slice none 0 0 ↔ zs = []) ∧ Below w.heap.size w W' := by
  have h1 : 1 ≤ n := by omega
  obtain ⟨i0, hi, hz0, hz1, hz2⟩ := info_parts info3
  refine callsIn_of_wp_marks Try.func109 rfl h109 ?_ hro
  simp only [Try.ntmps109, List.size_toArray, List.length_cons, List.length_nil, Nat.reduceAdd, Nat.reduceSub, Array.replicate_succ, Array.replicate_zero, List.push_toArray, List.append_toArray, List.nil_append, List.cons_append]
  gi_wp2
  have bO := Boxed.new w 22 (.slice none 0 0)
  have hB0 : Below w.heap.size w (w.alloc (.cells #[.slice none 0 0] 22)) := (Below.refl _ w).alloc (Nat.le_refl _) _
  refine wpIn_rangeFunc_ownG hro h1 (gf := 103) (lb := #[.pointer (some ⟨Bs, 0, none⟩)]) rfl h103 (enters_of Try.func103 (by kernel_rfl) rfl)
    (values_stops F (n - 1) h103 hro (by omega) Bs w.heap.size sv zs hbytes _ (by simp; omega) (by simp) ((hB0.cell (p := ⟨Bs, 0, none⟩) hBs).trans hc) (hI.below hB0)) belowK_t (belowK_b (by simp)) (Below.refl _ _) (fun _ => rfl)
    (fun pre W => (∃ v, Boxed W w.heap.size 22 v ∧ W.ownsRow w.heap.size 3 1 v pre.length (pre.map (Value.int .i64)) ∧ (v = .slice none 0 0 ↔ pre = [])) ∧ Below w.heap.size w W)
    (fun _ _ _ => False)
    (OwnFrom.and (Own.from (holdsRow_own w.heap.size w.heap.size 22 3 1 (fun pre : List Int => pre.length) (fun pre => pre.map (Value.int .i64)) (fun pre v => v = .slice none 0 0 ↔ pre = [])) _) (ownFrom_below (Nat.le_refl _) (by simp)))
    (fun _ _ _ _ _ hs _ _ => hs)
    ⟨⟨_, bO, World.ownsRow_nil _ _ _ _, by simp⟩, hB0⟩
    (fun x => { tmps := #[.slice none 0 0, .func (.func 103) #[] #[.pointer (some ⟨Bs, 0, none⟩)], .pointer (some ⟨w.heap.size, 0, none⟩), undef, .slice none 0 0, .int .i64 x, .func (.func 103) #[] #[.pointer (some ⟨Bs, 0, none⟩)], .int .i64 x, undef, undef, undef, undef, undef], defers := [] }) ?assign ?body ?done ?stop
  case assign =>
    intro l x W K hK
    gi_wp2
    exact hK
  case body =>
    rintro l pre x W ⟨⟨v, hv, hrow, hnil⟩, hB⟩ hlt
    have hc := hv.cell
    gi_wp2_with (gi_at_builtin; refine wpListIn_append_own _ rfl _ _ 22 rfl w.heap.size 3 i0 (.int .i64 0) 1 8 Try.underlying22 hi hz0 hz1 hz2 rfl (by decide) _ _ _ rfl (hrow.alloc _) ⟨W.heap.size, 0, none⟩ 1 1 [.int .i64 x] rfl rfl (cell_one_new _ _ _) (by simp [Value.oneCell']) (by omega) (by omega) (by have := hB.size; simp; omega) ?_; intro v' w1 hown' hgrow _; obtain ⟨g', cap', rfl⟩ := ownsRow_succ hown'; obtain ⟨hv1, hv2, hr2, hk2, hb2⟩ := hv.appended (by decide) hrow hB.size (Nat.le_refl _) hown' hgrow; have hc1 := hv1.cell; have hf1 := hv1.frozen)
    exact ⟨hk2.from _, hb2, ⟨_, hv2, by simpa using hr2, by simp⟩, hB.trans hb2⟩
  case done =>
    rintro D ys W hD rfl ⟨⟨v, hv, hrow, hnil⟩, hB⟩ hK
    have hc := hv.cell
    gi_wp2
    refine ⟨by simp, .inl ⟨_, _, rfl, run_takeDeferred hK, ?_⟩⟩
    exact ⟨_, results_tmp rfl _ _ _, v, rfl, ownsRow_putObj hrow _ hK rfl, hnil, hB.trans (belowK_b (w := w) (Nat.le_refl _) W D _ _ (by simp at hD; omega) hK rfl rfl)⟩
  case stop =>
    rintro D c pre W _ _ h _
    exact h.elim

end Go.Proofs.Ytgonmjghdkoekaa.values
/-
  factor.images: slices.Compact(slices.Sorted(slices.Values(l))): a slice of the call's own that holds the numbers of l in order, each once; nothing that lay there has turned.
-/
namespace Go.Proofs.Ytgonmjghdkoekaa.values
open Go Go.Proofs Go.RowKit Go.Shelf Go.Sort

theorem values_c (a : Option Addr) (len cap : Nat) (w : World) :
    Calls Try.prog 94 #[.slice a len cap] w fun e w' => e = .returned (.func (.func 103) #[] #[.pointer (some ⟨w.heap.size, 0, none⟩)]) ∧ w' = w.alloc (.cells #[.slice a len cap] 22) :=
  calls_of_every_depth (L := [94]) (n := 0) fun D => values_in (Fence.list [94] (some D)) 0 (by simp [Fence.list]) rfl a len cap w

set_option maxRecDepth 100000 in
set_option maxHeartbeats 2000000 in
theorem collect_c (Bs : Nat) (sv : Value) (zs : List Int) (hlen : zs.length ≤ maxLen) (hbytes : zs.length * 8 ≤ 140737488351232) (w : World) (hBs : Bs < w.heap.size)
    (hc : w.cell? ⟨Bs, 0, none⟩ = some sv) (hI : Ints w.heap.size w sv zs) :
    Calls Try.prog 102 #[.func (.func 103) #[] #[.pointer (some ⟨Bs, 0, none⟩)]] w fun e W' => ∃ v, e = .returned v ∧ W'.ownsRow w.heap.size 3 1 v zs.length (zs.map (Value.int .i64)) ∧ (v = .slice none 0 0 ↔ zs = []) ∧ Below w.heap.size w W' := by
  have hap : Calls Try.prog 109 #[.slice none 0 0, .func (.func 103) #[] #[.pointer (some ⟨Bs, 0, none⟩)]] w fun e W' => ∃ v, e = .returned v ∧ W'.ownsRow w.heap.size 3 1 v zs.length (zs.map (Value.int .i64)) ∧ (v = .slice none 0 0 ↔ zs = []) ∧ Below w.heap.size w W' :=
    calls_of_every_depth (L := [109, 103]) (n := 3) fun D => appendSeq_in (Fence.list [109, 103] (some D)) 3 (by simp [Fence.list]) (by simp [Fence.list]) rfl (by decide) Bs sv zs hlen hbytes w hBs hc hI
  go_enter Try.func102, Try.ntmps102
  go_wp2_with (go_at_call 109; refine hap.mono ?_; rintro e w1 ⟨v1, rfl, hown, hnn, hbel⟩)
  go_ret
  exact ⟨_, rfl, hown, hnn, hbel⟩

set_option maxRecDepth 100000 in
set_option maxHeartbeats 2000000 in
theorem sorted_c (Bs : Nat) (sv : Value) (zs : List Int) (hlen : zs.length ≤ maxLen) (hbytes : zs.length * 8 ≤ 140737488351232) (w : World) (hBs : Bs < w.heap.size)
    (hc : w.cell? ⟨Bs, 0, none⟩ = some sv) (hI : Ints w.heap.size w sv zs) (hne : zs ≠ []) :
    Calls Try.prog 93 #[.func (.func 103) #[] #[.pointer (some ⟨Bs, 0, none⟩)]] w fun e W' => ∃ g cap, e = .returned (.slice (some ⟨g, 0, none⟩) zs.length cap) ∧ w.heap.size ≤ g ∧ g < W'.heap.size ∧ zs.length ≤ cap ∧ cap ≤ maxLen ∧
      W'.ownsRow w.heap.size 3 1 (.slice (some ⟨g, 0, none⟩) zs.length cap) zs.length ((zs.mergeSort fun x y => decide (x ≤ y)).map (Value.int .i64)) ∧ Below w.heap.size w W' := by
  have hcol := collect_c Bs sv zs hlen hbytes w hBs hc hI
  clear hc hI
  go_enter Try.func93, Try.ntmps93
  go_wp2_with (first
    | (go_at_call 102; refine hcol.mono ?_; rintro e w1 ⟨v1, rfl, hown, hnn, hbel⟩
       have hown' := hown
       obtain ⟨g, cap, rfl, hbg, hgl, hncap, hcm, hlen2, hH⟩ := Lib.holds_of_ownsRow hown (fun h => hne (hnn.1 h))
       have hsort := Try.slices_Sort_int g 0 cap zs w1 hH hgl (by unfold maxLen at hlen; omega)
       have X : Aside (w1.ownsRow w.heap.size 3 1 (.slice (some ⟨g, 0, none⟩) zs.length cap) zs.length (zs.map (Value.int .i64)) ∧ Below w.heap.size w w1 ∧ w.heap.size ≤ g ∧ g < w1.heap.size ∧ zs.length ≤ cap ∧ cap ≤ maxLen) := ⟨hown', hbel, hbg, hgl, hncap, hcm⟩
       clear hown hown' hbel hH hnn)
    | (go_at_call 100; refine hsort.mono ?_; rintro e w2 ⟨rfl, nn, os, rfl⟩))
  go_ret
  obtain ⟨x1, x2, x3, x4, x5, x6⟩ := X.out
  rcases x1.2 with ⟨e0, _⟩ | ⟨g', cap', cur, hv, hbase, hb, h1, h2, h3, h4⟩
  · cases e0
  cases hv
  exact ⟨g, cap, rfl, x3, by simp [grow, putRow, mapBlock, Sort.ahead]; omega, x5, x6, ownsRow_sortedI (by simp) hbase hb h1 h2 h3, x2.grown (grownBy_sortedI _) x2.size (fun j hj => by cases hj; exact hbase)⟩

set_option maxRecDepth 100000 in
set_option maxHeartbeats 2000000 in
theorem sorted_nil_c (Bs : Nat) (sv : Value) (w : World) (hBs : Bs < w.heap.size) (hc : w.cell? ⟨Bs, 0, none⟩ = some sv) (hI : Ints w.heap.size w sv []) :
    Calls Try.prog 93 #[.func (.func 103) #[] #[.pointer (some ⟨Bs, 0, none⟩)]] w fun e W' => e = .returned (.slice none 0 0) ∧ Below w.heap.size w W' := by
  have hcol := collect_c Bs sv [] (by simp) (by simp) w hBs hc hI
  clear hc hI
  go_enter Try.func93, Try.ntmps93
  go_wp2_with (first
    | (go_at_call 102; refine hcol.mono ?_; rintro e w1 ⟨v1, rfl, hown, hnn, hbel⟩; obtain rfl : v1 = .slice none 0 0 := hnn.2 rfl; clear hown hnn)
    | (go_at_call 100; refine (Try.slices_Sort_int_none none 0 _).mono ?_; rintro e w2 ⟨rfl, rfl⟩))
  go_ret
  exact ⟨rfl, hbel⟩

set_option maxRecDepth 100000 in
set_option maxHeartbeats 2000000 in
theorem images_nil (a : Option Addr) (cap : Nat) (w : World) : Calls Try.prog 65 #[.slice a 0 cap] w fun e W' => e = .returned (.slice none 0 0) ∧ Below w.heap.size w W' := by
  have hB1 : Below w.heap.size w (w.alloc (.cells #[.slice a 0 cap] 22)) := (Below.refl _ w).alloc (Nat.le_refl _) _
  have hsz : (w.alloc (.cells #[.slice a 0 cap] 22)).heap.size = w.heap.size + 1 := by simp
  have hbox : (w.alloc (.cells #[.slice a 0 cap] 22)).cell? ⟨w.heap.size, 0, none⟩ = some (.slice a 0 cap) := (Boxed.new w 22 _).cell
  have hs := sorted_nil_c w.heap.size _ _ (by omega) hbox (.inl ⟨a, cap, rfl, rfl⟩)
  clear hbox
  obtain ⟨w1, hw1⟩ : ∃ w1, w.alloc (.cells #[.slice a 0 cap] 22) = w1 := ⟨_, rfl⟩
  rw [hw1] at hs hB1 hsz
  go_enter Try.func65, Try.ntmps65
  go_wp2_with (first
    | (go_at_call 94; refine (values_c _ _ _ _).mono ?_; rintro e w' ⟨rfl, rfl⟩; rw [hw1])
    | (go_at_call 93; refine hs.mono ?_; rintro e w2 ⟨rfl, s6⟩)
    | (go_at_call 92; refine (Try.slices_Compact_int_empty none 0 _).mono ?_; rintro e w3 ⟨rfl, rfl⟩))
  go_ret
  exact ⟨rfl, hB1.trans (s6.mono (by omega))⟩

theorem ownsRow_base {W : World} {base base' : Nat} {e : TypeId} {size : Nat} {v : Value} {k : Nat} {xs : List Value} (h : W.ownsRow base e size v k xs) (hb : base' ≤ base) : W.ownsRow base' e size v k xs := by
  refine ⟨h.1, ?_⟩
  rcases h.2 with h0 | ⟨g, cap, cur, h1, h2, h3⟩
  · exact .inl h0
  · exact .inr ⟨g, cap, cur, h1, Nat.le_trans hb h2, h3⟩

set_option maxRecDepth 100000 in
set_option maxHeartbeats 2000000 in
theorem images_any (b off cap : Nat) (zs : List Int) (w : World) (hne : zs ≠ []) (hlen : zs.length ≤ maxLen) (hbytes : zs.length * 8 ≤ 140737488351232) (hc : ∀ j, j < zs.length → w.cell? ⟨b, off + j, none⟩ = some (.int .i64 (zs.getD j 0))) :
    Calls Try.prog 65 #[.slice (some ⟨b, off, none⟩) zs.length cap] w fun e W' => ∃ v, e = .returned v ∧
      W'.ownsRow w.heap.size 3 1 v (Lib.compact (zs.mergeSort fun x y => decide (x ≤ y))).length ((Lib.compact (zs.mergeSort fun x y => decide (x ≤ y))).map (Value.int .i64)) ∧ Below w.heap.size w W' := by
  have hp : 0 < zs.length := List.length_pos_iff.2 hne
  have hb : b < w.heap.size := World.block_lt_of_cell? w _ (hc 0 hp)
  have hB1 : Below w.heap.size w (w.alloc (.cells #[.slice (some ⟨b, off, none⟩) zs.length cap] 22)) := (Below.refl _ w).alloc (Nat.le_refl _) _
  have hsz : (w.alloc (.cells #[.slice (some ⟨b, off, none⟩) zs.length cap] 22)).heap.size = w.heap.size + 1 := by simp
  have hbox : (w.alloc (.cells #[.slice (some ⟨b, off, none⟩) zs.length cap] 22)).cell? ⟨w.heap.size, 0, none⟩ = some (.slice (some ⟨b, off, none⟩) zs.length cap) := (Boxed.new w 22 _).cell
  have hI : Ints (w.alloc (.cells #[.slice (some ⟨b, off, none⟩) zs.length cap] 22)).heap.size (w.alloc (.cells #[.slice (some ⟨b, off, none⟩) zs.length cap] 22)) (.slice (some ⟨b, off, none⟩) zs.length cap) zs :=
    .inr ⟨b, off, cap, rfl, by omega, fun j hj => by rw [← List.getD_eq_getElem?_getD]; exact (hB1.cell (p := ⟨b, off + j, none⟩) hb).trans (hc j hj)⟩
  have hs := sorted_c w.heap.size _ zs hlen hbytes _ (by omega) hbox hI hne
  clear hbox hI hc
  obtain ⟨w1, hw1⟩ : ∃ w1, w.alloc (.cells #[.slice (some ⟨b, off, none⟩) zs.length cap] 22) = w1 := ⟨_, rfl⟩
  rw [hw1] at hs hB1 hsz
  go_enter Try.func65, Try.ntmps65
  go_wp2_with (first
    | (go_at_call 94; refine (values_c _ _ _ _).mono ?_; rintro e w' ⟨rfl, rfl⟩; rw [hw1])
    | (go_at_call 93; refine hs.mono ?_; rintro e w2 ⟨g, cap2, rfl, s1, s2, s3, s4, s5, s6⟩
       obtain ⟨g', c', hg', t1, t2, t3, t4, t5, hH⟩ := Lib.holds_of_ownsRow s5 (by simp)
       cases hg'
       have hcomp := Try.slices_Compact_int g 0 cap2 (zs.mergeSort fun x y => decide (x ≤ y)) w2 hH (by rw [t5]; unfold maxLen at hlen; omega) (by rw [t5]; exact s3)
       rw [t5] at hcomp
       have X : Aside (w2.ownsRow w1.heap.size 3 1 (.slice (some ⟨g, 0, none⟩) zs.length cap2) zs.length ((zs.mergeSort fun x y => decide (x ≤ y)).map (Value.int .i64)) ∧ Below w1.heap.size w1 w2 ∧ w1.heap.size ≤ g) := ⟨s5, s6, s1⟩
       clear s5 s6 hH hs)
    | (go_at_call 92; refine hcomp.mono ?_; rintro e w3 ⟨rfl, q, rfl⟩))
  go_ret
  have hle := Lib.compact_length_le (zs.mergeSort fun x y => decide (x ≤ y))
  rw [List.length_mergeSort] at hle
  have hr := Lib.ownsRow_putRow (q := q) (k := (Lib.compact (zs.mergeSort fun x y => decide (x ≤ y))).length) (ys := Lib.compact (zs.mergeSort fun x y => decide (x ≤ y)) ++ List.replicate (zs.length - (Lib.compact (zs.mergeSort fun x y => decide (x ≤ y))).length) 0) X.out.1 (by simp; omega) hle
  rw [List.take_left] at hr
  exact ⟨_, rfl, ownsRow_base hr (by omega), hB1.trans (Below.mono (Lib.below_putRow X.out.2.1 X.out.2.2) (by omega))⟩
end Go.Proofs.Ytgonmjghdkoekaa.values
/-
  factor.images as a call of the abstract machine: a second bridge, for results that are slices of numbers in memory of the call's own.
-/
namespace Go.AM
open Go Go.Proofs Go.RowKit
set_option linter.unusedSimpArgs false
set_option linter.unusedVariables false

/-- A slice of the call's own that holds numbers reads as data. -/
theorem rvd_owns {G : Gh} {w w' : World} {m : AMem} (hm : RelM G m w) {v : Value} {xs : List Int} (h : w'.ownsRow w.heap.size 3 1 v xs.length (xs.map (Value.int .i64))) : RVd w'.cell? G.ps (ints xs) v := by
  rcases h.2 with ⟨rfl, h0⟩ | ⟨g, cap, cur, rfl, hb, hg, h1, h2, h3, h4⟩
  · obtain rfl : xs = [] := List.length_eq_zero_iff.1 h0
    exact .sl (es := []) (fun _ _ => default) (Nat.le_refl _) (by decide) (by simp) (by simp) (by simp) (by simp)
  · have hl : xs.length = (xs.map fun n => [D.raw (.int .i64 n)]).length := by simp
    have hat : ∀ i, i < xs.length → cur[i]? = some (.int .i64 (xs.getD i 0)) := fun i hi => by
      have e : (cur.toList.take (xs.length * 1))[i]? = (xs.map (Value.int .i64))[i]? := by rw [h4]
      rw [List.getElem?_take, if_pos (by omega), Array.getElem?_toList, List.getElem?_map, List.getElem?_eq_getElem hi] at e
      rw [e]
      simp [hi]
    unfold ints
    conv => rhs; rw [hl]
    refine .sl (fun i _ => .int .i64 (xs.getD i 0)) (by simpa using h1) h2 (fun e he => ?_) (fun _ => ⟨_, rfl⟩) (fun a ha i j hi hj => ?_) (fun i j hi hj => ?_)
    · obtain ⟨y, _, rfl⟩ := List.mem_map.1 he
      rfl
    · cases ha
      have hi' : i < xs.length := by simpa using hi
      have hj0 : j = 0 := by omega
      subst hj0
      refine ⟨?_, ?_⟩
      · unfold Gh.ps
        have hbl : (Addr.add ⟨g, 0, none⟩ (i * 1 + 0)).block = g := by unfold Addr.add; split <;> rfl
        rw [hbl, hm.fresh g hb]
        trivial
      · have ha : Addr.add ⟨g, 0, none⟩ (i * 1 + 0) = ⟨g, i, none⟩ := by
          unfold Addr.add
          split
          · rename_i h0; congr 1; omega
          · simp
        rw [ha]
        simp only [World.cell?, hg, Option.isSome_none, Bool.false_eq_true, if_false]
        exact hat i hi'
    · simp only [List.length_map] at hi
      simp only [List.getElem_map, List.length_cons, List.length_nil] at hj ⊢
      have hj0 : j = 0 := by omega
      subst hj0
      have e : xs.getD i 0 = xs[i] := by simp [hi]
      simp only [List.getElem_cons_zero, e]
      exact .raw rfl

theorem images65_c (l : List Int) (hl : l.length ≤ 1000000) (tok : Nat → Bool) (nt : Nat) : DCall Try.prog 65 [.d (ints l)] tok nt (.d (ints (imagesI l))) tok nt := by
  intro box nb
  refine ⟨Enters.mk Try.func65 rfl (by kernel_rfl), fun G w vals hm hr => ?_⟩
  obtain ⟨hlen, hrv⟩ := hr
  match vals, hlen with
  | [v], _ =>
    have h0 := hrv 0 (by simp) (by simp)
    simp only [List.getElem_cons_zero] at h0
    cases h0 with
    | d h0 =>
      obtain ⟨A, cap, rfl, hcap, hmax, hA, hc⟩ := rvd_ints h0
      by_cases e : l = []
      · subst e
        refine (Ytgonmjghdkoekaa.values.images_nil A cap w).mono ?_
        rintro e w' ⟨rfl, hb⟩
        have e0 : imagesI [] = [] := by simp [imagesI, sortI, List.mergeSort, Lib.compact]; rfl
        exact ⟨_, _, _, G, rfl, ⟨rfl, rfl⟩, rfl, relM_below hm hb, .d (by rw [e0]; exact .sl (es := []) (fun _ _ => default) (Nat.le_refl _) (by decide) (by simp) (by simp) (by simp) (by simp)), le_below hm hb, fun k hk => ⟨hk, rfl⟩⟩
      · obtain ⟨a, rfl⟩ := hA e
        have hp : 0 < l.length := List.length_pos_iff.2 e
        have hc' := hc a rfl
        have hs : a.spot = none := by
          cases hsp : a.spot with
          | none => rfl
          | some q =>
            exfalso
            have := hc' 0 hp
            simp only [World.cell?, Addr.add, hsp, Option.isSome_some, ↓reduceIte] at this
            split at this <;> simp at this
        obtain ⟨b, off, sp⟩ := a
        simp only at hs
        subst hs
        refine (Ytgonmjghdkoekaa.values.images_any b off cap l w e (by unfold maxLen; omega) (by omega) fun j hj => ?_).mono ?_
        · have h1 := hc' j hj
          unfold Addr.add at h1
          split at h1
          · rename_i e; subst e; exact h1
          · exact h1
        · rintro e w' ⟨v, rfl, hown, hb⟩
          exact ⟨v, _, _, G, rfl, ⟨rfl, rfl⟩, rfl, relM_below hm hb, .d (rvd_owns hm hown), le_below hm hb, fun k hk => ⟨hk, rfl⟩⟩
end Go.AM
namespace Go.AM
open Go Go.Proofs
set_option linter.unusedSimpArgs false
set_option linter.unusedVariables false

/-! ### factor.Factor -/
def pickN (ns : List Int) (js : List Int) (i : Nat) : List Int := (js.take i).map fun j => ns.getD j.toNat 0
theorem pickN_zero (l h : List Int) : pickN l h 0 = [] := by simp [pickN]
@[simp] theorem pickN_len (l h : List Int) (i : Nat) : (pickN l h i).length = min i h.length := by simp [pickN]
theorem pickN_succ (l h : List Int) {i : Nat} (hi : i < h.length) : pickN l h (i + 1) = pickN l h i ++ [l.getD h[i].toNat 0] := by simp only [pickN, List.take_add_one, List.getElem?_eq_getElem hi, Option.toList, List.map_append, List.map_cons, List.map_nil]
def pickE (es : List E) (ns js : List Int) (i : Nat) : List E := (js.take i).map fun j => ⟨(es.getD j.toNat default).ty, indexI ns (es.getD j.toNat default).fr, indexI ns (es.getD j.toNat default).to⟩
theorem pickE_zero (l : List E) (ns h : List Int) : pickE l ns h 0 = [] := by simp [pickE]
@[simp] theorem pickE_len (l : List E) (ns h : List Int) (i : Nat) : (pickE l ns h i).length = min i h.length := by simp [pickE]
theorem pickE_succ (l : List E) (ns h : List Int) {i : Nat} (hi : i < h.length) : pickE l ns h (i + 1) = pickE l ns h i ++ [⟨(l.getD h[i].toNat default).ty, indexI ns (l.getD h[i].toNat default).fr, indexI ns (l.getD h[i].toNat default).to⟩] := by simp only [pickE, List.take_add_one, List.getElem?_eq_getElem hi, Option.toList, List.map_append, List.map_cons, List.map_nil]

structure Fa where
  g : Gr
  onto : Mo
  into : Mo
  e : Int
def facR (a b : Gr) (m : Mo) : Fa :=
  if validM a b m ≠ 0 then ⟨⟨[], []⟩, ⟨[], []⟩, ⟨[], []⟩, validM a b m⟩
  else ⟨⟨pickN b.nodes (imagesI m.nodes) (imagesI m.nodes).length, pickE b.edges (imagesI m.nodes) (imagesI m.edges) (imagesI m.edges).length⟩,
    ⟨placesK m.nodes (imagesI m.nodes) m.nodes.length, placesK m.edges (imagesI m.edges) m.edges.length⟩, ⟨imagesI m.nodes, imagesI m.edges⟩, 0⟩

theorem imagesI_len (l : List Int) : (imagesI l).length ≤ l.length := by
  have := Lib.compact_length_le (sortI l)
  rw [(sortI_perm l).length_eq] at this
  exact this

def st35a (a b : Gr) (m : Mo) (N M : List Int) (nb : Nat) (box : Nat → Option (List (List AV))) (y : Acc) : AState :=
  ⟨tl [(36, .d (ints N)), (37, I N.length), (38, I y.i), (4, .ptr (nb + 4) 0 0), (5, .ptr (nb + 5) 0 0), (6, .ptr (nb + 6) 0 0), (7, .ptr (nb + 7) 0 0), (8, .ptr (nb + 8) 0 0), (11, .ptr (nb + 11) 0 0), (12, .ptr (nb + 12) 0 0)],
    lb nb box [(12, [[.osl 1 (rI (pickN b.nodes N y.i)) y.own, .osl 0 [] .full]]), (11, [[.d (ints N), .d (ints M)]]), (5, [[.d (ints m.nodes), .d (ints m.edges)]]), (4, [[.d (ints b.nodes), .d (AM.edges b.edges)]]), (6, [[.bot, .bot]]), (7, [[.bot, .bot]]), (8, [[.bot, .bot]])], y.tok, y.nt⟩
def st35b (a b : Gr) (m : Mo) (N M : List Int) (nb : Nat) (box : Nat → Option (List (List AV))) (y : Acc) : AState :=
  ⟨tl [(54, .d (ints M)), (55, I M.length), (56, I y.i), (4, .ptr (nb + 4) 0 0), (5, .ptr (nb + 5) 0 0), (6, .ptr (nb + 6) 0 0), (7, .ptr (nb + 7) 0 0), (8, .ptr (nb + 8) 0 0), (11, .ptr (nb + 11) 0 0), (12, .ptr (nb + 12) 0 0)],
    lb nb box [(12, [[.d (ints (pickN b.nodes N N.length)), .osl 3 (rE (pickE b.edges N M y.i)) y.own]]), (11, [[.d (ints N), .d (ints M)]]), (5, [[.d (ints m.nodes), .d (ints m.edges)]]), (4, [[.d (ints b.nodes), .d (AM.edges b.edges)]]), (6, [[.bot, .bot]]), (7, [[.bot, .bot]]), (8, [[.bot, .bot]])], y.tok, y.nt⟩

theorem factor35_c (a b : Gr) (m : Mo) (ha : a.Fit) (hb : b.Fit) (hm : m.Fit) (tok : Nat → Bool) (nt : Nat) :
    DCall Try.prog 35 [a.av, b.av, m.av] tok nt (.tup [(facR a b m).g.av, (facR a b m).onto.av, (facR a b m).into.av, I (facR a b m).e]) tok nt := by
  intro box nb
  refine ACalls.of_body Try.func35 rfl (by kernel_rfl) follows_Try (by kernel_rfl) (by simp [Try.ntmps35]) ?_
  intro hbox htok
  simp only at hbox htok
  apply AL.start
  repeat (first | refine AL.seq ?_ | refine AL.block ?_ | refine AL.skip ?_ | refine AL.blk ?_)
  refine AL.region follows_Try (Nat.le_refl _) (by kernel_rfl) ?_
  simp
  repeat (first | refine AL.seq ?_ | refine AL.block ?_ | refine AL.skip ?_ | refine AL.blk ?_)
  refine AL.region follows_Try (Nat.le_refl _) (by kernel_rfl) ?_
  simp
  refine Stop.of_d (valid51_c a b m ha hb _ _) ?_
  simp
  by_cases h1 : validM a b m = 0
  · repeat (first | refine AL.seq ?_ | refine AL.block ?_ | refine AL.skip ?_ | refine AL.blk ?_)
    refine AL.region follows_Try (Nat.le_refl _) (by kernel_rfl) ?_
    simp [h1]
    repeat (first | refine AL.seq ?_ | refine AL.block ?_ | refine AL.skip ?_ | refine AL.blk ?_)
    refine AL.cond ?_
    simp
    repeat (first | refine AL.seq ?_ | refine AL.block ?_ | refine AL.skip ?_ | refine AL.blk ?_)
    refine AL.region follows_Try (Nat.le_refl _) (by kernel_rfl) ?_
    simp
    refine Stop.of_d (images65_c m.nodes hm.n _ _) ?_
    simp
    refine Stop.of_d (images65_c m.edges hm.e _ _) ?_
    simp
    have hRes : facR a b m = ⟨⟨pickN b.nodes (imagesI m.nodes) (imagesI m.nodes).length, pickE b.edges (imagesI m.nodes) (imagesI m.edges) (imagesI m.edges).length⟩,
      ⟨placesK m.nodes (imagesI m.nodes) m.nodes.length, placesK m.edges (imagesI m.edges) m.edges.length⟩, ⟨imagesI m.nodes, imagesI m.edges⟩, 0⟩ := by simp [facR, h1]
    simp only [hRes]
    clear hRes
    have v := validM_VM h1
    have hIn : ∀ x ∈ imagesI m.nodes, 0 ≤ x ∧ x < b.nodes.length := fun x hx => v.n x ((imagesI_mem _ _).1 hx)
    have hIe : ∀ x ∈ imagesI m.edges, 0 ≤ x ∧ x < b.edges.length := fun x hx => v.e x ((imagesI_mem _ _).1 hx)
    have l1 := imagesI_len m.nodes
    have l2 := imagesI_len m.edges
    have hmn := hm.n
    have hme := hm.e
    generalize imagesI m.nodes = N at *
    generalize imagesI m.edges = M at *
    repeat (first | refine AL.seq ?_ | refine AL.block ?_ | refine AL.skip ?_ | refine AL.blk ?_)
    refine AL.region follows_Try (Nat.le_refl _) (by kernel_rfl) ?_
    simp
    repeat (first | refine AL.seq ?_ | refine AL.block ?_ | refine AL.skip ?_ | refine AL.blk ?_)
    refine AL.region follows_Try (Nat.le_refl _) (by kernel_rfl) ?_
    simp
    repeat (first | refine AL.seq ?_ | refine AL.block ?_ | refine AL.skip ?_ | refine AL.blk ?_)
    refine AL.loopT (st35a a b m N M nb box) (fun y => y.i ≤ N.length ∧ TK tok nt y.tok y.nt [y.own]) (fun y => N.length - y.i) ⟨0, .full, _, _⟩ ⟨Nat.zero_le _, (TK.start htok).full⟩ (Weaks.mk (Nat.le_refl _) rfl (by simp [ToL, lk]) (by simp [BoxL, lk, pickN_zero])) ?_
    rintro ⟨i, own, tok', nt'⟩ S ⟨hi, htk⟩ hS
    simp only [st35a] at hS hi htk
    subst hS
    have hw : IntKind.i64.wrap (↑i + 1) = ((i + 1 : Nat) : Int) := by rw [wrap_in (by omega) (by omega)]; rfl
    repeat (first | refine AL.seq ?_ | refine AL.block ?_ | refine AL.skip ?_ | refine AL.blk ?_)
    refine AL.region follows_Try (Nat.le_refl _) (by kernel_rfl) ?_
    simp
    repeat (first | refine AL.seq ?_ | refine AL.block ?_ | refine AL.skip ?_ | refine AL.blk ?_)
    refine AL.cond ?_
    simp
    refine ⟨fun hlt => ?_, fun hge => ?_⟩
    · obtain ⟨x0, x1⟩ := hIn _ (List.getElem_mem hlt)
      have x2 : N[i].toNat < b.nodes.length := by omega
      repeat (first | refine AL.seq ?_ | refine AL.block ?_ | refine AL.skip ?_ | refine AL.blk ?_)
      refine AL.region follows_Try (Nat.le_refl _) (by kernel_rfl) ?_
      simp [hlt]
      repeat (first | refine AL.seq ?_ | refine AL.block ?_ | refine AL.skip ?_ | refine AL.blk ?_)
      refine AL.region follows_Try (Nat.le_refl _) (by kernel_rfl) ?_
      simp [x0, x1, x2]
      refine ⟨⟨by omega, htk.live⟩, ?_⟩
      repeat (first | refine AL.seq ?_ | refine AL.block ?_ | refine AL.skip ?_ | refine AL.blk ?_)
      refine AL.region follows_Try (Nat.le_refl _) (by kernel_rfl) ?_
      simp [hw]
      repeat (first | refine AL.seq ?_ | refine AL.block ?_ | refine AL.skip ?_ | refine AL.blk ?_)
      refine AL.nil ?_
      exact ⟨⟨i + 1, _, _, _⟩, ⟨hlt, htk.app⟩, by simp; omega, Weaks.mk htk.app.le rfl (by simp [ToL, lk]) (by simp [BoxL, lk, pickN_succ b.nodes N hlt, x2])⟩
    · repeat (first | refine AL.seq ?_ | refine AL.block ?_ | refine AL.skip ?_ | refine AL.blk ?_)
      refine AL.exit ?_
      simp only [AU, ↓reduceIte]
      have : i = N.length := by omega
      subst this
      repeat (first | refine AL.seq ?_ | refine AL.block ?_ | refine AL.skip ?_ | refine AL.blk ?_)
      refine AL.region follows_Try (Nat.le_refl _) (by kernel_rfl) ?_
      simp
      repeat (first | refine AL.seq ?_ | refine AL.block ?_ | refine AL.skip ?_ | refine AL.blk ?_)
      have htk2 := htk.tail.full
      refine AL.loopT (st35b a b m N M nb box) (fun y => y.i ≤ M.length ∧ TK tok nt y.tok y.nt [y.own]) (fun y => M.length - y.i) ⟨0, .full, _, _⟩ ⟨Nat.zero_le _, htk2⟩ (Weaks.mk htk2.le rfl (by simp [ToL, lk]) (by simp [BoxL, lk, pickE_zero])) ?_
      rintro ⟨i, own, tok', nt'⟩ S ⟨hi, htk⟩ hS
      simp only [st35b] at hS hi htk
      subst hS
      have hw : IntKind.i64.wrap (↑i + 1) = ((i + 1 : Nat) : Int) := by rw [wrap_in (by omega) (by omega)]; rfl
      repeat (first | refine AL.seq ?_ | refine AL.block ?_ | refine AL.skip ?_ | refine AL.blk ?_)
      refine AL.region follows_Try (Nat.le_refl _) (by kernel_rfl) ?_
      simp
      repeat (first | refine AL.seq ?_ | refine AL.block ?_ | refine AL.skip ?_ | refine AL.blk ?_)
      refine AL.cond ?_
      simp
      refine ⟨fun hlt => ?_, fun hge => ?_⟩
      · obtain ⟨x0, x1⟩ := hIe _ (List.getElem_mem hlt)
        have x2 : M[i].toNat < b.edges.length := by omega
        repeat (first | refine AL.seq ?_ | refine AL.block ?_ | refine AL.skip ?_ | refine AL.blk ?_)
        refine AL.region follows_Try (Nat.le_refl _) (by kernel_rfl) ?_
        simp [hlt]
        repeat (first | refine AL.seq ?_ | refine AL.block ?_ | refine AL.skip ?_ | refine AL.blk ?_)
        refine AL.region follows_Try (Nat.le_refl _) (by kernel_rfl) ?_
        simp [x0, x1, x2]
        have ge : b.edges.getD M[i].toNat default = b.edges[M[i].toNat] := by simp [x2]
        have hS := pickE_succ b.edges N M hlt
        rw [ge] at hS
        generalize b.edges[M[i].toNat] = y at *
        have hNl : N.length ≤ 1000000 := by omega
        repeat (first | refine AL.seq ?_ | refine AL.block ?_ | refine AL.skip ?_ | refine AL.blk ?_)
        refine AL.region follows_Try (Nat.le_refl _) (by kernel_rfl) ?_
        simp
        refine Stop.of_d (index_c N y.fr hNl _ _) ?_
        simp
        refine Stop.of_d (index_c N y.to hNl _ _) ?_
        simp
        refine ⟨⟨by omega, htk.live⟩, ?_⟩
        repeat (first | refine AL.seq ?_ | refine AL.block ?_ | refine AL.skip ?_ | refine AL.blk ?_)
        refine AL.region follows_Try (Nat.le_refl _) (by kernel_rfl) ?_
        simp [hw]
        repeat (first | refine AL.seq ?_ | refine AL.block ?_ | refine AL.skip ?_ | refine AL.blk ?_)
        refine AL.nil ?_
        exact ⟨⟨i + 1, _, _, _⟩, ⟨hlt, htk.app⟩, by simp; omega, Weaks.mk htk.app.le rfl (by simp [ToL, lk]) (by simp [BoxL, lk, hS])⟩
      · repeat (first | refine AL.seq ?_ | refine AL.block ?_ | refine AL.skip ?_ | refine AL.blk ?_)
        refine AL.exit ?_
        simp only [AU, ↓reduceIte]
        have : i = M.length := by omega
        subst this
        have hNl : N.length ≤ 1000000 := by omega
        have hMl : M.length ≤ 1000000 := by omega
        repeat (first | refine AL.seq ?_ | refine AL.block ?_ | refine AL.skip ?_ | refine AL.blk ?_)
        refine AL.region2 follows_Try (Nat.le_refl _) (by kernel_rfl) (Side.of (by simp)) ?_
        simp
        refine Stop.of_d (places57_c m.nodes N hmn hNl _ _) ?_
        simp
        refine Stop.of_d (places57_c m.edges M hme hMl _ _) ?_
        simp
        repeat (first | refine AL.seq ?_ | refine AL.block ?_ | refine AL.skip ?_ | refine AL.blk ?_)
        refine AL.ret ?_
        try simp only [AU]
        refine ⟨by simp, Fin.data (by simp [resAs, resA]; rfl) hbox rfl htok htk.old htk.le ?_⟩
        simp [packA, ]
  · have hb1 : (validM a b m != 0) = true := by simp [h1]
    repeat (first | refine AL.seq ?_ | refine AL.block ?_ | refine AL.skip ?_ | refine AL.blk ?_)
    refine AL.region follows_Try (Nat.le_refl _) (by kernel_rfl) ?_
    simp [hb1]
    repeat (first | refine AL.seq ?_ | refine AL.block ?_ | refine AL.skip ?_ | refine AL.blk ?_)
    refine AL.cond ?_
    simp
    repeat (first | refine AL.seq ?_ | refine AL.block ?_ | refine AL.skip ?_ | refine AL.blk ?_)
    refine AL.region follows_Try (Nat.le_refl _) (by kernel_rfl) ?_
    simp
    repeat (first | refine AL.seq ?_ | refine AL.block ?_ | refine AL.skip ?_ | refine AL.blk ?_)
    refine AL.ret ?_
    try simp only [AU]
    refine ⟨by simp, Fin.data (by simp [resAs, resA]; rfl) hbox rfl htok (fun _ h => h) (Nat.le_refl _) ?_⟩
    simp [packA, facR, h1, ints, AM.edges]
end Go.AM
namespace Go.AM
open Go Go.Proofs
set_option linter.unusedSimpArgs false
set_option linter.unusedVariables false

/-! ### Covers, Surjective, ref13.Factor -/
def covL (l : List Int) (n : Nat) : Bool := (List.range n).all fun k => decide ((k : Int) ∈ l)
theorem covL_succ (l : List Int) (n : Nat) : covL l (n + 1) = (covL l n && decide ((n : Int) ∈ l)) := by simp [covL, List.range_succ]
theorem covL_stop {l : List Int} {k n : Nat} (hk : k < n) (h : (k : Int) ∉ l) : covL l n = false := by
  unfold covL
  rw [List.all_eq_false]
  exact ⟨k, by simp [hk], by simp [h]⟩

def inK (l : List Int) (k i : Nat) : Bool := decide ((k : Int) ∈ l.take i)
theorem inK_zero (l : List Int) (k : Nat) : inK l k 0 = false := by simp [inK]
theorem inK_succ (l : List Int) (k : Nat) {i : Nat} (h : i < l.length) : inK l k (i + 1) = (inK l k i || (l[i] == (k : Int))) := by
  unfold inK
  rw [List.take_succ_eq_append_getElem h, Bool.eq_iff_iff]
  simp only [List.mem_append, List.mem_singleton, Bool.or_eq_true, decide_eq_true_eq, beq_iff_eq]
  exact ⟨fun h => h.imp id Eq.symm, fun h => h.imp id Eq.symm⟩
theorem inK_all (l : List Int) (k : Nat) : inK l k l.length = decide ((k : Int) ∈ l) := by simp [inK]

def st70a (l : List Int) (n : Nat) (nb : Nat) (box : Nat → Option (List (List AV))) (tok : Nat → Bool) (nt : Nat) (k : Nat) : AState := ⟨tl [(0, .d (ints l)), (1, I n), (5, I k)], lb nb box [], tok, nt⟩
def st70b (l : List Int) (n k : Nat) (nb : Nat) (box : Nat → Option (List (List AV))) (tok : Nat → Bool) (nt : Nat) (i : Nat) : AState := ⟨tl [(0, .d (ints l)), (1, I n), (5, I k), (6, B (inK l k i)), (7, I i)], lb nb box [], tok, nt⟩

theorem covers70_c (l : List Int) (n : Nat) (hl : l.length ≤ 1000000) (hn : n ≤ 1000000) (tok : Nat → Bool) (nt : Nat) : DCall Try.prog 70 [.d (ints l), I n] tok nt (B (covL l n)) tok nt := by
  intro box nb
  refine ACalls.of_body Try.func70 rfl (by kernel_rfl) follows_Try (by kernel_rfl) (by simp [Try.ntmps70]) ?_
  intro hbox htok
  simp only at hbox htok
  apply AL.start
  repeat (first | refine AL.seq ?_ | refine AL.block ?_ | refine AL.skip ?_ | refine AL.blk ?_)
  refine AL.region follows_Try (Nat.le_refl _) (by kernel_rfl) ?_
  simp
  repeat (first | refine AL.seq ?_ | refine AL.block ?_ | refine AL.skip ?_ | refine AL.blk ?_)
  refine AL.region follows_Try (Nat.le_refl _) (by kernel_rfl) ?_
  simp
  repeat (first | refine AL.seq ?_ | refine AL.block ?_ | refine AL.skip ?_ | refine AL.blk ?_)
  refine AL.loopT (st70a l n nb box tok nt) (fun k => k ≤ n ∧ covL l k = true) (fun k => n - k) 0 ⟨Nat.zero_le _, rfl⟩ (Weaks.mk (Nat.le_refl _) rfl (by simp [ToL]) trivial) ?_
  rintro k S ⟨hk, hok⟩ hS
  simp only [st70a] at hS
  subst hS
  have hw : IntKind.i64.wrap (↑k + 1) = ((k + 1 : Nat) : Int) := by rw [wrap_in (by omega) (by omega)]; rfl
  repeat (first | refine AL.seq ?_ | refine AL.block ?_ | refine AL.skip ?_ | refine AL.blk ?_)
  refine AL.region follows_Try (Nat.le_refl _) (by kernel_rfl) ?_
  simp
  repeat (first | refine AL.seq ?_ | refine AL.block ?_ | refine AL.skip ?_ | refine AL.blk ?_)
  refine AL.cond ?_
  simp
  refine ⟨fun hlt => ?_, fun hge => ?_⟩
  · repeat (first | refine AL.seq ?_ | refine AL.block ?_ | refine AL.skip ?_ | refine AL.blk ?_)
    refine AL.region follows_Try (Nat.le_refl _) (by kernel_rfl) ?_
    simp
    repeat (first | refine AL.seq ?_ | refine AL.block ?_ | refine AL.skip ?_ | refine AL.blk ?_)
    refine AL.region follows_Try (Nat.le_refl _) (by kernel_rfl) ?_
    simp
    repeat (first | refine AL.seq ?_ | refine AL.block ?_ | refine AL.skip ?_ | refine AL.blk ?_)
    refine AL.loopT (st70b l n k nb box tok nt) (fun i => i ≤ l.length) (fun i => l.length - i) 0 (Nat.zero_le _) (Weaks.mk (Nat.le_refl _) rfl (by simp [ToL, inK_zero]) trivial) ?_
    rintro i S hi hS
    simp only [st70b] at hS
    subst hS
    have hwi : IntKind.i64.wrap (↑i + 1) = ((i + 1 : Nat) : Int) := by rw [wrap_in (by omega) (by omega)]; rfl
    repeat (first | refine AL.seq ?_ | refine AL.block ?_ | refine AL.skip ?_ | refine AL.blk ?_)
    refine AL.region follows_Try (Nat.le_refl _) (by kernel_rfl) ?_
    simp
    repeat (first | refine AL.seq ?_ | refine AL.block ?_ | refine AL.skip ?_ | refine AL.blk ?_)
    refine AL.cond ?_
    simp
    refine ⟨fun hli => ?_, fun hge => ?_⟩
    · have hsucc := inK_succ l k hli
      generalize hf : inK l k i = f at *
      cases f
      · repeat (first | refine AL.seq ?_ | refine AL.block ?_ | refine AL.skip ?_ | refine AL.blk ?_)
        refine AL.region follows_Try (Nat.le_refl _) (by kernel_rfl) ?_
        simp [hli]
        repeat (first | refine AL.seq ?_ | refine AL.block ?_ | refine AL.skip ?_ | refine AL.blk ?_)
        refine AL.region follows_Try (Nat.le_refl _) (by kernel_rfl) ?_
        simp [hwi]
        repeat (first | refine AL.seq ?_ | refine AL.block ?_ | refine AL.skip ?_ | refine AL.blk ?_)
        refine AL.nil ?_
        have hs2 : inK l k (i + 1) = (l[i] == (k : Int)) := by rw [hsucc]; rfl
        exact ⟨i + 1, hli, by omega, Weaks.mk (Nat.le_refl _) rfl (by simp [ToL, hs2]) trivial⟩
      · repeat (first | refine AL.seq ?_ | refine AL.block ?_ | refine AL.skip ?_ | refine AL.blk ?_)
        refine AL.region follows_Try (Nat.le_refl _) (by kernel_rfl) ?_
        simp [hli]
        repeat (first | refine AL.seq ?_ | refine AL.block ?_ | refine AL.skip ?_ | refine AL.blk ?_)
        refine AL.region follows_Try (Nat.le_refl _) (by kernel_rfl) ?_
        simp [hwi]
        repeat (first | refine AL.seq ?_ | refine AL.block ?_ | refine AL.skip ?_ | refine AL.blk ?_)
        refine AL.nil ?_
        have hs2 : inK l k (i + 1) = true := by rw [hsucc]; rfl
        exact ⟨i + 1, hli, by omega, Weaks.mk (Nat.le_refl _) rfl (by simp [ToL, hs2]) trivial⟩
    · repeat (first | refine AL.seq ?_ | refine AL.block ?_ | refine AL.skip ?_ | refine AL.blk ?_)
      refine AL.exit ?_
      simp only [AU, ↓reduceIte]
      have : i = l.length := by omega
      subst this
      have ha := inK_all l k
      by_cases hm : (k : Int) ∈ l
      · have hb : inK l k l.length = true := by rw [ha]; simpa using hm
        simp only [hb]
        repeat (first | refine AL.seq ?_ | refine AL.block ?_ | refine AL.skip ?_ | refine AL.blk ?_)
        refine AL.region follows_Try (Nat.le_refl _) (by kernel_rfl) ?_
        simp
        repeat (first | refine AL.seq ?_ | refine AL.block ?_ | refine AL.skip ?_ | refine AL.blk ?_)
        refine AL.cond ?_
        simp
        repeat (first | refine AL.seq ?_ | refine AL.block ?_ | refine AL.skip ?_ | refine AL.blk ?_)
        refine AL.region follows_Try (Nat.le_refl _) (by kernel_rfl) ?_
        simp [hw]
        repeat (first | refine AL.seq ?_ | refine AL.block ?_ | refine AL.skip ?_ | refine AL.blk ?_)
        refine AL.nil ?_
        refine ⟨k + 1, ⟨hlt, ?_⟩, by omega, Weaks.mk (Nat.le_refl _) rfl (by simp [ToL]) trivial⟩
        rw [covL_succ, hok]; simpa using hm
      · have hb : inK l k l.length = false := by rw [ha]; simpa using hm
        simp only [hb]
        repeat (first | refine AL.seq ?_ | refine AL.block ?_ | refine AL.skip ?_ | refine AL.blk ?_)
        refine AL.region follows_Try (Nat.le_refl _) (by kernel_rfl) ?_
        simp
        repeat (first | refine AL.seq ?_ | refine AL.block ?_ | refine AL.skip ?_ | refine AL.blk ?_)
        refine AL.cond ?_
        simp
        repeat (first | refine AL.seq ?_ | refine AL.block ?_ | refine AL.skip ?_ | refine AL.blk ?_)
        refine AL.region follows_Try (Nat.le_refl _) (by kernel_rfl) ?_
        simp
        have hR := covL_stop hlt hm
        repeat (first | refine AL.seq ?_ | refine AL.block ?_ | refine AL.skip ?_ | refine AL.blk ?_)
        refine AL.ret ?_
        try simp only [AU]
        refine ⟨by simp, Fin.data (by simp [resAs, resA]; rfl) hbox rfl htok (fun _ h => h) (Nat.le_refl _) ?_⟩
        simp [packA, hR]
  · repeat (first | refine AL.seq ?_ | refine AL.block ?_ | refine AL.skip ?_ | refine AL.blk ?_)
    refine AL.exit ?_
    simp only [AU, ↓reduceIte]
    have : k = n := by omega
    subst this
    repeat (first | refine AL.seq ?_ | refine AL.block ?_ | refine AL.skip ?_ | refine AL.blk ?_)
    refine AL.region follows_Try (Nat.le_refl _) (by kernel_rfl) ?_
    simp
    repeat (first | refine AL.seq ?_ | refine AL.block ?_ | refine AL.skip ?_ | refine AL.blk ?_)
    refine AL.ret ?_
    try simp only [AU]
    refine ⟨by simp, Fin.data (by simp [resAs, resA]; rfl) hbox rfl htok (fun _ h => h) (Nat.le_refl _) ?_⟩
    simp [packA, hok]

def surM (a b : Gr) (m : Mo) : Bool := decide (validM a b m = 0) && (covL m.nodes b.nodes.length && covL m.edges b.edges.length)
theorem surjective38_c (a b : Gr) (m : Mo) (ha : a.Fit) (hb : b.Fit) (hm : m.Fit) (tok : Nat → Bool) (nt : Nat) : DCall Try.prog 38 [a.av, b.av, m.av] tok nt (B (surM a b m)) tok nt := by
  intro box nb
  refine ACalls.of_body Try.func38 rfl (by kernel_rfl) follows_Try (by kernel_rfl) (by simp [Try.ntmps38]) ?_
  intro hbox htok
  simp only at hbox htok
  apply AL.start
  repeat (first | refine AL.seq ?_ | refine AL.block ?_ | refine AL.skip ?_ | refine AL.blk ?_)
  refine AL.region follows_Try (Nat.le_refl _) (by kernel_rfl) ?_
  simp
  repeat (first | refine AL.seq ?_ | refine AL.block ?_ | refine AL.skip ?_ | refine AL.blk ?_)
  refine AL.region follows_Try (Nat.le_refl _) (by kernel_rfl) ?_
  simp
  refine Stop.of_d (valid53_c a b m ha hb _ _) ?_
  simp
  by_cases h1 : validM a b m = 0
  · simp [h1]
    refine Stop.of_d (covers70_c m.nodes b.nodes.length hm.n hb.n _ _) ?_
    simp [h1]
    by_cases h2 : covL m.nodes b.nodes.length = true
    · simp [h1, h2]
      refine Stop.of_d (covers70_c m.edges b.edges.length hm.e hb.e _ _) ?_
      simp [h1, h2]
      repeat (first | refine AL.seq ?_ | refine AL.block ?_ | refine AL.skip ?_ | refine AL.blk ?_)
      refine AL.ret ?_
      try simp only [AU]
      refine ⟨by simp, Fin.data (by simp [resAs, resA]; rfl) hbox rfl htok (fun _ h => h) (Nat.le_refl _) ?_⟩
      simp [packA, surM, h1, h2]
    · have h3 : covL m.nodes b.nodes.length = false := by simpa using h2
      simp only [h3]
      simp
      repeat (first | refine AL.seq ?_ | refine AL.block ?_ | refine AL.skip ?_ | refine AL.blk ?_)
      refine AL.ret ?_
      try simp only [AU]
      refine ⟨by simp, Fin.data (by simp [resAs, resA]; rfl) hbox rfl htok (fun _ h => h) (Nat.le_refl _) ?_⟩
      simp [packA, surM, h1, h3]
  · have hb1 : (validM a b m == 0) = false := by simp [h1]
    simp only [hb1]
    try simp
    repeat (first | refine AL.seq ?_ | refine AL.block ?_ | refine AL.skip ?_ | refine AL.blk ?_)
    refine AL.ret ?_
    try simp only [AU]
    refine ⟨by simp, Fin.data (by simp [resAs, resA]; rfl) hbox rfl htok (fun _ h => h) (Nat.le_refl _) ?_⟩
    simp [packA, surM, h1]
end Go.AM
namespace Go.AM
open Go Go.Proofs
set_option linter.unusedSimpArgs false
set_option linter.unusedVariables false

/-! ### ref13.Factor -/
def rkK (ns : List Int) (bit : Nat → Bool) : Nat → List Int
  | 0 => []
  | i + 1 => if bit i = true then rkK ns bit i ++ [((chN ns bit i).1.length : Int)] else rkK ns bit i ++ [0]
def rkR (ns : List Int) (bit : Nat → Bool) (n i : Nat) : List Int := rkK ns bit i ++ List.replicate (n - i) 0
theorem rkK_len (ns : List Int) (bit : Nat → Bool) : ∀ i, (rkK ns bit i).length = i
  | 0 => rfl
  | i + 1 => by
    simp only [rkK]
    split <;> simp [rkK_len ns bit i]
@[simp] theorem rkR_len (ns : List Int) (bit : Nat → Bool) {n i : Nat} (h : i ≤ n) : (rkR ns bit n i).length = n := by simp [rkR, rkK_len]; omega
theorem rkR_zero (ns : List Int) (bit : Nat → Bool) (n : Nat) : rkR ns bit n 0 = List.replicate n 0 := by simp [rkR, rkK]
theorem rkR_set (ns : List Int) (bit : Nat → Bool) {n i : Nat} (h : i < n) (v : Int) : (rkR ns bit n i).set i v = rkK ns bit i ++ [v] ++ List.replicate (n - (i + 1)) 0 := by
  have hl := rkK_len ns bit i
  have e : n - i = (n - (i + 1)) + 1 := by omega
  rw [rkR, List.set_append, if_neg (by omega), hl, Nat.sub_self, e, List.replicate_succ]
  simp
theorem rkR_skip (ns : List Int) (bit : Nat → Bool) {n i : Nat} (h : i < n) (hb : ¬ bit i = true) : rkR ns bit n i = rkR ns bit n (i + 1) := by
  have e : n - i = (n - (i + 1)) + 1 := by omega
  simp only [rkR, rkK]
  rw [if_neg hb, e, List.replicate_succ]
  simp

def inB (l : List Int) (i : Nat) : Bool := decide ((i : Int) ∈ l)
def st36a (b : Gr) (m : Mo) (nb : Nat) (box : Nat → Option (List (List AV))) (y : Acc2) : AState :=
  ⟨tl [(16, I y.i), (4, .ptr (nb + 4) 0 0), (5, .ptr (nb + 5) 0 0), (6, .ptr (nb + 6) 0 0), (7, .ptr (nb + 7) 0 0), (8, .ptr (nb + 8) 0 0), (11, .ptr (nb + 11) 0 0), (12, .ptr (nb + 12) 0 0), (13, .ptr (nb + 13) 0 0), (14, .msl (nb + 32) 0 b.nodes.length 1), (15, .msl (nb + 36) 0 b.edges.length 1)],
    lb nb box [(4, [[.d (ints b.nodes), .d (AM.edges b.edges)]]), (5, [[.d (ints m.nodes), .d (ints m.edges)]]), (6, [[.bot, .bot]]), (7, [[.bot, .bot]]), (8, [[.bot, .bot]]), (11, [[.osl 1 (rI (chN b.nodes (inB m.nodes) y.i).1) y.o1, .osl 0 [] .full]]), (12, [[.osl 1 (rI (chN b.nodes (inB m.nodes) y.i).2) y.o2, .osl 0 [] .full]]), (13, [[.osl 0 [] .full, .osl 0 [] .full]]),
      (32, rowsI (rkR b.nodes (inB m.nodes) b.nodes.length y.i)), (36, rowsI (List.replicate b.edges.length 0))], y.tok, y.nt⟩

def feE (es : List E) (bit : Nat → Bool) (R : List Int) : Nat → List E
  | 0 => []
  | i + 1 => if bit i = true then feE es bit R i ++ [⟨(es.getD i default).ty, R.getD (es.getD i default).fr.toNat 0, R.getD (es.getD i default).to.toNat 0⟩] else feE es bit R i
theorem feE_len (es : List E) (bit : Nat → Bool) (R : List Int) : ∀ i, (feE es bit R i).length = (chN [] bit i).1.length
  | 0 => rfl
  | i + 1 => by
    simp only [feE, chN]
    split <;> simp [feE_len es bit R i]
def st36b (b : Gr) (m : Mo) (R : List Int) (C : List Int × List Int) (nb : Nat) (box : Nat → Option (List (List AV))) (y : Acc2) : AState :=
  ⟨tl [(17, I y.i), (4, .ptr (nb + 4) 0 0), (5, .ptr (nb + 5) 0 0), (6, .ptr (nb + 6) 0 0), (7, .ptr (nb + 7) 0 0), (8, .ptr (nb + 8) 0 0), (11, .ptr (nb + 11) 0 0), (12, .ptr (nb + 12) 0 0), (13, .ptr (nb + 13) 0 0), (14, .msl (nb + 32) 0 R.length 1), (15, .msl (nb + 36) 0 b.edges.length 1)],
    lb nb box [(4, [[.d (ints b.nodes), .d (AM.edges b.edges)]]), (5, [[.d (ints m.nodes), .d (ints m.edges)]]), (6, [[.bot, .bot]]), (7, [[.bot, .bot]]), (8, [[.bot, .bot]]), (11, [[.d (ints C.1), .osl 3 (rE (feE b.edges (inB m.edges) R y.i)) y.o1]]), (12, [[.d (ints C.2), .osl 1 (rI (chN [] (inB m.edges) y.i).2) y.o2]]), (13, [[.osl 0 [] .full, .osl 0 [] .full]]),
      (32, rowsI R), (36, rowsI (rkR [] (inB m.edges) b.edges.length y.i))], y.tok, y.nt⟩

def rnkN (b : Gr) (m : Mo) : List Int := rkR b.nodes (inB m.nodes) b.nodes.length b.nodes.length
def rnkE (b : Gr) (m : Mo) : List Int := rkR [] (inB m.edges) b.edges.length b.edges.length
/-- What ref13.Factor computes. -/
def facS (a b : Gr) (m : Mo) : Fa :=
  if validM a b m ≠ 0 then ⟨⟨[], []⟩, ⟨[], []⟩, ⟨[], []⟩, validM a b m⟩
  else ⟨⟨(chN b.nodes (inB m.nodes) b.nodes.length).1, feE b.edges (inB m.edges) (rnkN b m) b.edges.length⟩,
    ⟨byK m.nodes (rnkN b m) m.nodes.length, byK m.edges (rnkE b m) m.edges.length⟩, ⟨(chN b.nodes (inB m.nodes) b.nodes.length).2, (chN [] (inB m.edges) b.edges.length).2⟩, 0⟩

theorem factor36_c (a b : Gr) (m : Mo) (ha : a.Fit) (hb : b.Fit) (hm : m.Fit) (tok : Nat → Bool) (nt : Nat) :
    DCall Try.prog 36 [a.av, b.av, m.av] tok nt (.tup [(facS a b m).g.av, (facS a b m).onto.av, (facS a b m).into.av, I (facS a b m).e]) tok nt := by
  intro box nb
  have hbn := hb.n
  have hbe := hb.e
  refine ACalls.of_body Try.func36 rfl (by kernel_rfl) follows_Try (by kernel_rfl) (by simp [Try.ntmps36]) ?_
  intro hbox htok
  simp only at hbox htok
  apply AL.start
  repeat (first | refine AL.seq ?_ | refine AL.block ?_ | refine AL.skip ?_ | refine AL.blk ?_)
  refine AL.region follows_Try (Nat.le_refl _) (by kernel_rfl) ?_
  simp
  repeat (first | refine AL.seq ?_ | refine AL.block ?_ | refine AL.skip ?_ | refine AL.blk ?_)
  refine AL.region follows_Try (Nat.le_refl _) (by kernel_rfl) ?_
  simp
  refine Stop.of_d (valid53_c a b m ha hb _ _) ?_
  simp
  by_cases h1 : validM a b m = 0
  · repeat (first | refine AL.seq ?_ | refine AL.block ?_ | refine AL.skip ?_ | refine AL.blk ?_)
    refine AL.region follows_Try (Nat.le_refl _) (by kernel_rfl) ?_
    simp [h1]
    repeat (first | refine AL.seq ?_ | refine AL.block ?_ | refine AL.skip ?_ | refine AL.blk ?_)
    refine AL.cond ?_
    simp
    repeat (first | refine AL.seq ?_ | refine AL.block ?_ | refine AL.skip ?_ | refine AL.blk ?_)
    refine AL.region follows_Try (Nat.le_refl _) (by kernel_rfl) ?_
    simp
    repeat (first | refine AL.seq ?_ | refine AL.block ?_ | refine AL.skip ?_ | refine AL.blk ?_)
    refine AL.region follows_Try (Nat.le_refl _) (by kernel_rfl) ?_
    simp
    repeat (first | refine AL.seq ?_ | refine AL.block ?_ | refine AL.skip ?_ | refine AL.blk ?_)
    refine AL.region follows_Try (Nat.le_refl _) (by kernel_rfl) ?_
    simp
    refine ⟨by omega, ?_⟩
    repeat (first | refine AL.seq ?_ | refine AL.block ?_ | refine AL.skip ?_ | refine AL.blk ?_)
    refine AL.region follows_Try (Nat.le_refl _) (by kernel_rfl) ?_
    simp
    refine ⟨by omega, ?_⟩
    repeat (first | refine AL.seq ?_ | refine AL.block ?_ | refine AL.skip ?_ | refine AL.blk ?_)
    refine AL.region follows_Try (Nat.le_refl _) (by kernel_rfl) ?_
    simp
    repeat (first | refine AL.seq ?_ | refine AL.block ?_ | refine AL.skip ?_ | refine AL.blk ?_)
    have v := validM_VM h1
    have hxb := validG_edges v.vb
    have hmn := hm.n
    have hme := hm.e
    have htk0 := (TK.start htok).full.full
    refine AL.loopT (st36a b m nb box) (fun y => y.i ≤ b.nodes.length ∧ TK tok nt y.tok y.nt [y.o1, y.o2]) (fun y => b.nodes.length - y.i) ⟨0, .full, .full, _, _⟩ ⟨Nat.zero_le _, htk0⟩ (Weaks.mk htk0.le rfl (by simp [ToL, lk]) (by simp [BoxL, lk, chN, rkR_zero])) ?_
    rintro ⟨i, o1, o2, tok', nt'⟩ S ⟨hi, htk⟩ hS
    simp only [st36a] at hS hi htk
    subst hS
    have hw : IntKind.i64.wrap (↑i + 1) = ((i + 1 : Nat) : Int) := by rw [wrap_in (by omega) (by omega)]; rfl
    have hln := chN_len b.nodes (inB m.nodes) i
    repeat (first | refine AL.seq ?_ | refine AL.block ?_ | refine AL.skip ?_ | refine AL.blk ?_)
    refine AL.region follows_Try (Nat.le_refl _) (by kernel_rfl) ?_
    simp
    repeat (first | refine AL.seq ?_ | refine AL.block ?_ | refine AL.skip ?_ | refine AL.blk ?_)
    refine AL.cond ?_
    simp
    refine ⟨fun hlt => ?_, fun hge => ?_⟩
    · have gb : b.nodes.getD i 0 = b.nodes[i] := by simp [hlt]
      repeat (first | refine AL.seq ?_ | refine AL.block ?_ | refine AL.skip ?_ | refine AL.blk ?_)
      refine AL.region follows_Try (Nat.le_refl _) (by kernel_rfl) ?_
      simp
      refine Stop.of_d (in_c m.nodes i hmn _ _) ?_
      simp
      by_cases hbit : (i : Int) ∈ m.nodes
      · have hbi : inB m.nodes i = true := by unfold inB; simpa using hbit
        simp [hbit]
        repeat (first | refine AL.seq ?_ | refine AL.block ?_ | refine AL.skip ?_ | refine AL.blk ?_)
        refine AL.cond ?_
        simp
        repeat (first | refine AL.seq ?_ | refine AL.block ?_ | refine AL.skip ?_ | refine AL.blk ?_)
        refine AL.region follows_Try (Nat.le_refl _) (by kernel_rfl) ?_
        simp [hlt, hi]
        repeat (first | refine AL.seq ?_ | refine AL.block ?_ | refine AL.skip ?_ | refine AL.blk ?_)
        refine AL.region follows_Try (Nat.le_refl _) (by kernel_rfl) ?_
        simp [hlt]
        refine ⟨⟨by omega, htk.live⟩, ?_⟩
        repeat (first | refine AL.seq ?_ | refine AL.block ?_ | refine AL.skip ?_ | refine AL.blk ?_)
        refine AL.region follows_Try (Nat.le_refl _) (by kernel_rfl) ?_
        simp
        refine ⟨⟨by omega, by simpa using htk.app.swap.live⟩, ?_⟩
        have htk2 := htk.app.swap.app.swap
        repeat (first | refine AL.seq ?_ | refine AL.block ?_ | refine AL.skip ?_ | refine AL.blk ?_)
        refine AL.region follows_Try (Nat.le_refl _) (by kernel_rfl) ?_
        simp [hw]
        repeat (first | refine AL.seq ?_ | refine AL.block ?_ | refine AL.skip ?_ | refine AL.blk ?_)
        refine AL.nil ?_
        have hC : chN b.nodes (inB m.nodes) (i + 1) = ((chN b.nodes (inB m.nodes) i).1 ++ [b.nodes[i]], (chN b.nodes (inB m.nodes) i).2 ++ [(i : Int)]) := by simp only [chN]; rw [if_pos hbi, gb]
        have hA : (rkR b.nodes (inB m.nodes) b.nodes.length i).set i ((chN b.nodes (inB m.nodes) i).1.length : Int) = rkR b.nodes (inB m.nodes) b.nodes.length (i + 1) := by rw [rkR_set _ _ hlt]; simp only [rkR, rkK]; rw [if_pos hbi]
        exact ⟨⟨i + 1, _, _, _, _⟩, ⟨hlt, htk2⟩, by simp; omega, Weaks.mk htk2.le rfl (by simp [ToL, lk]) (by simp [BoxL, lk, hC, hA])⟩
      · have hbi : ¬ inB m.nodes i = true := by unfold inB; simpa using hbit
        simp [hbit]
        repeat (first | refine AL.seq ?_ | refine AL.block ?_ | refine AL.skip ?_ | refine AL.blk ?_)
        refine AL.cond ?_
        simp
        repeat (first | refine AL.seq ?_ | refine AL.block ?_ | refine AL.skip ?_ | refine AL.blk ?_)
        refine AL.region follows_Try (Nat.le_refl _) (by kernel_rfl) ?_
        simp [hw]
        repeat (first | refine AL.seq ?_ | refine AL.block ?_ | refine AL.skip ?_ | refine AL.blk ?_)
        refine AL.nil ?_
        have hC : chN b.nodes (inB m.nodes) (i + 1) = chN b.nodes (inB m.nodes) i := by simp only [chN]; rw [if_neg hbi]
        have hA := rkR_skip b.nodes (inB m.nodes) hlt hbi
        exact ⟨⟨i + 1, _, _, _, _⟩, ⟨hlt, htk⟩, by simp; omega, Weaks.mk htk.le rfl (by simp [ToL, lk]) (by simp [BoxL, lk, hC, ← hA])⟩
    · repeat (first | refine AL.seq ?_ | refine AL.block ?_ | refine AL.skip ?_ | refine AL.blk ?_)
      refine AL.exit ?_
      simp only [AU, ↓reduceIte]
      have : i = b.nodes.length := by omega
      subst this
      repeat (first | refine AL.seq ?_ | refine AL.block ?_ | refine AL.skip ?_ | refine AL.blk ?_)
      refine AL.region follows_Try (Nat.le_refl _) (by kernel_rfl) ?_
      simp
      repeat (first | refine AL.seq ?_ | refine AL.block ?_ | refine AL.skip ?_ | refine AL.blk ?_)
      have htk3 := htk.tail.tail.full.full
      have hRl : (rkR b.nodes (inB m.nodes) b.nodes.length b.nodes.length).length = b.nodes.length := by simp
      generalize hRd : rkR b.nodes (inB m.nodes) b.nodes.length b.nodes.length = R at *
      generalize hCd : chN b.nodes (inB m.nodes) b.nodes.length = C at *
      refine AL.loopT (st36b b m R C nb box) (fun y => y.i ≤ b.edges.length ∧ TK tok nt y.tok y.nt [y.o1, y.o2]) (fun y => b.edges.length - y.i) ⟨0, .full, .full, _, _⟩ ⟨Nat.zero_le _, htk3⟩ (Weaks.mk htk3.le rfl (by simp [ToL, lk, hRl]) (by simp [BoxL, lk, chN, feE, rkR_zero])) ?_
      rintro ⟨i, o1, o2, tok', nt'⟩ S ⟨hi, htk⟩ hS
      simp only [st36b] at hS hi htk
      subst hS
      have hw : IntKind.i64.wrap (↑i + 1) = ((i + 1 : Nat) : Int) := by rw [wrap_in (by omega) (by omega)]; rfl
      have hln := chN_len [] (inB m.edges) i
      have hfl := feE_len b.edges (inB m.edges) R i
      repeat (first | refine AL.seq ?_ | refine AL.block ?_ | refine AL.skip ?_ | refine AL.blk ?_)
      refine AL.region follows_Try (Nat.le_refl _) (by kernel_rfl) ?_
      simp
      repeat (first | refine AL.seq ?_ | refine AL.block ?_ | refine AL.skip ?_ | refine AL.blk ?_)
      refine AL.cond ?_
      simp
      refine ⟨fun hlt => ?_, fun hge => ?_⟩
      · have gb : b.edges.getD i default = b.edges[i] := by simp [hlt]
        obtain ⟨x1, x2, x3, x4⟩ := hxb _ (List.getElem_mem hlt)
        have y1 : b.edges[i].fr.toNat < R.length := by omega
        have y2 : b.edges[i].to.toNat < R.length := by omega
        have z1 : b.edges[i].fr < (R.length : Int) := by omega
        have z2 : b.edges[i].to < (R.length : Int) := by omega
        have gR1 : R.getD b.edges[i].fr.toNat 0 = R[b.edges[i].fr.toNat] := by simp [y1]
        have gR2 : R.getD b.edges[i].to.toNat 0 = R[b.edges[i].to.toNat] := by simp [y2]
        repeat (first | refine AL.seq ?_ | refine AL.block ?_ | refine AL.skip ?_ | refine AL.blk ?_)
        refine AL.region follows_Try (Nat.le_refl _) (by kernel_rfl) ?_
        simp
        refine Stop.of_d (in_c m.edges i hme _ _) ?_
        simp
        by_cases hbit : (i : Int) ∈ m.edges
        · have hbi : inB m.edges i = true := by unfold inB; simpa using hbit
          simp [hbit]
          repeat (first | refine AL.seq ?_ | refine AL.block ?_ | refine AL.skip ?_ | refine AL.blk ?_)
          refine AL.cond ?_
          simp
          repeat (first | refine AL.seq ?_ | refine AL.block ?_ | refine AL.skip ?_ | refine AL.blk ?_)
          refine AL.region follows_Try (Nat.le_refl _) (by kernel_rfl) ?_
          simp [hlt]
          repeat (first | refine AL.seq ?_ | refine AL.block ?_ | refine AL.skip ?_ | refine AL.blk ?_)
          refine AL.region follows_Try (Nat.le_refl _) (by kernel_rfl) ?_
          simp [hlt, hi]
          repeat (first | refine AL.seq ?_ | refine AL.block ?_ | refine AL.skip ?_ | refine AL.blk ?_)
          refine AL.region follows_Try (Nat.le_refl _) (by kernel_rfl) ?_
          simp [x1, x3, y1, y2, z1, z2]
          refine ⟨⟨by omega, htk.live⟩, ?_⟩
          repeat (first | refine AL.seq ?_ | refine AL.block ?_ | refine AL.skip ?_ | refine AL.blk ?_)
          refine AL.region follows_Try (Nat.le_refl _) (by kernel_rfl) ?_
          simp
          refine ⟨⟨by omega, by simpa using htk.app.swap.live⟩, ?_⟩
          have htk2 := htk.app.swap.app.swap
          repeat (first | refine AL.seq ?_ | refine AL.block ?_ | refine AL.skip ?_ | refine AL.blk ?_)
          refine AL.region follows_Try (Nat.le_refl _) (by kernel_rfl) ?_
          simp [hw]
          repeat (first | refine AL.seq ?_ | refine AL.block ?_ | refine AL.skip ?_ | refine AL.blk ?_)
          refine AL.nil ?_
          have hC : chN [] (inB m.edges) (i + 1) = ((chN [] (inB m.edges) i).1 ++ [0], (chN [] (inB m.edges) i).2 ++ [(i : Int)]) := by simp only [chN]; rw [if_pos hbi]; rfl
          have hF : feE b.edges (inB m.edges) R (i + 1) = feE b.edges (inB m.edges) R i ++ [⟨b.edges[i].ty, R[b.edges[i].fr.toNat], R[b.edges[i].to.toNat]⟩] := by simp only [feE, gb, gR1, gR2]; rw [if_pos hbi]
          have hA : (rkR [] (inB m.edges) b.edges.length i).set i ((feE b.edges (inB m.edges) R i).length : Int) = rkR [] (inB m.edges) b.edges.length (i + 1) := by rw [rkR_set _ _ hlt, hfl]; simp only [rkR, rkK]; rw [if_pos hbi]
          exact ⟨⟨i + 1, _, _, _, _⟩, ⟨hlt, htk2⟩, by simp; omega, Weaks.mk htk2.le rfl (by simp [ToL, lk]) (by simp [BoxL, lk, hC, hF, hA])⟩
        · have hbi : ¬ inB m.edges i = true := by unfold inB; simpa using hbit
          simp [hbit]
          repeat (first | refine AL.seq ?_ | refine AL.block ?_ | refine AL.skip ?_ | refine AL.blk ?_)
          refine AL.cond ?_
          simp
          repeat (first | refine AL.seq ?_ | refine AL.block ?_ | refine AL.skip ?_ | refine AL.blk ?_)
          refine AL.region follows_Try (Nat.le_refl _) (by kernel_rfl) ?_
          simp [hw]
          repeat (first | refine AL.seq ?_ | refine AL.block ?_ | refine AL.skip ?_ | refine AL.blk ?_)
          refine AL.nil ?_
          have hC : chN [] (inB m.edges) (i + 1) = chN [] (inB m.edges) i := by simp only [chN]; rw [if_neg hbi]
          have hF : feE b.edges (inB m.edges) R (i + 1) = feE b.edges (inB m.edges) R i := by simp only [feE]; rw [if_neg hbi]
          have hA := rkR_skip [] (inB m.edges) hlt hbi
          exact ⟨⟨i + 1, _, _, _, _⟩, ⟨hlt, htk⟩, by simp; omega, Weaks.mk htk.le rfl (by simp [ToL, lk]) (by simp [BoxL, lk, hC, hF, ← hA])⟩
      · repeat (first | refine AL.seq ?_ | refine AL.block ?_ | refine AL.skip ?_ | refine AL.blk ?_)
        refine AL.exit ?_
        simp only [AU, ↓reduceIte]
        have : i = b.edges.length := by omega
        subst this
        have hR2l : (rkR [] (inB m.edges) b.edges.length b.edges.length).length = b.edges.length := by simp
        generalize hR2d : rkR [] (inB m.edges) b.edges.length b.edges.length = R2 at *
        generalize hFd : feE b.edges (inB m.edges) R b.edges.length = F at *
        generalize hKd : (chN [] (inB m.edges) b.edges.length).2 = K at *
        refine AL.weak (Weaks.frz (l' := [(5, .ptr (nb + 5) 0 0), (6, .ptr (nb + 6) 0 0), (7, .ptr (nb + 7) 0 0), (8, .ptr (nb + 8) 0 0), (11, .ptr (nb + 11) 0 0), (12, .ptr (nb + 12) 0 0), (13, .ptr (nb + 13) 0 0), (14, .d (ints R)), (15, .msl (nb + 36) 0 R2.length 1)])
          (loc' := [(5, [[.d (ints m.nodes), .d (ints m.edges)]]), (6, [[.bot, .bot]]), (7, [[.bot, .bot]]), (8, [[.bot, .bot]]), (11, [[.d (ints C.1), .d (AM.edges F)]]), (12, [[.d (ints C.2), .d (ints K)]]), (13, [[.osl 0 [] .full, .osl 0 [] .full]]), (36, rowsI R2)])
          32 1 (rI R) htk.le rfl (by simp [lk, rowsI_eq]) (by simp [lk]) (by simp) (by simp [ToL, lk, hRl, hR2l]) (by simp [BoxL, lk])) ?_
        refine AL.weak (Weaks.frz (l' := [(5, .ptr (nb + 5) 0 0), (6, .ptr (nb + 6) 0 0), (7, .ptr (nb + 7) 0 0), (8, .ptr (nb + 8) 0 0), (11, .ptr (nb + 11) 0 0), (12, .ptr (nb + 12) 0 0), (13, .ptr (nb + 13) 0 0), (14, .d (ints R)), (15, .d (ints R2))])
          (loc' := [(5, [[.d (ints m.nodes), .d (ints m.edges)]]), (6, [[.bot, .bot]]), (7, [[.bot, .bot]]), (8, [[.bot, .bot]]), (11, [[.d (ints C.1), .d (AM.edges F)]]), (12, [[.d (ints C.2), .d (ints K)]]), (13, [[.osl 0 [] .full, .osl 0 [] .full]])])
          36 1 (rI R2) htk.le rfl (by simp [lk, rowsI_eq]) (by simp [lk]) (by simp) (by simp [ToL, lk]) (by simp [BoxL, lk])) ?_
        repeat (first | refine AL.seq ?_ | refine AL.block ?_ | refine AL.skip ?_ | refine AL.blk ?_)
        refine AL.region follows_Try (Nat.le_refl _) (by kernel_rfl) ?_
        simp
        refine Stop.of_d (through68_c m.nodes R hmn (fun x hx => by have := v.n x hx; omega) _ _) ?_
        simp
        repeat (first | refine AL.seq ?_ | refine AL.block ?_ | refine AL.skip ?_ | refine AL.blk ?_)
        refine AL.region follows_Try (Nat.le_refl _) (by kernel_rfl) ?_
        simp
        refine Stop.of_d (through68_c m.edges R2 hme (fun x hx => by have := v.e x hx; omega) _ _) ?_
        simp
        repeat (first | refine AL.seq ?_ | refine AL.block ?_ | refine AL.skip ?_ | refine AL.blk ?_)
        refine AL.region2 follows_Try (Nat.le_refl _) (by kernel_rfl) (Side.of (by simp)) ?_
        simp
        have hRes : facS a b m = ⟨⟨C.1, F⟩, ⟨byK m.nodes R m.nodes.length, byK m.edges R2 m.edges.length⟩, ⟨C.2, K⟩, 0⟩ := by
          simp only [facS, rnkN, rnkE, hRd, hCd, hR2d, hFd, hKd]; rw [if_neg (by simp [h1])]
        repeat (first | refine AL.seq ?_ | refine AL.block ?_ | refine AL.skip ?_ | refine AL.blk ?_)
        refine AL.ret ?_
        try simp only [AU]
        refine ⟨by simp, Fin.data (by simp [resAs, resA]; rfl) hbox rfl htok htk.old htk.le ?_⟩
        simp [packA, hRes]
  · have hb1 : (validM a b m != 0) = true := by simp [h1]
    repeat (first | refine AL.seq ?_ | refine AL.block ?_ | refine AL.skip ?_ | refine AL.blk ?_)
    refine AL.region follows_Try (Nat.le_refl _) (by kernel_rfl) ?_
    simp [hb1]
    repeat (first | refine AL.seq ?_ | refine AL.block ?_ | refine AL.skip ?_ | refine AL.blk ?_)
    refine AL.cond ?_
    simp
    repeat (first | refine AL.seq ?_ | refine AL.block ?_ | refine AL.skip ?_ | refine AL.blk ?_)
    refine AL.region follows_Try (Nat.le_refl _) (by kernel_rfl) ?_
    simp
    repeat (first | refine AL.seq ?_ | refine AL.block ?_ | refine AL.skip ?_ | refine AL.blk ?_)
    refine AL.ret ?_
    try simp only [AU]
    refine ⟨by simp, Fin.data (by simp [resAs, resA]; rfl) hbox rfl htok (fun _ h => h) (Nat.le_refl _) ?_⟩
    simp [packA, facS, h1, ints, AM.edges]
end Go.AM
/-
  The plain law of Factor: what the two programs compute is one. No program in sight.
-/
namespace Go.AM
open Go
set_option linter.unusedSimpArgs false
set_option linter.unusedVariables false

theorem lt_sorted_ext : ∀ {l k : List Int}, l.Pairwise (· < ·) → k.Pairwise (· < ·) → (∀ x, x ∈ l ↔ x ∈ k) → l = k
  | [], [], _, _, _ => rfl
  | [], y :: k, _, _, h => by have := (h y).2 (by simp); simp at this
  | x :: l, [], _, _, h => by have := (h x).1 (by simp); simp at this
  | x :: l, y :: k, hl, hk, h => by
    have hl' := List.pairwise_cons.1 hl
    have hk' := List.pairwise_cons.1 hk
    have e : x = y := by
      rcases List.mem_cons.1 ((h x).1 (by simp)) with e | hx
      · exact e
      · rcases List.mem_cons.1 ((h y).2 (by simp)) with e | hy
        · exact e.symm
        · have a1 := hk'.1 x hx
          have a2 := hl'.1 y hy
          omega
    subst e
    rw [lt_sorted_ext hl'.2 hk'.2 fun z => ?_]
    constructor
    · intro hz
      rcases List.mem_cons.1 ((h z).1 (by simp [hz])) with e | hz'
      · have := hl'.1 z hz; omega
      · exact hz'
    · intro hz
      rcases List.mem_cons.1 ((h z).2 (by simp [hz])) with e | hz'
      · have := hk'.1 z hz; omega
      · exact hz'

theorem chN_sorted (ns : List Int) (bit : Nat → Bool) : ∀ i, (chN ns bit i).2.Pairwise (· < ·) ∧ ∀ x, x ∈ (chN ns bit i).2 ↔ ∃ j : Nat, j < i ∧ bit j = true ∧ x = j
  | 0 => ⟨by simp [chN], fun x => ⟨fun h => by simp [chN] at h, fun ⟨j, hj, _⟩ => absurd hj (Nat.not_lt_zero _)⟩⟩
  | i + 1 => by
    obtain ⟨h1, h2⟩ := chN_sorted ns bit i
    simp only [chN]
    by_cases hb : bit i = true
    · rw [if_pos hb]
      refine ⟨List.pairwise_append.2 ⟨h1, List.pairwise_singleton _ _, fun x hx y hy => ?_⟩, fun x => ?_⟩
      · rw [List.mem_singleton] at hy
        obtain ⟨j, hj, _, e⟩ := (h2 x).1 hx
        omega
      · rw [List.mem_append, List.mem_singleton, h2]
        constructor
        · rintro (⟨j, hj, hbj, e⟩ | e)
          · exact ⟨j, by omega, hbj, e⟩
          · exact ⟨i, by omega, hb, e⟩
        · rintro ⟨j, hj, hbj, e⟩
          by_cases ej : j = i
          · subst ej; exact .inr e
          · exact .inl ⟨j, by omega, hbj, e⟩
    · rw [if_neg hb]
      refine ⟨h1, fun x => ?_⟩
      rw [h2]
      constructor
      · rintro ⟨j, hj, hbj, e⟩; exact ⟨j, by omega, hbj, e⟩
      · rintro ⟨j, hj, hbj, e⟩
        by_cases ej : j = i
        · subst ej; exact absurd hbj hb
        · exact ⟨j, by omega, hbj, e⟩

theorem chN_images (ns l : List Int) (n : Nat) (h : ∀ x ∈ l, 0 ≤ x ∧ x < n) : (chN ns (inB l) n).2 = imagesI l := by
  obtain ⟨h1, h2⟩ := chN_sorted ns (inB l) n
  refine lt_sorted_ext h1 (imagesI_sorted l) fun x => ?_
  rw [h2, imagesI_mem]
  constructor
  · rintro ⟨j, _, hb, rfl⟩
    unfold inB at hb
    simpa using hb
  · intro hx
    have := h x hx
    exact ⟨x.toNat, by omega, by unfold inB; rw [Int.toNat_of_nonneg this.1]; simpa using hx, by omega⟩

theorem rkK_spot (ns : List Int) (bit : Nat → Bool) : ∀ i, ∀ j, j < i → bit j = true → ∃ r : Nat, (rkK ns bit i).getD j 0 = r ∧ r < (chN ns bit i).2.length ∧ (chN ns bit i).2.getD r 0 = j
  | 0, j, hj, _ => absurd hj (Nat.not_lt_zero _)
  | i + 1, j, hj, hbj => by
    have hl := rkK_len ns bit i
    have hc := (chN_len ns bit i).2
    simp only [rkK, chN]
    by_cases hb : bit i = true
    · rw [if_pos hb, if_pos hb]
      by_cases e : j = i
      · subst e
        refine ⟨(chN ns bit j).1.length, ?_, by simp [hc], ?_⟩
        · have : (rkK ns bit j ++ [((chN ns bit j).1.length : Int)]).getD (rkK ns bit j).length 0 = ((chN ns bit j).1.length : Int) := getD_at
          rw [hl] at this; exact this
        · simp only
          rw [← hc]; exact getD_at
      · obtain ⟨r, h1, h2, h3⟩ := rkK_spot ns bit i j (by omega) hbj
        exact ⟨r, by rw [getD_lt (by omega)]; exact h1, by simp; omega, by simp only; rw [getD_lt h2]; exact h3⟩
    · rw [if_neg hb, if_neg hb]
      have e : j ≠ i := fun e => hb (e ▸ hbj)
      obtain ⟨r, h1, h2, h3⟩ := rkK_spot ns bit i j (by omega) hbj
      exact ⟨r, by rw [getD_lt (by omega)]; exact h1, h2, h3⟩

theorem rank_index (ns l : List Int) (n : Nat) (h : ∀ x ∈ l, 0 ≤ x ∧ x < n) {x : Int} (hx : x ∈ l) : (rkR ns (inB l) n n).getD x.toNat 0 = indexI (imagesI l) x := by
  have hb := h x hx
  obtain ⟨r, h1, h2, h3⟩ := rkK_spot ns (inB l) n x.toNat (by omega) (by unfold inB; rw [Int.toNat_of_nonneg hb.1]; simpa using hx)
  have e : rkR ns (inB l) n n = rkK ns (inB l) n := by simp [rkR]
  rw [e, h1]
  rw [chN_images ns l n h] at h2 h3
  have hn : (imagesI l).Nodup := (imagesI_sorted l).imp fun h => by omega
  have := indexI_at hn h2
  rw [h3, Int.toNat_of_nonneg hb.1] at this
  exact this.symm

theorem feE_map (es : List E) (bit : Nat → Bool) (R : List Int) : ∀ i, feE es bit R i = (chN [] bit i).2.map fun j => ⟨(es.getD j.toNat default).ty, R.getD (es.getD j.toNat default).fr.toNat 0, R.getD (es.getD j.toNat default).to.toNat 0⟩
  | 0 => rfl
  | i + 1 => by
    simp only [feE, chN]
    by_cases hb : bit i = true
    · rw [if_pos hb, if_pos hb, feE_map es bit R i]; simp
    · rw [if_neg hb, if_neg hb, feE_map es bit R i]
theorem chN_map (ns : List Int) (bit : Nat → Bool) : ∀ i, (chN ns bit i).1 = (chN ns bit i).2.map fun j => ns.getD j.toNat 0
  | 0 => rfl
  | i + 1 => by
    simp only [chN]
    by_cases hb : bit i = true
    · rw [if_pos hb, List.map_append, ← chN_map ns bit i]; simp
    · rw [if_neg hb, chN_map ns bit i]

theorem facS_facR {a b : Gr} {m : Mo} : facS a b m = facR a b m := by
  by_cases h : validM a b m = 0
  · have v := validM_VM h
    have ea := validG_edges v.va
    have c1 := chN_images b.nodes m.nodes b.nodes.length v.n
    have c2 := chN_images [] m.edges b.edges.length v.e
    have k1 : (chN b.nodes (inB m.nodes) b.nodes.length).1 = pickN b.nodes (imagesI m.nodes) (imagesI m.nodes).length := by
      rw [chN_map, c1]; simp [pickN]
    have k2 : feE b.edges (inB m.edges) (rnkN b m) b.edges.length = pickE b.edges (imagesI m.nodes) (imagesI m.edges) (imagesI m.edges).length := by
      rw [feE_map, c2]
      simp only [pickE, List.take_length]
      refine List.map_congr_left fun j hj => ?_
      obtain ⟨q, hq, e⟩ := mem_getD ((imagesI_mem _ _).1 hj)
      have hq' : q < a.edges.length := by rw [← v.le]; exact hq
      have t := v.et q hq'
      rw [e] at t
      obtain ⟨a1, a2, a3, a4⟩ := ea _ (getD_mem (d := default) hq')
      have f1 : (b.edges.getD j.toNat default).fr ∈ m.nodes := by rw [t]; exact getD_mem (by rw [v.ln]; omega)
      have f2 : (b.edges.getD j.toNat default).to ∈ m.nodes := by rw [t]; exact getD_mem (by rw [v.ln]; omega)
      rw [rnkN, rank_index _ _ _ v.n f1, rank_index _ _ _ v.n f2]
    have k3 : byK m.nodes (rnkN b m) m.nodes.length = placesK m.nodes (imagesI m.nodes) m.nodes.length := by
      simp only [byK, placesK, List.take_length]
      exact List.map_congr_left fun x hx => rank_index _ _ _ v.n hx
    have k4 : byK m.edges (rnkE b m) m.edges.length = placesK m.edges (imagesI m.edges) m.edges.length := by
      simp only [byK, placesK, List.take_length]
      exact List.map_congr_left fun x hx => rank_index _ _ _ v.e hx
    unfold facS facR
    rw [if_neg (by simp [h]), if_neg (by simp [h]), k1, k2, k3, k4, c1, c2]
  · unfold facS facR
    rw [if_pos h, if_pos h]
end Go.AM
/-
  The plain law of Factor, second part: the two factors are morphisms, compose to the given one, the first onto, the second injective. No program in sight.
-/
namespace Go.AM
open Go
set_option linter.unusedSimpArgs false
set_option linter.unusedVariables false

theorem indexI_mem {N : List Int} {x : Int} (hx : x ∈ N) : ∃ r : Nat, r < N.length ∧ indexI N x = r ∧ N.getD r 0 = x := by
  rcases indexI_cases N x with ⟨h, _⟩ | h
  · exact absurd hx h
  · exact h

theorem fac_law {a b : Gr} {m : Mo} (h : validM a b m = 0) : (facR a b m).e = 0 ∧ compM a (facR a b m).g b (facR a b m).onto (facR a b m).into = (m, 0) ∧ surM a (facR a b m).g (facR a b m).onto = true ∧ injM (facR a b m).g b (facR a b m).into = true := by
  have v := validM_VM h
  obtain ⟨tb, tbn, tbe⟩ := validG_types v.vb
  obtain ⟨ta, _, _⟩ := validG_types v.va
  have ea := validG_edges v.va
  have eR : facR a b m = ⟨⟨pickN b.nodes (imagesI m.nodes) (imagesI m.nodes).length, pickE b.edges (imagesI m.nodes) (imagesI m.edges) (imagesI m.edges).length⟩,
    ⟨placesK m.nodes (imagesI m.nodes) m.nodes.length, placesK m.edges (imagesI m.edges) m.edges.length⟩, ⟨imagesI m.nodes, imagesI m.edges⟩, 0⟩ := by simp [facR, h]
  rw [eR]
  simp only
  have mN : ∀ x, x ∈ imagesI m.nodes ↔ x ∈ m.nodes := imagesI_mem _
  have mM : ∀ x, x ∈ imagesI m.edges ↔ x ∈ m.edges := imagesI_mem _
  have nN : (imagesI m.nodes).Nodup := (imagesI_sorted _).imp fun h => by omega
  have nM : (imagesI m.edges).Nodup := (imagesI_sorted _).imp fun h => by omega
  generalize imagesI m.nodes = N at *
  generalize imagesI m.edges = M at *
  have bN : ∀ x ∈ N, 0 ≤ x ∧ x < b.nodes.length := fun x hx => v.n x ((mN x).1 hx)
  have bM : ∀ x ∈ M, 0 ≤ x ∧ x < b.edges.length := fun x hx => v.e x ((mM x).1 hx)
  have lN := nodup_bound nN bN
  have lM := nodup_bound nM bM
  have gN : ∀ i, i < N.length → (pickN b.nodes N N.length).getD i 0 = b.nodes.getD (N.getD i 0).toNat 0 := fun i hi => by simp [pickN, hi]
  have gM : ∀ i, i < M.length → (pickE b.edges N M M.length).getD i default = ⟨(b.edges.getD (M.getD i 0).toNat default).ty, indexI N (b.edges.getD (M.getD i 0).toNat default).fr, indexI N (b.edges.getD (M.getD i 0).toNat default).to⟩ := fun i hi => by simp [pickE, hi]
  -- the ends of a chosen edge are chosen
  have ends : ∀ j ∈ M, (b.edges.getD j.toNat default).fr ∈ N ∧ (b.edges.getD j.toNat default).to ∈ N := fun j hj => by
    obtain ⟨q, hq, e⟩ := mem_getD ((mM j).1 hj)
    have hq' : q < a.edges.length := by rw [← v.le]; exact hq
    have t := v.et q hq'
    rw [e] at t
    obtain ⟨a1, a2, a3, a4⟩ := ea _ (getD_mem (d := default) hq')
    rw [mN, mN, t]
    exact ⟨getD_mem (by rw [v.ln]; omega), getD_mem (by rw [v.ln]; omega)⟩
  have hv : validG ⟨pickN b.nodes N N.length, pickE b.edges N M M.length⟩ = 0 := by
    refine validG_of (by simp; omega) (fun n hn => ?_) fun e he => ?_
    · simp only [pickN, List.take_length, List.mem_map] at hn
      obtain ⟨j, hj, rfl⟩ := hn
      exact tbn _ (getD_mem (by have := bN j hj; omega))
    · simp only [pickE, List.take_length, List.mem_map] at he
      obtain ⟨j, hj, rfl⟩ := he
      have hj2 := bM j hj
      have t := (fitsB_iff _ _).1 (tbe _ (getD_mem (d := default) (show j.toNat < b.edges.length by omega)))
      obtain ⟨f1, f2⟩ := ends j hj
      obtain ⟨r1, q1, q2, _⟩ := indexI_mem f1
      obtain ⟨r2, p1, p2, _⟩ := indexI_mem f2
      rw [fitsB_iff]
      simp only [pickN_len, Nat.min_self]
      exact ⟨t.1, by omega, by omega⟩
  have rN : ∀ x ∈ placesK m.nodes N m.nodes.length, 0 ≤ x ∧ x < N.length := fun x hx => by
    simp only [placesK, List.take_length, List.mem_map] at hx
    obtain ⟨y, hy, rfl⟩ := hx
    obtain ⟨r, q1, q2, _⟩ := indexI_mem ((mN y).2 hy)
    omega
  have rM : ∀ x ∈ placesK m.edges M m.edges.length, 0 ≤ x ∧ x < M.length := fun x hx => by
    simp only [placesK, List.take_length, List.mem_map] at hx
    obtain ⟨y, hy, rfl⟩ := hx
    obtain ⟨r, q1, q2, _⟩ := indexI_mem ((mM y).2 hy)
    omega
  have v1 : VM a ⟨pickN b.nodes N N.length, pickE b.edges N M M.length⟩ ⟨placesK m.nodes N m.nodes.length, placesK m.edges M m.edges.length⟩ := by
    refine ⟨v.va, hv, by simp [v.ln], by simp [v.le], by simpa using rN, by simpa using rM, fun i hi => ?_, fun i hi => ?_⟩
    · have hi' : i < m.nodes.length := by rw [v.ln]; exact hi
      obtain ⟨r, q1, q2, q3⟩ := indexI_mem ((mN _).2 (getD_mem (d := 0) hi'))
      simp only
      rw [placesK_getD hi', q2, Int.toNat_natCast, gN r q1, q3]
      exact v.nt i hi
    · have hi' : i < m.edges.length := by rw [v.le]; exact hi
      obtain ⟨r, q1, q2, q3⟩ := indexI_mem ((mM _).2 (getD_mem (d := 0) hi'))
      obtain ⟨a1, a2, a3, a4⟩ := ea _ (getD_mem (d := default) hi)
      simp only
      rw [placesK_getD hi', q2, Int.toNat_natCast, gM r q1, q3, v.et i hi, placesK_getD (by rw [v.ln]; omega), placesK_getD (by rw [v.ln]; omega)]
  have v2 : VM ⟨pickN b.nodes N N.length, pickE b.edges N M M.length⟩ b ⟨N, M⟩ := by
    refine ⟨hv, v.vb, by simp, by simp, bN, bM, fun i hi => ?_, fun i hi => ?_⟩
    · simp only [pickN_len, Nat.min_self] at hi
      exact (gN i hi).symm
    · simp only [pickE_len, Nat.min_self] at hi
      obtain ⟨f1, f2⟩ := ends _ (getD_mem (d := 0) hi)
      obtain ⟨r1, p1, p2, p3⟩ := indexI_mem f1
      obtain ⟨r2, s1, s2, s3⟩ := indexI_mem f2
      simp only
      rw [gM i hi]
      simp only
      rw [p2, s2, Int.toNat_natCast, Int.toNat_natCast, p3, s3]
  have w1 := validM_of v1
  have w2 := validM_of v2
  have c1 : byK (placesK m.nodes N m.nodes.length) N (placesK m.nodes N m.nodes.length).length = m.nodes := byK_ext (by simp) fun i hi => by
    have hi' : i < m.nodes.length := by simpa using hi
    obtain ⟨r, q1, q2, q3⟩ := indexI_mem ((mN _).2 (getD_mem (d := 0) hi'))
    rw [placesK_getD hi', q2, Int.toNat_natCast, q3]
  have c2 : byK (placesK m.edges M m.edges.length) M (placesK m.edges M m.edges.length).length = m.edges := byK_ext (by simp) fun i hi => by
    have hi' : i < m.edges.length := by simpa using hi
    obtain ⟨r, q1, q2, q3⟩ := indexI_mem ((mM _).2 (getD_mem (d := 0) hi'))
    rw [placesK_getD hi', q2, Int.toNat_natCast, q3]
  have cov : ∀ {l K : List Int}, K.Nodup → (∀ x, x ∈ K ↔ x ∈ l) → covL (placesK l K l.length) K.length = true := fun {l K} hn hm => by
    simp only [covL, List.all_eq_true, List.mem_range, decide_eq_true_eq]
    intro r hr
    have hx := (hm _).1 (getD_mem (d := 0) hr)
    simp only [placesK, List.take_length, List.mem_map]
    exact ⟨_, hx, indexI_at hn hr⟩
  refine ⟨trivial, ?_, ?_, (injM_iff _ _ _).2 ⟨w2, nN, nM⟩⟩
  · unfold compM
    rw [if_neg (by simp [w1]), if_neg (by simp [w2])]
    simp only [thenM, c1, c2]
  · unfold surM
    rw [w1]
    simp only [pickN_len, pickE_len, Nat.min_self]
    rw [cov nN mN, cov nM mM]
    rfl
end Go.AM
namespace Go.AM
open Go Go.Proofs
set_option linter.unusedSimpArgs false
set_option linter.unusedVariables false

theorem facR_fit {a b : Gr} {m : Mo} (hb : b.Fit) (hm : m.Fit) : (facR a b m).g.Fit ∧ (facR a b m).onto.Fit ∧ (facR a b m).into.Fit := by
  have h1 := hm.n
  have h2 := hm.e
  have l1 := imagesI_len m.nodes
  have l2 := imagesI_len m.edges
  unfold facR
  split
  · exact ⟨⟨by simp, by simp⟩, ⟨by simp, by simp⟩, ⟨by simp, by simp⟩⟩
  · exact ⟨⟨by simp; omega, by simp; omega⟩, ⟨by simp; omega, by simp; omega⟩, ⟨by simp only; omega, by simp only; omega⟩⟩

theorem law9_c (a b : Gr) (m : Mo) (tok : Nat → Bool) (nt : Nat) : ∃ tok' nt', DCall Try.prog 9 [a.av, .agg [.d (ints b.nodes), .d (AM.edges b.edges), .d (ints m.nodes), .d (ints m.edges)]] tok nt (B true) tok' nt' := by
  refine ⟨tok, nt, ?_⟩
  intro box nb
  refine ACalls.of_body Try.func9 rfl (by kernel_rfl) follows_Try (by kernel_rfl) (by simp [Try.ntmps9]) ?_
  intro hbox htok
  simp only at hbox htok
  apply AL.start
  repeat (first | refine AL.seq ?_ | refine AL.block ?_ | refine AL.skip ?_ | refine AL.blk ?_)
  refine AL.region follows_Try (Nat.le_refl _) (by kernel_rfl) ?_
  simp
  repeat (first | refine AL.seq ?_ | refine AL.block ?_ | refine AL.skip ?_ | refine AL.blk ?_)
  refine AL.region follows_Try (Nat.le_refl _) (by kernel_rfl) ?_
  simp
  refine Stop.of_d (awake_c _ _) ?_
  simp
  refine Stop.of_d (few05_c a _ _) ?_
  simp
  by_cases h1 : fewG a = true
  · simp [h1]
    refine Stop.of_d (few05_c b _ _) ?_
    simp [h1]
    by_cases h2 : fewG b = true
    · simp [h2]
      by_cases h3 : 100 < (m.nodes.length : Int)
      · simp [h3]
        repeat (first | refine AL.seq ?_ | refine AL.block ?_ | refine AL.skip ?_ | refine AL.blk ?_)
        refine AL.cond ?_
        simp
        repeat (first | refine AL.seq ?_ | refine AL.block ?_ | refine AL.skip ?_ | refine AL.blk ?_)
        refine AL.region follows_Try (Nat.le_refl _) (by kernel_rfl) ?_
        simp
        refine Stop.of_d (awake_c _ _) ?_
        simp
        repeat (first | refine AL.seq ?_ | refine AL.block ?_ | refine AL.skip ?_ | refine AL.blk ?_)
        refine AL.ret ?_
        try simp only [AU]
        refine ⟨by simp, Fin.data (by simp [resAs, resA]; rfl) hbox rfl htok (fun _ h => h) (Nat.le_refl _) ?_⟩
        simp [packA]
      · simp [h3]
        by_cases h4 : 100 < (m.edges.length : Int)
        · simp [h4]
          repeat (first | refine AL.seq ?_ | refine AL.block ?_ | refine AL.skip ?_ | refine AL.blk ?_)
          refine AL.cond ?_
          simp
          repeat (first | refine AL.seq ?_ | refine AL.block ?_ | refine AL.skip ?_ | refine AL.blk ?_)
          refine AL.region follows_Try (Nat.le_refl _) (by kernel_rfl) ?_
          simp
          refine Stop.of_d (awake_c _ _) ?_
          simp
          repeat (first | refine AL.seq ?_ | refine AL.block ?_ | refine AL.skip ?_ | refine AL.blk ?_)
          refine AL.ret ?_
          try simp only [AU]
          refine ⟨by simp, Fin.data (by simp [resAs, resA]; rfl) hbox rfl htok (fun _ h => h) (Nat.le_refl _) ?_⟩
          simp [packA]
        · simp [h4]
          repeat (first | refine AL.seq ?_ | refine AL.block ?_ | refine AL.skip ?_ | refine AL.blk ?_)
          refine AL.cond ?_
          simp
          have fa := fewG_fit h1
          have fb := fewG_fit h2
          have fm : m.Fit := ⟨by omega, by omega⟩
          repeat (first | refine AL.seq ?_ | refine AL.block ?_ | refine AL.skip ?_ | refine AL.blk ?_)
          refine AL.region follows_Try (Nat.le_refl _) (by kernel_rfl) ?_
          simp
          refine Stop.of_d (copied_c a fa _ _) ?_
          simp
          refine Stop.of_d (copied_c b fb _ _) ?_
          simp
          refine Stop.data ?_
          have htk := (TK.start htok).full.app.full.app.full.app.full.app
          refine Stop.of_d (factor35_c a b m fa fb fm _ _) ?_
          simp
          repeat (first | refine AL.seq ?_ | refine AL.block ?_ | refine AL.skip ?_ | refine AL.blk ?_)
          refine AL.region follows_Try (Nat.le_refl _) (by kernel_rfl) ?_
          simp
          have c36 := fun tok nt => factor36_c a b m fa fb fm tok nt
          rw [facS_facR] at c36
          refine Stop.of_d (c36 _ _) ?_
          simp
          have hfit := facR_fit (a := a) fb fm
          have hgood : (facR a b m).e = 0 → validM a b m = 0 := fun he => by
            by_cases g : validM a b m = 0
            · exact g
            · have : (facR a b m).e = validM a b m := by unfold facR; rw [if_pos g]
              omega
          have hlaw := fun h => fac_law (a := a) (b := b) (m := m) (hgood h)
          generalize facR a b m = F at *
          obtain ⟨fg, fo, fi⟩ := hfit
          repeat (first | refine AL.seq ?_ | refine AL.block ?_ | refine AL.skip ?_ | refine AL.blk ?_)
          refine AL.region follows_Try (Nat.le_refl _) (by kernel_rfl) ?_
          simp
          refine Stop.of_d (same05_c F.g F.g fg _ _) ?_
          simp
          refine Stop.of_d (same06_c F.onto F.onto fo _ _) ?_
          simp
          refine Stop.of_d (same06_c F.into F.into fi _ _) ?_
          simp
          by_cases he : F.e = 0
          · obtain ⟨_, q1, q2, q3⟩ := hlaw he
            have hb : (F.e != 0) = false := by simp [he]
            simp only [hb]
            repeat (first | refine AL.seq ?_ | refine AL.block ?_ | refine AL.skip ?_ | refine AL.blk ?_)
            refine AL.cond ?_
            simp
            have d1 := fun tok nt => compose31_c a F.g b F.onto F.into fa fg fb fo tok nt
            have d2 := fun tok nt => surjective38_c a F.g F.onto fa fg fo tok nt
            have d3 := fun tok nt => injective26_c F.g b F.into fg fb fi tok nt
            rw [q1] at d1
            rw [q2] at d2
            rw [q3] at d3
            repeat (first | refine AL.seq ?_ | refine AL.block ?_ | refine AL.skip ?_ | refine AL.blk ?_)
            refine AL.region follows_Try (Nat.le_refl _) (by kernel_rfl) ?_
            simp
            refine Stop.of_d (d1 _ _) ?_
            simp
            repeat (first | refine AL.seq ?_ | refine AL.block ?_ | refine AL.skip ?_ | refine AL.blk ?_)
            refine AL.region follows_Try (Nat.le_refl _) (by kernel_rfl) ?_
            simp
            refine Stop.of_d (same06_c m m fm _ _) ?_
            simp
            refine Stop.of_d (d2 _ _) ?_
            simp
            refine Stop.of_d (d3 _ _) ?_
            simp
            repeat (first | refine AL.seq ?_ | refine AL.block ?_ | refine AL.skip ?_ | refine AL.blk ?_)
            refine AL.ret ?_
            try simp only [AU]
            refine ⟨by simp, Fin.data (by simp [resAs, resA]; rfl) hbox rfl htok htk.old htk.le ?_⟩
            simp [packA, ]
          · have hb : (F.e != 0) = true := by simp [he]
            simp only [hb]
            repeat (first | refine AL.seq ?_ | refine AL.block ?_ | refine AL.skip ?_ | refine AL.blk ?_)
            refine AL.cond ?_
            simp
            repeat (first | refine AL.seq ?_ | refine AL.block ?_ | refine AL.skip ?_ | refine AL.blk ?_)
            refine AL.region follows_Try (Nat.le_refl _) (by kernel_rfl) ?_
            simp
            refine Stop.of_d (same05_c F.g F.g fg _ _) ?_
            simp
            refine Stop.of_d (same06_c F.onto F.onto fo _ _) ?_
            simp
            refine Stop.of_d (same06_c F.into F.into fi _ _) ?_
            simp
            repeat (first | refine AL.seq ?_ | refine AL.block ?_ | refine AL.skip ?_ | refine AL.blk ?_)
            refine AL.ret ?_
            try simp only [AU]
            refine ⟨by simp, Fin.data (by simp [resAs, resA]; rfl) hbox rfl htok htk.old htk.le ?_⟩
            simp [packA, ]
    · simp [h2]
      repeat (first | refine AL.seq ?_ | refine AL.block ?_ | refine AL.skip ?_ | refine AL.blk ?_)
      refine AL.cond ?_
      simp
      repeat (first | refine AL.seq ?_ | refine AL.block ?_ | refine AL.skip ?_ | refine AL.blk ?_)
      refine AL.region follows_Try (Nat.le_refl _) (by kernel_rfl) ?_
      simp
      refine Stop.of_d (awake_c _ _) ?_
      simp
      repeat (first | refine AL.seq ?_ | refine AL.block ?_ | refine AL.skip ?_ | refine AL.blk ?_)
      refine AL.ret ?_
      try simp only [AU]
      refine ⟨by simp, Fin.data (by simp [resAs, resA]; rfl) hbox rfl htok (fun _ h => h) (Nat.le_refl _) ?_⟩
      simp [packA]
  · simp [h1]
    repeat (first | refine AL.seq ?_ | refine AL.block ?_ | refine AL.skip ?_ | refine AL.blk ?_)
    refine AL.cond ?_
    simp
    repeat (first | refine AL.seq ?_ | refine AL.block ?_ | refine AL.skip ?_ | refine AL.blk ?_)
    refine AL.region follows_Try (Nat.le_refl _) (by kernel_rfl) ?_
    simp
    refine Stop.of_d (awake_c _ _) ?_
    simp
    repeat (first | refine AL.seq ?_ | refine AL.block ?_ | refine AL.skip ?_ | refine AL.blk ?_)
    refine AL.ret ?_
    try simp only [AU]
    refine ⟨by simp, Fin.data (by simp [resAs, resA]; rfl) hbox rfl htok (fun _ h => h) (Nat.le_refl _) ?_⟩
    simp [packA]
end Go.AM
/-
  The abstract machine, twenty-second part: from a statement's reading of the arguments to slots, and from a contract to the statement.
-/
namespace Go.AM
open Go Go.ChangeShapes
set_option linter.unusedSimpArgs false
set_option linter.unusedVariables false

variable {P : Program}

/-- Cells that read as data. -/
def Rd (w : World) (cs : List Value) (ds : List D) : Prop := cs.length = ds.length ∧ ∀ i (h1 : i < cs.length) (h2 : i < ds.length), RVd w.cell? (fun _ => True) ds[i] cs[i]

theorem Rd.append {w : World} {cs cs' : List Value} {ds ds' : List D} (h : Rd w cs ds) (k : Rd w cs' ds') : Rd w (cs ++ cs') (ds ++ ds') := by
  refine ⟨by simp [h.1, k.1], fun i h1 h2 => ?_⟩
  by_cases hi : i < cs.length
  · rw [List.getElem_append_left hi, List.getElem_append_left (by rw [← h.1]; exact hi)]
    exact h.2 i hi _
  · have hl := h.1
    rw [List.getElem_append_right (by omega), List.getElem_append_right (by omega)]
    have := k.2 (i - cs.length) (by simp at h1; omega) (by have := k.1; simp at h1; omega)
    simpa [hl] using this
theorem Rd.one {w : World} {c : Value} {d : D} (h : RVd w.cell? (fun _ => True) d c) : Rd w [c] [d] := ⟨rfl, fun i h1 h2 => by
  have : i = 0 := by simpa using h1
  subst this
  exact h⟩

/-- What it takes is within reach. -/
def Light {H : Type} (P : Program) (T : TypeId) (d : DataW H) : Prop := (d.weights P T).all (· ≤ reachBytes) = true

/-- How the cells of a type read as data: as the images of values of a Lean type. -/
structure Rdr (P : Program) (T : TypeId) (α : Type) where
  enc : α → List D
  ok : α → Prop
  len : ∀ x, (enc x).length = P.cellsOf T
  sound : ∀ {H : Type} (e : TypeId × Value → H) (w : World) (base : Nat) (spare : Nat → Bool) (held : Bool) (fuel : Nat) (cs : List Value) (x : DataW H × List MemPlace),
    DataW.trod e P w base spare held fuel T cs = some x → ∃ y, Rd w cs (enc y) ∧ (Light P T x.1 → ok y)

def Rdr.int {T : TypeId} {k : IntKind} (h : P.underlying T = some (.int k)) (hc : P.cellsOf T = 1) : Rdr P T Int where
  enc n := [.raw (.int k n)]
  ok n := (Lit.int k n).wf = true
  len _ := by simp [hc]
  sound e w base spare held fuel cs x hx := by
    cases fuel with
    | zero => simp [DataW.trod] at hx
    | succ n =>
      unfold DataW.trod at hx
      rw [h] at hx
      split at hx <;> simp_all
      rename_i k' n' _
      exact ⟨n', Rd.one (.raw rfl), fun _ => hx.1.2⟩

theorem cells_spec {w : World} {base : Nat} {a : Addr} {n : Nat} {l : List Value} (h : w.cells? base a n = some l) : l.length = n ∧ ∀ i (hi : i < l.length), w.cell? (a.add i) = some l[i] := by
  unfold World.cells? at h
  split at h
  · have h1 : l.length = n := by have := mapM_some_length h; simpa using this
    refine ⟨h1, fun i hi => ?_⟩
    have hin : i < n := by omega
    have := mapM_some_get h i i (by simp [hin])
    rw [this]
    exact List.getElem?_eq_getElem hi
  · cases h

theorem light_slice {H : Type} {T E : TypeId} (h : P.underlying T = some (.slice E)) {elems rest : List (DataW H)} (hl : Light P T (.slice elems rest)) : elems.length * P.bytesOf E ≤ reachBytes ∧ ∀ d ∈ elems, Light P E d := by
  unfold Light at hl ⊢
  simp only [DataW.weights, h, List.all_cons, List.all_append, Bool.and_eq_true, decide_eq_true_eq] at hl
  refine ⟨Nat.le_trans (Nat.mul_le_mul_right _ (Nat.le_add_right _ _)) hl.1, ?_⟩
  have key : ∀ l : List (DataW H), (DataW.weightsAll P E l).all (· ≤ reachBytes) = true → ∀ d ∈ l, (d.weights P E).all (· ≤ reachBytes) = true := by
    intro l
    induction l with
    | nil => intro _ d hd; simp at hd
    | cons x l ih =>
      intro hx d hd
      simp only [DataW.weightsAll, List.all_append, Bool.and_eq_true] at hx
      rcases List.mem_cons.1 hd with rfl | hd
      · exact hx.1
      · exact ih hx.2 d hd
  exact key elems hl.2.1

def Rdr.slice {T E : TypeId} {α : Type} (r : Rdr P E α) (h : P.underlying T = some (.slice E)) (hc : P.cellsOf T = 1) : Rdr P T (List α) where
  enc l := [.sl (P.cellsOf E) (l.map r.enc)]
  ok l := (∀ x ∈ l, r.ok x) ∧ l.length * P.bytesOf E ≤ reachBytes
  len _ := by simp [hc]
  sound e w base spare held fuel cs x hx := by
    rcases DataW.trod_slice h hx with ⟨rfl, rfl⟩ | ⟨a, len, cap, elems, rest, n, rfl, rfl, rfl, hb, hl, hm, hel, hat, _⟩
    · exact ⟨[], Rd.one (.sl (es := []) (fun _ _ => default) (Nat.le_refl _) (by decide) (by simp) (by simp) (by simp) (by simp)), fun _ => ⟨by simp, by simp⟩⟩
    · have key : ∀ i (hi : i < elems.length), ∃ cs y, cs.length = P.cellsOf E ∧ (∀ j (hj : j < cs.length), w.cell? (a.add (i * P.cellsOf E + j)) = some cs[j]) ∧ Rd w cs (r.enc y) ∧ (Light P E elems[i].1 → r.ok y) := by
        intro i hi
        have h1 := hat i (by omega)
        have h2 : elems[i]? = some elems[i] := List.getElem?_eq_getElem hi
        rw [h2, Option.bind_eq_some_iff] at h1
        obtain ⟨cs, hcs, htr⟩ := h1
        obtain ⟨hcl, hcc⟩ := cells_spec hcs
        obtain ⟨y, hy, hok⟩ := r.sound e w base spare held n cs _ htr
        refine ⟨cs, y, hcl, fun j hj => ?_, hy, hok⟩
        rw [← Addr.add_add]
        exact hcc j hj
      have pick : ∀ m, m ≤ elems.length → ∃ ys : List α, ys.length = m ∧ (∀ i (hi : i < ys.length) (hi2 : i < elems.length), ∃ cs, cs.length = P.cellsOf E ∧ (∀ j (hj : j < cs.length), w.cell? (a.add (i * P.cellsOf E + j)) = some cs[j]) ∧ Rd w cs (r.enc ys[i]) ∧ (Light P E elems[i].1 → r.ok ys[i])) := by
        intro m
        induction m with
        | zero => intro _; exact ⟨[], rfl, fun i hi => by simp at hi⟩
        | succ m ih =>
          intro hm'
          obtain ⟨ys, hys, hall⟩ := ih (by omega)
          obtain ⟨cs, y, g1, g2, g3, g4⟩ := key m (by omega)
          refine ⟨ys ++ [y], by simp [hys], fun i hi hi2 => ?_⟩
          by_cases him : i < ys.length
          · rw [List.getElem_append_left him]
            exact hall i him hi2
          · have : i = m := by simp at hi; omega
            subst this
            have e1 : (ys ++ [y])[i] = y := by
              rw [List.getElem_append_right (by omega)]
              simp
            rw [e1]
            exact ⟨cs, g1, g2, g3, g4⟩
      obtain ⟨ys, hys, hall⟩ := pick elems.length (Nat.le_refl _)
      refine ⟨ys, Rd.one ?_, fun hli => ?_⟩
      · have hlen : len = ys.length := by omega
        subst hlen
        have hml : ys.length = (ys.map r.enc).length := by simp
        rw [hml]
        refine .sl (fun i j => (w.cell? (a.add (i * P.cellsOf E + j))).getD default) (by simpa using hl) hm (fun e he => ?_) (fun _ => ⟨a, rfl⟩) (fun a' ha' i j hi hj => ?_) (fun i j hi hj => ?_)
        · obtain ⟨y, _, rfl⟩ := List.mem_map.1 he
          exact r.len y
        · cases ha'
          obtain ⟨cs, g1, g2, _⟩ := hall i (by simpa using hi) (by simp at hi; omega)
          rw [g2 j (by omega)]
          exact ⟨trivial, rfl⟩
        · obtain ⟨cs, g1, g2, g3, _⟩ := hall i (by simpa using hi) (by simp at hi; omega)
          simp only [List.getElem_map] at hj ⊢
          have hjc : j < cs.length := by rw [g3.1]; exact hj
          rw [g2 j hjc]
          exact g3.2 j hjc hj
      · obtain ⟨w1, w2⟩ := light_slice h hli
        refine ⟨fun y hy => ?_, by simpa [hys] using w1⟩
        obtain ⟨i, hi, rfl⟩ := List.getElem_of_mem hy
        obtain ⟨_, _, _, _, h4⟩ := hall i hi (by omega)
        exact h4 (w2 _ (List.mem_map.2 ⟨_, List.getElem_mem _, rfl⟩))

def Rdr.map {T : TypeId} {α β : Type} (r : Rdr P T α) (f : α → β) (enc : β → List D) (ok : β → Prop) (he : ∀ x, enc (f x) = r.enc x) (hok : ∀ x, r.ok x → ok (f x)) (hl : ∀ y, (enc y).length = P.cellsOf T) : Rdr P T β where
  enc := enc
  ok := ok
  len := hl
  sound e w base spare held fuel cs x hx := by
    obtain ⟨y, h1, h2⟩ := r.sound e w base spare held fuel cs x hx
    exact ⟨f y, by rw [he]; exact h1, fun hl => hok y (h2 hl)⟩

/-- A slice, its elements' size named. -/
def Rdr.sliceN {T E : TypeId} {α : Type} (r : Rdr P E α) (n : Nat) (h : P.underlying T = some (.slice E)) (hc : P.cellsOf T = 1) (hn : P.cellsOf E = n) : Rdr P T (List α) where
  enc l := [.sl n (l.map r.enc)]
  ok l := (∀ x ∈ l, r.ok x) ∧ l.length * P.bytesOf E ≤ reachBytes
  len _ := by simp [hc]
  sound := by
    subst hn
    exact (Rdr.slice r h hc).sound

theorem list2 {α : Type} {l : List α} (h : l.length = 2) : l = [l[0]'(by omega), l[1]'(by omega)] := by
  match l, h with
  | [p, q], _ => rfl
theorem list3 {α : Type} {l : List α} (h : l.length = 3) : l = [l[0]'(by omega), l[1]'(by omega), l[2]'(by omega)] := by
  match l, h with
  | [p, q, r], _ => rfl

def Rdr.struct2 {T A B : TypeId} {α β : Type} (r : Rdr P A α) (s : Rdr P B β) {f0 f1 : Field} (h : P.underlying T = some (.struct #[f0, f1])) (hA : f0.type = A) (hB : f1.type = B) (h0 : f0.offset = 0) (h1 : f1.offset = P.cellsOf A)
    (hc : P.cellsOf T = P.cellsOf A + P.cellsOf B) : Rdr P T (α × β) where
  enc x := r.enc x.1 ++ s.enc x.2
  ok x := r.ok x.1 ∧ s.ok x.2
  len x := by simp [r.len, s.len, hc]
  sound e w base spare held fuel cs x hx := by
    obtain ⟨xs, n, rfl, rfl, hl, hxs, hat⟩ := DataW.trod_struct h hx
    have hxs' : xs.length = 2 := hxs
    have g0 := hat 0 f0 rfl
    have g1 := hat 1 f1 rfl
    have e0 : xs[0]? = some (xs[0]'(by omega)) := List.getElem?_eq_getElem (by omega)
    have e1 : xs[1]? = some (xs[1]'(by omega)) := List.getElem?_eq_getElem (by omega)
    rw [e0, h0, hA] at g0
    rw [e1, h1, hB] at g1
    obtain ⟨y, k1, k2⟩ := r.sound e w base spare held n _ _ g0
    obtain ⟨z, m1, m2⟩ := s.sound e w base spare held n _ _ g1
    refine ⟨(y, z), ?_, fun hli => ?_⟩
    rotate_left
    · unfold Light at hli k2 m2
      have e2 : xs = [xs[0]'(by omega), xs[1]'(by omega)] := list2 hxs'
      rw [e2] at hli
      simp only [List.map_cons, List.map_nil, DataW.weights, h, DataW.weightsEach, hA, hB, List.all_append, Bool.and_eq_true] at hli
      exact ⟨k2 hli.1, m2 hli.2.1⟩
    have hcs : cs = (cs.drop 0).take (P.cellsOf A) ++ (cs.drop (P.cellsOf A)).take (P.cellsOf B) := by
      have : (cs.drop (P.cellsOf A)).take (P.cellsOf B) = cs.drop (P.cellsOf A) := List.take_of_length_le (by simp; omega)
      rw [this, List.drop_zero, List.take_append_drop]
    rw [hcs]
    exact k1.append m1

def Rdr.struct3 {T A B C : TypeId} {α β γ : Type} (r : Rdr P A α) (s : Rdr P B β) (t : Rdr P C γ) {f0 f1 f2 : Field} (h : P.underlying T = some (.struct #[f0, f1, f2])) (hA : f0.type = A) (hB : f1.type = B) (hC : f2.type = C)
    (h0 : f0.offset = 0) (h1 : f1.offset = P.cellsOf A) (h2 : f2.offset = P.cellsOf A + P.cellsOf B) (hc : P.cellsOf T = P.cellsOf A + P.cellsOf B + P.cellsOf C) : Rdr P T (α × β × γ) where
  enc x := r.enc x.1 ++ (s.enc x.2.1 ++ t.enc x.2.2)
  ok x := r.ok x.1 ∧ s.ok x.2.1 ∧ t.ok x.2.2
  len x := by simp [r.len, s.len, t.len, hc]; omega
  sound e w base spare held fuel cs x hx := by
    obtain ⟨xs, n, rfl, rfl, hl, hxs, hat⟩ := DataW.trod_struct h hx
    have hxs' : xs.length = 3 := hxs
    have g0 := hat 0 f0 rfl
    have g1 := hat 1 f1 rfl
    have g2 := hat 2 f2 rfl
    have e0 : xs[0]? = some (xs[0]'(by omega)) := List.getElem?_eq_getElem (by omega)
    have e1 : xs[1]? = some (xs[1]'(by omega)) := List.getElem?_eq_getElem (by omega)
    have e2 : xs[2]? = some (xs[2]'(by omega)) := List.getElem?_eq_getElem (by omega)
    rw [e0, h0, hA] at g0
    rw [e1, h1, hB] at g1
    rw [e2, h2, hC] at g2
    obtain ⟨y, k1, k2⟩ := r.sound e w base spare held n _ _ g0
    obtain ⟨z, m1, m2⟩ := s.sound e w base spare held n _ _ g1
    obtain ⟨q, p1, p2⟩ := t.sound e w base spare held n _ _ g2
    refine ⟨(y, z, q), ?_, fun hli => ?_⟩
    rotate_left
    · unfold Light at hli k2 m2 p2
      have e2 : xs = [xs[0]'(by omega), xs[1]'(by omega), xs[2]'(by omega)] := list3 hxs'
      rw [e2] at hli
      simp only [List.map_cons, List.map_nil, DataW.weights, h, DataW.weightsEach, hA, hB, hC, List.all_append, Bool.and_eq_true] at hli
      exact ⟨k2 hli.1, m2 hli.2.1, p2 hli.2.2.1⟩
    have hcs : cs = (cs.drop 0).take (P.cellsOf A) ++ ((cs.drop (P.cellsOf A)).take (P.cellsOf B) ++ (cs.drop (P.cellsOf A + P.cellsOf B)).take (P.cellsOf C)) := by
      have : (cs.drop (P.cellsOf A + P.cellsOf B)).take (P.cellsOf C) = cs.drop (P.cellsOf A + P.cellsOf B) := List.take_of_length_le (by simp; omega)
      rw [this, ← List.drop_drop, List.take_append_drop, List.drop_zero, List.take_append_drop]
    rw [hcs]
    exact k1.append (m1.append p1)

/-! ### The start -/
def G0 : Gh := ⟨fun _ => none, fun _ => none, fun _ => .whole, 0⟩
def m0 : AMem := ⟨fun _ => none, 0, fun _ => false, 0⟩
theorem G0_ps (a : Addr) : G0.ps a := trivial
theorem relM_start (W : World) : RelM G0 m0 W := by
  constructor
  case box => intro k rows b sz h; cases h
  case nobox => intro k _; rfl
  case inj => intro k k' b sz sz' h; cases h
  case nb => intro k _; rfl
  case nt => rfl
  case toks => intro t h; cases h
  case tokb => intro t g h; cases h
  case tinj => intro t t' g h; cases h
  case tnt => intro t x h; cases h
  case fresh => intro b _; rfl

theorem RVd.start {W : World} {d : D} {v : Value} (h : RVd W.cell? (fun _ => True) d v) : RVd W.cell? G0.ps d v := h.mono fun a u _ hc => ⟨G0_ps a, hc⟩

/-- A struct that came in. -/
theorem Rdr.agg {T : TypeId} {α : Type} (r : Rdr P T α) {W : World} {base base' : Nat} {sp : Nat → Bool} {held : Bool} {H : Type} {enc : TypeId × Value → H} {v : Value} {d : DataW H} {p : List MemPlace}
    (hs : aggT P T = some true) (hv : Value.okWide P W .any base T v) (h : DataW.Trod enc P W base' sp held T v d p) (hli : Light P T d) : ∃ y, r.ok y ∧ RV G0 W (.agg ((r.enc y).map .d)) v := by
  have hcs : ∃ cs, v = .agg cs := by
    unfold aggT at hs
    unfold Value.okWide at hv
    cases hu : P.underlying T with
    | none => rw [hu] at hs; simp at hs
    | some u =>
      rw [hu] at hs hv
      cases u <;> simp at hs hv <;> exact ⟨_, hv.choose_spec.1⟩
  obtain ⟨cs, rfl⟩ := hcs
  obtain ⟨fuel, h⟩ := h
  obtain ⟨y, ⟨h1, h2⟩, hok⟩ := r.sound enc W base' sp held fuel _ _ h
  refine ⟨y, hok hli, ?_⟩
  simp only [Value.cells] at h1 h2
  have := RV.agg (G := G0) (w := W) (cs := (r.enc y).map .d) (vs := cs.toList) (by simp [h1]) (fun i g1 g2 => by
    simp only [List.getElem_map]
    exact .d (h2 i g2 (by simpa using g1)).start) (fun v hv => by
    obtain ⟨i, hi, rfl⟩ := List.getElem_of_mem hv
    exact (h2 i hi (by omega)).one)
  simpa using this

/-- A number or a slice that came in. -/
theorem Rdr.cell {T : TypeId} {α : Type} (r : Rdr P T α) {W : World} {base base' : Nat} {sp : Nat → Bool} {held : Bool} {H : Type} {enc : TypeId × Value → H} {v : Value} {d : DataW H} {p : List MemPlace} (f : α → D)
    (hs : aggT P T = some false) (hf : ∀ y, r.enc y = [f y]) (hv : Value.okWide P W .any base T v) (h : DataW.Trod enc P W base' sp held T v d p) (hli : Light P T d) : ∃ y, r.ok y ∧ RV G0 W (.d (f y)) v := by
  obtain ⟨fuel, h⟩ := h
  obtain ⟨y, ⟨h1, h2⟩, hok⟩ := r.sound enc W base' sp held fuel _ _ h
  refine ⟨y, hok hli, ?_⟩
  rw [hf] at h1
  have hcs : v.cells.toList = [v] := by
    cases v with
    | agg cs =>
      exfalso
      unfold aggT at hs
      unfold Value.okWide Cell.okWide Cell.ok at hv
      cases hu : P.underlying T with
      | none => rw [hu] at hs; simp at hs
      | some u =>
        rw [hu] at hs hv
        cases u <;> simp_all
    | _ => rfl
  have := h2 0 (by rw [h1]; simp) (by rw [hf]; simp)
  simp only [hf, List.getElem_cons_zero] at this
  have e : v.cells.toList[0]'(by rw [h1]; simp) = v := by simp [hcs]
  rw [e] at this
  exact .d this.start

theorem light_arg {H : Type} {ts : List TypeId} {ds : List (DataW H)} (hz : (DataW.weightsEach P ts ds).all (· ≤ reachBytes) = true) {j : Nat} {T : TypeId} {d : DataW H} (ht : ts[j]? = some T) (hd : ds[j]? = some d) : Light P T d :=
  List.all_eq_true.2 fun x hx => List.all_eq_true.1 hz x (DataW.weights_mem_each ht hd x hx)

theorem arg_agg {ps : Array TypeId} {args : Array Value} {W : World} {base base' : Nat} {sp : Nat → Bool} {held : Bool} {H : Type} {enc : TypeId × Value → H} (hval : ∀ (j : Nat) t v, ps[j]? = some t → args[j]? = some v → Value.okWide P W .any base t v)
    (j : Nat) (T : TypeId) (v : Value) (hp : ps[j]? = some T) (ha : args[j]? = some v) {α : Type} (r : Rdr P T α) {d : DataW H} {p : List MemPlace} (hs : aggT P T = some true) (h : DataW.Trod enc P W base' sp held T v d p) (hli : Light P T d) :
    ∃ y, r.ok y ∧ RV G0 W (.agg ((r.enc y).map .d)) v := r.agg hs (hval j T v hp ha) h hli
theorem arg_cell {ps : Array TypeId} {args : Array Value} {W : World} {base base' : Nat} {sp : Nat → Bool} {held : Bool} {H : Type} {enc : TypeId × Value → H} (hval : ∀ (j : Nat) t v, ps[j]? = some t → args[j]? = some v → Value.okWide P W .any base t v)
    (j : Nat) (T : TypeId) (v : Value) (hp : ps[j]? = some T) (ha : args[j]? = some v) {α : Type} (r : Rdr P T α) (f : α → D) {d : DataW H} {p : List MemPlace} (hs : aggT P T = some false) (hf : ∀ y, r.enc y = [f y]) (h : DataW.Trod enc P W base' sp held T v d p) (hli : Light P T d) :
    ∃ y, r.ok y ∧ RV G0 W (.d (f y)) v := r.cell f hs hf (hval j T v hp ha) h hli

/-! ### The end -/
theorem le_old {W W' : World} {G' : Gh} (h : Le G0 W G' W') (b : Nat) (hb : b < W.heap.size) : W'.heap[b]? = W.heap[b]? := (h.whole b hb rfl).2
theorem le_kept {W W' : World} {G' : Gh} (h : Le G0 W G' W') (may : MemPlace → Prop) : W.keptBut W' may := by
  refine ⟨h.os, h.output, fun i hi => ?_⟩
  rw [le_old h i hi]
  split
  · rename_i c t fr c' t' fr' e1 e2
    rw [e1] at e2
    cases e2
    exact ⟨rfl, rfl, rfl, fun _ _ => rfl⟩
  · rename_i e1 e2
    rw [e1] at e2
    cases e2
    exact .inr ⟨rfl, rfl⟩
  · rfl
theorem le_same {W W' : World} {G' : Gh} (h : Le G0 W G' W') {p : MemPlace} (hp : p.block < W.heap.size) : W.sameAt W' p := by
  cases p with
  | cell b off => exact World.cell?_of_block (w := W) (a := ⟨b, off, none⟩) (le_old h b hp)
  | map b => exact le_old h b hp
theorem le_frozen {W W' : World} {G' : Gh} (h : Le G0 W G' W') {a : Addr} (ha : a.block < W.heap.size) : W'.frozen? a = W.frozen? a := by
  simp only [World.frozen?, le_old h a.block ha]

theorem trodAll_stays {H : Type} {enc : TypeId × Value → H} {W W' : World} {T : TypeId → Prop} {sp' : Nat → Bool} (K : Kids P T) (hsz : ∀ {t e : TypeId}, T t → P.underlying t = some (.slice e) → 0 < P.cellsOf e) :
    ∀ {ts : List TypeId} {vs : List Value} {ds : List (DataW H)} {ps : List MemPlace}, (∀ t ∈ ts, T t) → DataW.TrodAll enc P W 0 (fun _ => true) true ts vs ds ps → (∀ p ∈ ps, W.sameAt W' p) → (∀ p ∈ ps, sp' p.block = true) →
    DataW.TrodAll enc P W' 0 sp' true ts vs ds ps
  | [], [], [], _, _, h, _, _ => h
  | t :: ts, v :: vs, d :: ds, _, hT, ⟨p, q, ⟨n, hn⟩, h2, e⟩, h3, h4 => by
    subst e
    exact ⟨p, q, ⟨n, DataW.trod_stays K hsz (fun h => by cases h) (hT t (by simp)) hn (fun x hx => h3 x (by simp [hx])) (fun x hx => h4 x (by simp [hx]))⟩,
      trodAll_stays K hsz (fun t ht => hT t (by simp [ht])) h2 (fun x hx => h3 x (by simp [hx])) (fun x hx => h4 x (by simp [hx])), rfl⟩

/-- A law: its contract says that it returns true. -/
theorem law_of {f : FuncId} {fn : Func} {s : ChangeSpec} {H : Type} {enc : TypeId × Value → H} {W : World} {args : Array Value} {ds : List (DataW H)} {before : List MemPlace} {avs : List AV} {tok' : Nat → Bool} {nt' : Nat}
    (hl : laidOutB P = true) (hm : mapsRowed P = true) (hz : ((List.range P.types.size).all fun t => match P.underlying t with | some (.slice e) => decide (0 < P.cellsOf e) | _ => true) = true)
    (hpar : fn.params.all (· < P.types.size) = true) {tb : TypeId} (hres : fn.resultTypes = #[tb]) (hb : P.underlying tb = some .bool)
    (hvars : s.vars = []) (hfn : s.fn H ds = { results := [.lit (.bool true)], args := ds })
    (hW : DataW.Whole enc P fn.params.toList s.vars false W args.toList ds [] before) (hr : RVs G0 W avs args.toList) (hc : DCall P f avs (fun _ => false) 0 (B true) tok' nt') :
    Calls P f args W fun e W' => ∃ v, e = .returned v ∧ s.post enc P fn false true false false W args v W' := by
  have hcall := (hc (fun _ => none) 0).2 G0 W args.toList (relM_start W) hr
  simp only [Array.toArray_toList] at hcall
  refine hcall.mono ?_
  rintro e W' ⟨v, av, m', G', rfl, ⟨rfl, rfl⟩, _, _, hv, hle, _⟩
  cases hv with
  | d hv =>
    cases hv with
    | raw =>
      refine ⟨_, rfl, ?_⟩
      have hlt := hW.lt
      have hWW := hW
      obtain ⟨p, q, hA, hV, rfl, hfz, hnd⟩ := hW
      rw [hvars] at hV
      obtain ⟨_, rfl⟩ := trodVars_none hV
      simp only [List.append_nil] at hlt hfz hWW ⊢
      have hT : ∀ t ∈ fn.params.toList, t < P.types.size := fun t ht => by
        have := Array.all_eq_true_iff_forall_mem.1 hpar t (by simpa using ht)
        simpa using this
      have hsz : ∀ {t e : TypeId}, t < P.types.size → P.underlying t = some (.slice e) → 0 < P.cellsOf e := by
        intro t e ht hu
        have := List.all_eq_true.1 hz t (List.mem_range.2 ht)
        rw [hu] at this
        simpa using this
      have hargs : ∀ sp : Nat → Bool, (∀ x ∈ p, sp x.block = true) → DataW.TrodAll enc P W' 0 sp true fn.params.toList args.toList ds p := fun sp hsp =>
        trodAll_stays (kids_rows hl hm) hsz hT hA (fun x hx => le_same hle (hlt x hx)) hsp
      have hnat : (Value.bool true).resultList fn.resultTypes.size = [.bool true] := by rw [hres]; rfl
      have hresb : ∀ (b : Nat) (sp : Nat → Bool) (hd : Bool), DataW.TrodAll enc P W' b sp hd fn.resultTypes.toList ((Value.bool true).resultList fn.resultTypes.size) [.lit (.bool true)] [] := fun b sp hd => by
        rw [hnat, hres]
        exact trodAll_mk1 ⟨1, by simp [DataW.trod, hb, Value.cells]⟩
      have hfn' : s.fn H (ds ++ []) = { results := [.lit (.bool true)], args := ds } := by rw [List.append_nil]; exact hfn
      refine ⟨ds, [], p, [], p, [], hWW, ?_, ?_, ?_, World.keptBut_mono (fun _ f => f.elim) (le_kept hle fun _ => False), fun h => by cases h⟩
      · rw [hfn']; exact hresb _ _ _
      · rw [hfn']; exact hargs _ fun x hx => by simpa using hlt x hx
      · rw [hfn', hvars]; exact rfl
end Go.AM
/-
  What the arguments of this chapter's statements read as: graphs, morphisms, overlaps.
-/
namespace Go.AM
open Go Go.Proofs

theorem own0 : ownKnob Try.prog.godebug = none := by kernel_rfl
theorem laidOut0 : laidOutB Try.prog = true := by kernel_rfl
theorem mapsRowed0 : mapsRowed Try.prog = true := by kernel_rfl
theorem slices0 : ((List.range Try.prog.types.size).all fun t => match Try.prog.underlying t with | some (.slice e) => decide (0 < Try.prog.cellsOf e) | _ => true) = true := by kernel_rfl

def rdInt : Rdr Try.prog 3 Int := Rdr.int (k := .i64) Try.underlying3 (by kernel_rfl)
def rdInts : Rdr Try.prog 22 (List Int) := rdInt.sliceN 1 Try.underlying22 (by kernel_rfl) (by kernel_rfl)
def rdEdge0 : Rdr Try.prog 78 (Int × Int × Int) := Rdr.struct3 rdInt rdInt rdInt Try.underlying78 rfl rfl rfl rfl (by kernel_rfl) (by kernel_rfl) (by kernel_rfl)
def rdEdge : Rdr Try.prog 78 E := rdEdge0.map (fun x => ⟨x.1, x.2.1, x.2.2⟩) E.cells (fun _ => True) (fun _ => rfl) (fun _ _ => trivial) (fun _ => by kernel_rfl)
def rdEdges : Rdr Try.prog 23 (List E) := rdEdge.sliceN 3 Try.underlying23 (by kernel_rfl) (by kernel_rfl)
def rdGraph0 : Rdr Try.prog 25 (List Int × List E) := Rdr.struct2 rdInts rdEdges Try.underlying25 rfl rfl rfl (by kernel_rfl) (by kernel_rfl)
def rdGraph : Rdr Try.prog 25 Gr := rdGraph0.map (fun x => ⟨x.1, x.2⟩) (fun g => [ints g.nodes, AM.edges g.edges]) (fun _ => True) (fun _ => rfl) (fun _ _ => trivial) (fun _ => by kernel_rfl)

theorem rdGraph_enc (g : Gr) : rdGraph.enc g = [ints g.nodes, AM.edges g.edges] := rfl

set_option maxRecDepth 100000 in
theorem arg_graph {ps : Array TypeId} {args : Array Value} {W : World} {base base' : Nat} {sp : Nat → Bool} {held : Bool} {H : Type} {enc : TypeId × Value → H} (hval : ∀ (j : Nat) t v, ps[j]? = some t → args[j]? = some v → Value.okWide Try.prog W .any base t v)
    (j : Nat) (v : Value) (hp : ps[j]? = some 25) (ha : args[j]? = some v) {d : DataW H} {p : List MemPlace} (h : DataW.Trod enc Try.prog W base' sp held 25 v d p) (hli : Light Try.prog 25 d) : ∃ g : Gr, RV G0 W g.av v := by
  refine Exists.elim (arg_agg hval j 25 v hp ha rdGraph aggT_25 h hli) fun g hg => ⟨g, ?_⟩
  exact hg.2
end Go.AM
