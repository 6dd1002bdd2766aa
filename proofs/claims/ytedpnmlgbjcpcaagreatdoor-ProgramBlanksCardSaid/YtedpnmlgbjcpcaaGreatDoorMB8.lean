/-
  Parts of the proof, as merged from many texts: a machine over data, what the functions compute, plain laws.
-/
import Derived.Test.YtedpnmlgbjcpcaaGreatDoorMB7
import Derived.Shelf.Strings.Builder1
import Derived.Shelf.Strings.Builder2
import Derived.Shelf.Small.Strs
import Derived.Shelf.Strings.BuilderF
import Derived.Shelf.Strings.BuilderK
import Derived.Shelf.Strconv.Itoa0
import Derived.Shelf.Strconv.Itoa1
import Derived.Shelf.LaysM
import Derived.Shelf.Strconv.Itoa2
import Derived.Shelf.Strconv.Itoa3
import Derived.Shelf.Strings.Search1
import Derived.Shelf.Sort.Plain
import Derived.Shelf.Strings.Prefix
import Derived.Shelf.Strings.Fields
import Derived.Shelf.Unicode.Latin
import Derived.Shelf.Bits.Mul64
import Derived.Shelf.Strings.Repeat
import Derived.Shelf.Unicode.Is16White
import Derived.Shelf.Unicode.IsSpaceAny
import Derived.Shelf.Unicode.Is16Any
import Derived.Shelf.Unicode.Is32Any
import Derived.Shelf.Unicode.ExclAny
import Derived.Shelf.Slices.Equal
import Derived.Shelf.Slices.In.SortNone
import Derived.Test.YtedpnmlgbjcpcaaGreatDoorProg
import Derived.Sort.OwnSorted
import Derived.Lib.Builder
import Derived.WalkKit
import Derived.Lib.UnsafeStr
import Derived.Shelf.RegionOpenPlain
set_option linter.unusedSimpArgs false
set_option linter.unusedVariables false
namespace Go.Proofs
open Go.Shelf
def Tryz.lays190_ren : Go.Shelf.Ren := ⟨fun | 190 => 29 | 125 => 66 | 258 => 65 | 128 => 107 | 129 => 108 | 302 => 98 | 303 => 99 | 304 => 100 | 305 => 101 | 306 => 102 | 307 => 103 | 308 => 104 | 309 => 105 | 310 => 106 | 333 => 138 | 329 => 139 | 330 => 140 | 334 => 141 | 335 => 142 | 336 => 143 | 344 => 156 | n => n, fun | 31 => 34 | 9 => 9 | 3 => 3 | 46 => 136 | 0 => 0 | 51 => 173 | 53 => 175 | 4 => 4 | 183 => 166 | 182 => 165 | 131 => 170 | 5 => 5 | 218 => 198 | 222 => 202 | 228 => 222 | 229 => 143 | n => n, fun | n => n⟩
theorem Tryz.lays190 : Go.Proofs.Lays.n190 Tryz.prog Tryz.lays190_ren := {
  mixed := by kernel_rfl
  f125 := Tryz.func66.trans (congrArg some (by kernel_rfl))
  f128 := Tryz.func107.trans (congrArg some (by kernel_rfl))
  f129 := Tryz.func108.trans (congrArg some (by kernel_rfl))
  f190 := Tryz.func29.trans (congrArg some (by kernel_rfl))
  f258 := Tryz.func65.trans (congrArg some (by kernel_rfl))
  f302 := Tryz.func98.trans (congrArg some (by kernel_rfl))
  f303 := Tryz.func99.trans (congrArg some (by kernel_rfl))
  f304 := Tryz.func100.trans (congrArg some (by kernel_rfl))
  f305 := Tryz.func101.trans (congrArg some (by kernel_rfl))
  f306 := Tryz.func102.trans (congrArg some (by kernel_rfl))
  f307 := Tryz.func103.trans (congrArg some (by kernel_rfl))
  f308 := Tryz.func104.trans (congrArg some (by kernel_rfl))
  f309 := Tryz.func105.trans (congrArg some (by kernel_rfl))
  f310 := Tryz.func106.trans (congrArg some (by kernel_rfl))
  f329 := Tryz.func139.trans (congrArg some (by kernel_rfl))
  f330 := Tryz.func140.trans (congrArg some (by kernel_rfl))
  f333 := Tryz.func138.trans (congrArg some (by kernel_rfl))
  f334 := Tryz.func141.trans (congrArg some (by kernel_rfl))
  f335 := Tryz.func142.trans (congrArg some (by kernel_rfl))
  f336 := Tryz.func143.trans (congrArg some (by kernel_rfl))
  f344 := Tryz.func156.trans (congrArg some (by kernel_rfl))
  t0 := Tryz.underlying0
  a0 := Tryz.isAgg0
  z0 := Tryz.sizeOf0
  v0 := Tryz.zeroValue0
  t3 := Tryz.underlying3
  a3 := Tryz.isAgg3
  z3 := Tryz.sizeOf3
  v3 := Tryz.zeroValue3
  t4 := Tryz.underlying4
  a4 := Tryz.isAgg4
  z4 := Tryz.sizeOf4
  v4 := Tryz.zeroValue4
  t5 := Tryz.underlying5
  a5 := Tryz.isAgg5
  z5 := Tryz.sizeOf5
  v5 := Tryz.zeroValue5
  t9 := Tryz.underlying9
  a9 := Tryz.isAgg9
  z9 := Tryz.sizeOf9
  v9 := Tryz.zeroValue9
  t31 := Tryz.underlying34
  a31 := Tryz.isAgg34
  z31 := Tryz.sizeOf34
  v31 := Tryz.zeroValue34
  t46 := Tryz.underlying136
  a46 := Tryz.isAgg136
  z46 := Tryz.sizeOf136
  v46 := Tryz.zeroValue136
  t51 := Tryz.underlying173
  a51 := Tryz.isAgg173
  z51 := Tryz.sizeOf173
  v51 := Tryz.zeroValue173
  t53 := Tryz.underlying175
  a53 := Tryz.isAgg175
  z53 := Tryz.sizeOf175
  v53 := Tryz.zeroValue175
  t131 := Tryz.underlying170
  a131 := Tryz.isAgg170
  z131 := Tryz.sizeOf170
  v131 := Tryz.zeroValue170
  t182 := Tryz.underlying165
  a182 := Tryz.isAgg165
  z182 := Tryz.sizeOf165
  v182 := Tryz.zeroValue165
  t183 := Tryz.underlying166
  a183 := Tryz.isAgg166
  z183 := Tryz.sizeOf166
  v183 := Tryz.zeroValue166
  t218 := Tryz.underlying198
  a218 := Tryz.isAgg198
  z218 := Tryz.sizeOf198
  v218 := Tryz.zeroValue198
  t222 := Tryz.underlying202
  a222 := Tryz.isAgg202
  z222 := Tryz.sizeOf202
  v222 := Tryz.zeroValue202
  t228 := Tryz.underlying222
  a228 := Tryz.isAgg222
  z228 := Tryz.sizeOf222
  v228 := Tryz.zeroValue222
  t229 := Tryz.underlying143
  a229 := Tryz.isAgg143
  z229 := Tryz.sizeOf143
  v229 := Tryz.zeroValue143 }
open Go.Sort Go.RowKit in
theorem Tryz.slices_Sort_string (blk off cap : Nat) (ss : List (List UInt8)) (w : World) (hH : Holds encStr w blk off ss.toArray) (hblk : blk < w.heap.size) (hsz : ss.length < 4611686018427387904) :
    Calls Tryz.prog 29 #[.slice (some ⟨blk, off, none⟩) ss.length cap] w fun e w' =>
      e = .returned (.tuple #[]) ∧ ∃ n os, w' = grow (putRow encStr (Sort.ahead w n) blk off (ss.mergeSort fun x y => decide (x ≤ y)).toArray) os := Any.slices_Sort_string Tryz.lays190 blk off cap ss w hH hblk hsz
open Go.RowKit Go.Lib in
open Go.RowKit Go.Lib in
open Go.RowKit Go.Sort in
theorem Tryz.slices_Sort_string_none (p : Option Addr) (cap : Nat) (w : World) :
    Calls Tryz.prog 29 #[.slice p 0 cap] w fun e w' => e = .returned (.tuple #[]) ∧ w' = w := Any.slices_Sort_string_none Tryz.lays190 p cap w
end Go.Proofs
namespace Go.AM
open Go Go.Proofs Go.RowKit Go.Maps
theorem fault_k (p : List Pr) (rs : List ByteArray) (hp : PrsOk p) (hr : rs.length ≤ 200000000000000) (w : World) (pv rv : Value) (h : Rdw w (prs p) pv) (h2 : Rdw w (rules46 rs) rv) :
    Calls Tryz.prog 39 #[.agg #[pv], rv, .bool true] w fun e w' => e = .returned (.tuple #[.int .i64 (faultR p rs true).1, .int .i64 (faultR p rs true).2]) ∧ w.grownBy w' none := by
  have hr0 : RVs G00 w [prsAv p, .d (rules46 rs), B true] [.agg #[pv], rv, .bool true] := RVs.cons (.agg (vs := [pv]) rfl (fun i h1 h2 => by
      have : i = 0 := by simp at h1; omega
      subst this
      exact .d h) (by simpa using rdw_one h)) (RVs.cons (.d h2) (RVs.cons (.d (.raw rfl)) RVs.nil))
  refine ((fault_c p rs true hp hr _ _).plain hr0).mono ?_
  rintro e w' ⟨u, G', rfl, hu, hg⟩
  cases hu with
  | @tup _ vs hl hv =>
    match vs, hl with
    | [a, b], _ =>
      have h0 := hv 0 (by simp) (by simp)
      have h1 := hv 1 (by simp) (by simp)
      simp only [List.getElem_cons_zero, List.getElem_cons_succ] at h0 h1
      cases h0 with | d h0 => cases h1 with | d h1 => cases h0; cases h1; exact ⟨rfl, hg⟩
theorem proc_cells {w : World} {l : List Pr} {pv : Value} (h : Rdw w (prs l) pv) : ∃ A cap, pv = .slice A l.length cap ∧ l.length ≤ cap ∧ ∀ i (hi : i < l.length), ∃ b off A2 cap2, A = some ⟨b, off, none⟩ ∧ w.cell? ⟨b, off + i * 5, none⟩ = some (.string l[i].name) ∧ w.cell? ⟨b, off + i * 5 + 1, none⟩ = some (.int .i64 l[i].body.kind) ∧
    w.cell? ⟨b, off + i * 5 + 2, none⟩ = some (.string l[i].body.name) ∧ w.cell? ⟨b, off + i * 5 + 3, none⟩ = some (.int .i64 l[i].body.num) ∧ w.cell? ⟨b, off + i * 5 + 4, none⟩ = some (.slice A2 l[i].body.kids.length cap2) ∧ Rdw w (cms l[i].body.kids) (.slice A2 l[i].body.kids.length cap2) := by
  obtain ⟨A, cap, rfl, h1, h2, h3⟩ := rdw_sl h (by decide)
  refine ⟨A, cap, by rw [List.length_map], by simpa using h1, fun i hi => ?_⟩
  rcases h3 with h3 | ⟨b, off, rfl, hb, h3⟩
  · rw [List.map_eq_nil_iff] at h3; subst h3; simp at hi
  · obtain ⟨g1, g2⟩ := h3 i (by rw [List.length_map]; exact hi)
    have e : (l.map Pr.cells)[i]'(by rw [List.length_map]; exact hi) = Pr.cells l[i] := by rw [List.getElem_map]
    have k0 := g2 0 (by rw [g1]; decide)
    have k1 := g2 1 (by rw [g1]; decide)
    have k2 := g2 2 (by rw [g1]; decide)
    have k3 := g2 3 (by rw [g1]; decide)
    have k4 := g2 4 (by rw [g1]; decide)
    simp only [e, List.getElem_cons_zero, List.getElem_cons_succ] at k0 k1 k2 k3 k4
    obtain ⟨u0, c0, r0⟩ := k0
    obtain ⟨u1, c1, r1⟩ := k1
    obtain ⟨u2, c2, r2⟩ := k2
    obtain ⟨u3, c3, r3⟩ := k3
    obtain ⟨u4, c4, r4⟩ := k4
    cases rdw_raw r0
    cases rdw_raw r1
    cases rdw_raw r2
    cases rdw_raw r3
    obtain ⟨A2, cap2, rfl, _⟩ := YtedpnmlgbjcpcaaGreatDoor.collect.kid_cells r4
    exact ⟨b, off, A2, cap2, rfl, c0, c1, c2, c3, c4, r4⟩
def Kno (w : World) (base : Nat) (kv : Value) (p : List Pr) (i N : Nat) : Prop :=
  ∃ bs : List Nat, bs.length = i ∧ w.ownsRow base 102 1 kv i (bs.map fun b => Value.map (some b)) ∧ (∀ b ∈ bs, base ≤ b) ∧ ∀ j (h : j < bs.length), MapIs w bs[j] N ((knU p i).getD j [])
theorem Kno.zero (w : World) (base : Nat) (p : List Pr) (N : Nat) : Kno w base (.slice none 0 0) p 0 N := ⟨[], rfl, World.ownsRow_nil _ _ _ _, by simp, by simp⟩
theorem Kno.kept {w w' : World} {base : Nat} {kv : Value} {p : List Pr} {i N : Nat} {row : Option Nat} (h : Kno w base kv p i N) (hg : w.grownBy w' row) (hf : ∀ j, row = some j → w.heap.size ≤ j) : Kno w' base kv p i N := by
  obtain ⟨bs, h1, h2, h3, h4⟩ := h
  refine ⟨bs, h1, h2.kept hg ?_, h3, fun j hj => (h4 j hj).kept hg fun e => ?_⟩
  · cases e : kv.ownBlock with
    | none => exact .inl rfl
    | some g =>
      right
      intro e2
      have := (h2.lt g e).2
      have := hf g e2.symm
      omega
  · have := (h4 j hj).lt
    have := hf _ e.symm
    omega
theorem knw_of {w : World} {base : Nat} {kv : Value} {p : List Pr} {i N B : Nat} (h : Kno w base kv p i N) (hi : i ≤ p.length) (hB : w.heap.size ≤ B) : KnW w kv (knU p i) B N := by
  obtain ⟨bs, h1, h2, h3, h4⟩ := h
  have hl := knU_len (p := p) hi
  rcases h2.2 with ⟨rfl, h0⟩ | ⟨g, cap, cur, rfl, hb, hg, g1, g2, g3, g4⟩
  · exact ⟨⟨none, 0, by rw [hl, h0]⟩, fun j hj => by omega⟩
  · refine ⟨⟨_, cap, by rw [hl]⟩, fun j hj => ?_⟩
    have hj' : j < bs.length := by omega
    have hm := h4 j hj'
    refine ⟨g, 0, cap, bs[j], by rw [hl], ?_, ?_, ?_⟩
    · have := h2.cells rfl j (.map (some bs[j])) (by simp [hj'])
      have ha : Addr.add ⟨g, 0, none⟩ j = ⟨g, 0 + j, none⟩ := by
        unfold Addr.add
        split
        · rename_i e; subst e; simp
        · simp
      rwa [ha] at this
    · have := hm.lt; omega
    · have e : (knU p i).getD j [] = (knU p i)[j] := by simp [List.getD_eq_getElem?_getD, hj]
      rw [e] at hm
      exact hm
theorem own_ne_map {w : World} {base : Nat} {e : TypeId} {size : Nat} {v : Value} {n : Nat} {xs : List Value} (h : w.ownsRow base e size v n xs) {b N : Nat} {ks : List ByteArray} (hm : MapIs w b N ks) : some b ≠ v.ownBlock := by
  obtain ⟨es, c, hb⟩ := hm.isMap
  rcases h.2 with ⟨rfl, _⟩ | ⟨g, cap, cur, rfl, _, hg, _⟩
  · simp [Value.ownBlock]
  · intro e
    simp only [Value.ownBlock, Option.some.injEq] at e
    subst e
    rw [hb] at hg
    cases hg
theorem own_ne_owns {w : World} {base : Nat} {e : TypeId} {size : Nat} {v : Value} {n : Nat} {xs : List Value} (h : w.ownsRow base e size v n xs) {b N : Nat} {D : DataW Unit} {P : Program} {k : TypeId} {R : Value → Option (DataW Unit × List MemPlace)} (hm : w.ownsMap P k R b N D) : some b ≠ v.ownBlock := by
  obtain ⟨es, c, hb, _⟩ := hm
  rcases h.2 with ⟨rfl, _⟩ | ⟨g, cap, cur, rfl, _, hg, _⟩
  · simp [Value.ownBlock]
  · intro e
    simp only [Value.ownBlock, Option.some.injEq] at e
    subst e
    rw [hb] at hg
    cases hg
theorem sorted_one {L : List ByteArray} (hL : StrictU L) {ss : List Bs} (hn : ss.Nodup) (hm : ∀ x, x ∈ ss ↔ ofBs x ∈ L) : (ss.mergeSort fun x y => decide (x ≤ y)).map ofBs = L := by
  have hp := List.mergeSort_perm ss fun x y => decide (x ≤ y)
  refine strict_one ?_ hL fun y => ?_
  · have h1 := List.pairwise_mergeSort (le := fun x y : Bs => decide (x ≤ y)) (fun a b c h1 h2 => by simp only [decide_eq_true_eq] at *; exact List.le_trans h1 h2) (fun a b => by simp only [Bool.or_eq_true, decide_eq_true_eq]; exact List.le_total a b) ss
    have h2 : (ss.mergeSort fun x y => decide (x ≤ y)).Nodup := hp.symm.nodup hn
    refine List.pairwise_map.2 ((h1.and h2).imp fun {a b} h => ?_)
    obtain ⟨h3, h4⟩ := h
    simp only [decide_eq_true_eq] at h3
    simp only [bsOf_ofBs]
    rcases List.le_iff_lt_or_eq.1 h3 with h | h
    · exact h
    · exact absurd h h4
  · constructor
    · intro h
      obtain ⟨x, hx, rfl⟩ := List.mem_map.1 h
      exact (hm x).1 (hp.mem_iff.1 hx)
    · intro h
      refine List.mem_map.2 ⟨bsOf y, hp.mem_iff.2 ((hm _).2 (by rw [ofBs_bsOf]; exact h)), ofBs_bsOf y⟩
theorem valid_fm {p : List Pr} {rs : List ByteArray} {asked : Bool} (h : ∀ i (hi : i < p.length), prE p rs asked i p[i] = 0) : ∀ q ∈ p, q.body.Fm := by
  intro q hq
  obtain ⟨i, hi, rfl⟩ := List.getElem_of_mem hq
  have h4 := h i hi
  unfold prE at h4
  by_cases e1 : nameB p[i].name = false
  · rw [if_pos e1] at h4; cases h4
  rw [if_neg e1] at h4
  by_cases e2 : placeR p p[i].name < i
  · rw [if_pos e2] at h4; cases h4
  rw [if_neg e2] at h4
  by_cases e3 : 60 < p[i].body.size ∨ 6 < p[i].body.depth
  · rw [if_pos e3] at h4; cases h4
  rw [if_neg e3] at h4
  exact cmd_fm _ _ (Nat.lt_succ_self _) h4
end Go.AM
namespace Go.Proofs.YtedpnmlgbjcpcaaGreatDoor.uses
open Go Go.Proofs Go.RowKit Go.AM Go.Maps Go.Sort
theorem info9 : (Tryz.prog.info? 9).map (fun i => (i.zero, i.size, i.bytes)) = some (some (.string ⟨#[]⟩), 1, 16) := by kernel_rfl
theorem infoM : (Tryz.prog.info? 102).map (fun i => (i.zero, i.size, i.bytes)) = some (some (.map none), 1, 8) := by kernel_rfl
def Post (l : List ByteArray) (er : Int) (w : World) (e : Ending) (w' : World) : Prop :=
  ∃ v, e = .returned (.tuple #[v, .int .i64 er]) ∧ w'.ownsRow w.heap.size 9 1 v l.length (l.map fun s => Value.string s) ∧ Below w.heap.size w w'
theorem Post.nil {er : Int} {w w' : World} (h : w.grownBy w' none) : Post [] er w (.returned (.tuple #[.slice none 0 0, .int .i64 er])) w' :=
  ⟨_, rfl, World.ownsRow_nil _ _ _ _, h.os, h.tape, h.output, h.size, fun k hk => h.block k hk (by simp)⟩
set_option maxHeartbeats 4000000 in
set_option maxRecDepth 100000 in
theorem any (p : List Pr) (rs : List ByteArray) (s : ByteArray) (hp : PrsOk p) (hr : rs.length ≤ 999999) (pv rv : Value) (w : World) (hpv : Rdw w (prs p) pv) (hrv : Rdw w (rules46 rs) rv) :
    Calls Tryz.prog 19 #[.agg #[pv], rv, .string s] w (Post (usesR p rs s).1 (usesR p rs s).2 w) := by
  have hmm := @run_makeMap Tryz.prog
  obtain ⟨i9, hi9, hz90, hz91, hz92⟩ := info_parts info9
  obtain ⟨im, him, hzm0, hzm1, hzm2⟩ := info_parts infoM
  have hal := World.grownBy_alloc w (.cells #[pv] 24) none
  have hfa := fault_k p rs hp (by omega) (w.alloc (.cells #[pv] 24)) pv rv (rdw_grown hal (by simp) hpv) (rdw_grown hal (by simp) hrv)
  obtain ⟨U, hU⟩ : ∃ U, usesR p rs s = U := ⟨_, rfl⟩
  rw [hU]
  unfold usesR at hU
  have hval := fault_valid (p := p) (rs := rs) (asked := true)
  generalize faultR p rs true = F at *
  by_cases he : F.2 = 0
  · have be : (F.2 != 0) = false := by simp [he]
    rw [if_neg (by simp [he])] at hU
    obtain ⟨hv, h20, h1p, hpe⟩ := hval he
    have hfdep := fault_depth hpe
    have hir := valid_rules hpe
    have hfm := valid_fm hpe
    rw [he] at hfa
    generalize F.1 = F1 at hfa
    clear be he hval hpe
    have hrg := placeR_lt p s
    obtain ⟨A, cap, rfl, hcap, hcell⟩ := proc_cells hpv
    by_cases hneg : placeR p s < 0
    · rw [if_pos hneg] at hU
      subst hU
      go_enter Tryz.func19, Tryz.ntmps19
      go_wp2_with (first | (go_at_call 39; refine hfa.mono ?_) | go_in)
      rintro e w1 ⟨rfl, hg1⟩
      have hg01 := Gb.trans hal hg1
      have hpl := place_k p s hp.len w1 _ (rdw_grown hg01 (by simp) hpv)
      have hc0 : w1.cell? ⟨w.heap.size, 0, none⟩ = some (.slice A p.length cap) := hg1.cell (by simp) (by simp)
      go_wp2_with (first | (go_at_call 56; refine hpl.mono ?_) | go_in)
      rintro e w2 ⟨rfl, hg2⟩
      go_wp2
      go_ret2
      exact Post.nil (Gb.trans hg01 hg2)
    rw [if_neg hneg] at hU
    obtain ⟨k, hk⟩ : ∃ k : Nat, placeR p s = k := ⟨(placeR p s).toNat, by omega⟩
    rw [hk] at hU hrg hneg
    rw [Int.toNat_natCast] at hU hrg
    have hkl : k < p.length := by omega
    obtain ⟨b0, off0, rfl⟩ : ∃ b off, A = some ⟨b, off, none⟩ := by obtain ⟨b, off, _, _, h, _⟩ := hcell k hkl; exact ⟨b, off, h⟩
    have hwk : IntKind.i64.wrap ((k : Int) + 1) = ((k + 1 : Nat) : Int) := by rw [wrap_in (by omega) (by omega)]; rfl
    have hk1 : (k : Int) + 1 ≤ cap := by omega
    go_enter Tryz.func19, Tryz.ntmps19
    go_wp2_with (first
      | (go_at_call 39; refine hfa.mono ?_; rintro e w1 ⟨rfl, hg1⟩; have hg01 := Gb.trans hal hg1; have hpl := place_k p s hp.len w1 _ (rdw_grown hg01 (by simp) hpv); rw [hk] at hpl; have hc0 : w1.cell? ⟨w.heap.size, 0, none⟩ = some (.slice (some ⟨b0, off0, none⟩) p.length cap) := hg1.cell (by simp) (by simp))
      | (go_at_call 56; refine hpl.mono ?_; rintro e w2 ⟨rfl, hg2⟩; have hc2 : w2.cell? ⟨w.heap.size, 0, none⟩ = some (.slice (some ⟨b0, off0, none⟩) p.length cap) := hg2.cell hc0 (by simp))
      | go_in)
    have hg02 := Gb.trans hg01 hg2
    have hs2 : w.heap.size < w2.heap.size := by have := hg1.size; have := hg2.size; simp at *; omega
    clear hfa hpl hc0 hg1 hg2 hg01
    go_loopw [11, 37] (fun kv v wr => ∃ i : Nat, i ≤ k + 1 ∧ v = .int .i64 i ∧ Kno wr w2.heap.size kv p i rs.length ∧ Below w2.heap.size w2 wr) (fun _ v _ => k + 1 - (intOf v).toNat)
    case atStart => exact ⟨0, Nat.zero_le _, rfl, Kno.zero _ _ _ _, Below.refl _ _⟩
    case round =>
      obtain ⟨i, hi, rfl, hkno, hnx⟩ := hrel
      have hszr := hnx.size
      have d0 : wr.cell? ⟨w.heap.size, 0, none⟩ = some (.slice (some ⟨b0, off0, none⟩) p.length cap) := (hnx.cell (by exact hs2)).trans hc2
      by_cases hlt : i < k + 1
      · have hip : i < p.length := by omega
        have hlt' : (i : Int) < (k : Int) + 1 := by omega
        have hq := List.getElem_mem hip
        obtain ⟨b1, off1, A2, cap2, e1, c0, c1, c2, c3, c4, hkd⟩ := hcell i hip
        obtain ⟨rfl, rfl⟩ : b0 = b1 ∧ off0 = off1 := by injection e1 with e1; injection e1 with e1 e2; exact ⟨e1, e2⟩
        clear e1
        obtain ⟨bs, hbl, hown, hbb, hmaps⟩ := hkno
        have tr : ∀ {a : Addr} {v : Value}, w.cell? a = some v → wr.cell? a = some v := fun {a} {v} h => by
          have h2 := hg02.cell h (by simp)
          exact (World.cell?_of_block (w := w2) (hnx.block a.block (lt_of_cell h2))).trans h2
        have d1 := tr c0
        have d2 := tr c1
        have d3 := tr c2
        have d4 := tr c3
        have d5 := tr c4
        obtain ⟨hn1, hn2, hn3⟩ := hfdep _ hq
        have hfq := hfm _ hq
        have hku := knU_ok hir i (by omega)
        have hin := uC_in (p := p) hku.mem _ p[i].body (Nat.lt_succ_self _) (hir _ hq)
        have hsucc := knU_succ hip
        have hco : CallsOk p (knU p i).length p[i].body := by rw [knU_len (by omega)]; exact hv i hip
        have hgw : w.grownBy wr none := ⟨hnx.os.trans hg02.os, hnx.tape.trans hg02.tape, hnx.output.trans hg02.output, Nat.le_trans hg02.size hnx.size, fun j hj _ => (hnx.block j (Nat.lt_of_lt_of_le hj hg02.size)).trans (hg02.block j hj (by simp))⟩
        generalize p[i] = q at *
        have ha1 := World.grownBy_alloc wr (.cells #[.string q.name, .int .i64 q.body.kind, .string q.body.name, .int .i64 q.body.num, .slice A2 q.body.kids.length cap2] 53) none
        have ha2 := World.grownBy_alloc (wr.alloc (.cells #[.string q.name, .int .i64 q.body.kind, .string q.body.name, .int .i64 q.body.num, .slice A2 q.body.kids.length cap2] 53)) (.map #[] 0) none
        have ha := Gb.trans ha1 ha2
        have hmk := MapIs.made (wr.alloc (.cells #[.string q.name, .int .i64 q.body.kind, .string q.body.name, .int .i64 q.body.num, .slice A2 q.body.kids.length cap2] 53))
        have hBsz : (wr.alloc (.cells #[.string q.name, .int .i64 q.body.kind, .string q.body.name, .int .i64 q.body.num, .slice A2 q.body.kids.length cap2] 53)).heap.size = wr.heap.size + 1 := by simp
        rw [hBsz] at hmk
        have hkw : KnW ((wr.alloc (.cells #[.string q.name, .int .i64 q.body.kind, .string q.body.name, .int .i64 q.body.num, .slice A2 q.body.kids.length cap2] 53)).alloc (.map #[] 0)) u11 (knU p i) (wr.heap.size + 1) rs.length :=
          ((knw_of ⟨bs, hbl, hown, hbb, hmaps⟩ (by omega) (by omega)).alloc _).alloc _
        have hcall := YtedpnmlgbjcpcaaGreatDoor.collect.any p hp.len (knU p i) (rs.length + 1) (by omega) (by omega) (fun l hl => by have := hku.len l hl; omega) _ q.body (Nat.lt_succ_self _) (by omega) hfq hco (.slice (some ⟨b0, off0, none⟩) p.length cap) (.slice A2 q.body.kids.length cap2) u11 (wr.heap.size + 1) 0 rs.length []
          ((wr.alloc (.cells #[.string q.name, .int .i64 q.body.kind, .string q.body.name, .int .i64 q.body.num, .slice A2 q.body.kids.length cap2] 53)).alloc (.map #[] 0))
          (by have := Nat.mul_le_mul hn2 (show rs.length + 1 ≤ 1000000 by omega); omega) (rdw_grown (Gb.trans hgw ha) (by simp) hpv) (rdw_grown (Gb.trans hgw ha) (by simp) hkd) hmk hkw
        have d6 : ((wr.alloc (.cells #[.string q.name, .int .i64 q.body.kind, .string q.body.name, .int .i64 q.body.num, .slice A2 q.body.kids.length cap2] 53)).alloc (.map #[] 0)).cell? ⟨w.heap.size, 0, none⟩ = some (.slice (some ⟨b0, off0, none⟩) p.length cap) := ha.cell d0 (by simp)
        clear hcell hpv hrv hkd hgw hmk hkw tr ha1 ha2 hBsz
        go_wp2_with (first
          | (go_at_call 57; refine hcall.mono ?_; rintro e w4 ⟨rfl, hB4, hg4⟩; have hg5 : wr.grownBy w4 (some (wr.heap.size + 1)) := Gb.trans (Gb.none ha) hg4; obtain ⟨bs4, hbl4, hown4, hbb4, hm4⟩ := Kno.kept ⟨bs, hbl, hown, hbb, hmaps⟩ hg5 (fun j e => by injection e with e; omega))
          | (at_builtin; refine wpList_append_own _ rfl _ _ 101 rfl w2.heap.size 102 im (.map none) 1 8 Tryz.underlying101 him hzm0 hzm1 hzm2 rfl (by decide) _ _ _ rfl (hown4.alloc _) ⟨w4.heap.size, 0, none⟩ 1 1 [.map (some (wr.heap.size + 1))] rfl rfl ?c1 ?c2 ?c3 ?c4 ?c5 ?_)
          | go_in)
        case c1 =>
          intro j u hj
          match j, hj with
          | 0, hj => simp at hj; subst hj; simp [Addr.add]
        case c2 => intro u hu; simp at hu; subst hu; rfl
        case c3 => unfold maxLen; omega
        case c4 => omega
        case c5 => have := hg5.size; simp; omega
        intro v' w5 hown5 hg6 hnil5
        have hg7 : (w4.alloc (.cells #[.map (some (wr.heap.size + 1))] 102)).heap.size = w4.heap.size + 1 := by simp
        have hkn5 : Kno w5 w2.heap.size v' p (i + 1) rs.length := by
          refine ⟨bs4 ++ [wr.heap.size + 1], by simp [hbl4], by simpa using hown5, fun b hb => ?_, fun j hj => ?_⟩
          · rcases List.mem_append.1 hb with hb | hb
            · exact hbb4 b hb
            · simp at hb; omega
          · have hkl0 := knU_len (p := p) (n := i) (by omega)
            rw [hsucc]
            by_cases hji : j < bs4.length
            · rw [List.getElem_append_left hji, List.getD_eq_getElem?_getD, List.getElem?_append_left (by omega), ← List.getD_eq_getElem?_getD]
              exact ((hm4 j hji).alloc _).kept hg6 (own_ne_map hown4 (hm4 j hji))
            · obtain rfl : j = bs4.length := by simp at hj; omega
              rw [List.getElem_append_right (by omega), List.getD_eq_getElem?_getD, List.getElem?_append_right (by omega)]
              simp only [Nat.sub_self, List.getElem_cons_zero, hkl0, hbl4, List.getElem?_cons_zero, Option.getD_some]
              have h1 := (hB4.alloc (.cells #[.map (some (wr.heap.size + 1))] 102)).kept hg6 (own_ne_map hown4 hB4)
              have h2 : MapIs w5 (wr.heap.size + 1) (sortU (uC p (knU p i) q.body)).length (sortU (uC p (knU p i) q.body)) :=
                (h1.tight (l := sortU (uC p (knU p i) q.body)) fun y hy => mem_sortU.2 (by simpa using hy)).congr fun y => by rw [mem_sortU]; simp
              exact h2.mono (sortU_len_le hin)
        have hnx5 : Below w2.heap.size w2 w5 := by
          refine ⟨hg6.os.trans (hg5.os.trans hnx.os), hg6.tape.trans (hg5.tape.trans hnx.tape), hg6.output.trans (hg5.output.trans hnx.output), ?_, fun j hj => ?_⟩
          · have := hg6.size; have := hg5.size; omega
          · have h1 := hg6.block j (by rw [hg7]; have := hg5.size; omega) (fun e => by have := (hown4.lt j e.symm).1; omega)
            have h2 : (w4.alloc (.cells #[.map (some (wr.heap.size + 1))] 102)).heap[j]? = w4.heap[j]? := (World.grownBy_alloc w4 _ none).block j (by have := hg5.size; omega) (by simp)
            exact h1.trans (h2.trans ((hg5.block j (by omega) (fun e => by injection e with e; omega)).trans (hnx.block j hj)))
        clear hg6 hg7 hg5 hcall hown5 hm4 hB4 hown4 hmaps hown d6 d5 d4 d3 d2 d1 c0 c1 c2 c3 c4 ha
        go_wp2
        exact ⟨⟨i + 1, by omega, by simp, hkn5, hnx5⟩, by simp [intOf]; omega⟩
      · obtain rfl : i = k + 1 := by omega
        have hge : ¬ ((k : Int) + 1 < (k : Int) + 1) := by omega
        obtain ⟨bs, hbl, hown, hbb, hmaps⟩ := hkno
        have hku := knU_ok hir (k + 1) (by omega)
        obtain ⟨L, hL⟩ : ∃ L, (knU p (k + 1)).getD k [] = L := ⟨_, rfl⟩
        have hmem : L ∈ knU p (k + 1) := by
          have := knU_len (p := p) (n := k + 1) (by omega)
          rw [← hL, List.getD_eq_getElem?_getD, List.getElem?_eq_getElem (by omega)]
          exact List.getElem_mem _
        have hLl := hku.len L hmem
        have hLs := hku.strict L hmem
        rw [hL] at hU
        have hkb : k < bs.length := by omega
        have hmk := hmaps k hkb
        rw [hL] at hmk
        rcases hown.2 with ⟨_, h0⟩ | ⟨g, gcap, cur, rfl, _, _, _⟩
        · omega
        have hck : wr.cell? ⟨g, k, none⟩ = some (.map (some bs[k])) := by
          have := hown.cells rfl k (.map (some bs[k])) (by simp [hkb])
          have ha : Addr.add ⟨g, 0, none⟩ k = ⟨g, k, none⟩ := by
            unfold Addr.add
            split
            · rename_i e; subst e; rfl
            · simp
          rwa [ha] at this
        generalize bs[k] = bj at *
        obtain ⟨D0, hmo, hmm2⟩ := hmk
        have hkl2 : (k : Int) < ((k + 1 : Nat) : Int) := by omega
        have hw0 : Below w.heap.size w wr := ⟨hnx.os.trans hg02.os, hnx.tape.trans hg02.tape, hnx.output.trans hg02.output, Nat.le_trans hg02.size hnx.size, fun j hj => (hnx.block j (Nat.lt_of_lt_of_le hj hg02.size)).trans (hg02.block j hj (by simp))⟩
        have hbjl := hmo.lt
        clear hcell hpv hrv hmaps hown d0 hc2 hg02 hnx hv hfdep hir hfm hku hmem hbb hp
        go_wp2_with (first | (at_range; refine wpList_range_own _ rfl _ 102 rfl 9 4 lawStr Tryz.underlying102 _ bj _ D0 rfl hmo ?_; intro wa hrg0 hg0 hs0) | go_in)
        have hwa : Below w.heap.size w wa := hw0.grown hg0 (by omega) (fun j hj => by cases hj)
        have hRl : w.heap.size ≤ wr.heap.size := hw0.size
        clear hw0 hszr hs0 hmo
        generalize wr.heap.size = R at *
        go_loopw [15] (fun v wb => ∃ (left : Lit → Bool) (cnt : Nat) (ss : List Bs), wb.ranges Tryz.prog 9 (plainElem Tryz.prog 4) bj R rs.length D0 left cnt ∧ Collected D0 left ss ∧ ss.length ≤ L.length ∧
          wb.ownsRow w.heap.size 9 1 v ss.length (ss.map encStr) ∧ Below w.heap.size w wb) (fun _ wb => wb.rangeLeft bj R)
        case atStart => exact ⟨_, _, [], hrg0, Collected.start D0, Nat.zero_le _, World.ownsRow_nil _ _ _ _, hwa⟩
        case round =>
          clear hrg0 hg0 hwa hck
          obtain ⟨left, cnt, ss, hrg, hC, hsl, hrow, hnx⟩ := hrel
          have hsz := hnx.size
          go_wp2_with (first
            | (at_next; refine wpList_next_ranges _ rfl _ rfl 9 lawStr (plainElem Tryz.prog 4) encStr (fun v : Value => v) (fun key kl h => by obtain ⟨x, hx, _⟩ := Maps.keyOf_str Tryz.underlying9 h; exact ⟨x, hx⟩) (fun v y h => ⟨v, rfl⟩) bj R _ _ _ _ rfl hrg ?_ ?_)
            | go_in)
          · intro hc0 hl0
            have hfin := sorted_one hLs hC.1 (fun x => by rw [← hmm2, bsOf_ofBs, hC.2]; simp [hl0])
            subst hU
            have hLL : L.map (fun s => Value.string s) = (ss.mergeSort fun x y => decide (x ≤ y)).map encStr := by rw [← hfin, List.map_map]; rfl
            have hLen : L.length = ss.length := by rw [← hfin, List.length_map, List.length_mergeSort]
            rcases hrow.2 with ⟨rfl, h0⟩ | ⟨g2, cap3, cur3, rfl, hbase, hb, h1, h2, h3, h4⟩
            · have hc := Tryz.slices_Sort_string_none none 0 wr
              obtain rfl : ss = [] := List.length_eq_zero_iff.1 h0
              have hL0 : L = [] := List.length_eq_zero_iff.1 hLen
              subst hL0
              go_wp2_with (first | (go_at_call 29; refine hc.mono ?_; rintro e w' ⟨rfl, rfl⟩) | go_in)
              go_ret2
              exact ⟨_, rfl, World.ownsRow_nil _ _ _ _, hnx⟩
            · have hH : Holds encStr wr g2 0 ss.toArray := holds_of_block hb (by simpa using h4)
              have hc := Tryz.slices_Sort_string g2 0 cap3 ss wr hH (Array.getElem?_eq_some_iff.1 hb).1 (by omega)
              go_wp2_with (first | (go_at_call 29; refine hc.mono ?_; rintro e w' ⟨rfl, nn, os, rfl⟩) | go_in)
              go_ret2
              refine ⟨_, rfl, ?_, hnx.grown (grownBy_sorted _) hnx.size (fun j hj => by cases hj; exact hbase)⟩
              rw [hLL, hLen]
              exact ownsRow_sorted (by simp) hbase hb h1 h2 h3
          · intro x c kl yd yp wc cnt3 hkey hlk hv hat hrg3 hlt3 hg3 hs3 hen
            obtain ⟨x', ex, rfl, hxl⟩ := Maps.keyOf_str Tryz.underlying9 hkey
            obtain rfl : x = x' := encStr_inj ex
            have hC3 := hC.step hlk hat
            have hbd : (ss ++ [x]).length ≤ L.length := by
              have h1 : ((ss ++ [x]).map ofBs).Nodup := by
                refine List.pairwise_map.2 (hC3.1.imp fun {a b} hab e => hab ?_)
                have := congrArg bsOf e
                simpa using this
              have h2 := h1.length_le_of_subset (l₂ := L) fun y hy => by
                obtain ⟨z, hz, rfl⟩ := List.mem_map.1 hy
                exact (hmm2 _).1 (by rw [bsOf_ofBs]; exact ((hC3.2 z).1 hz).1)
              simpa using h2
            have hbd2 : ss.length + 1 ≤ 999999 := by simp at hbd; omega
            have hrow3 := hrow.kept hg3 (Or.inr (row_ne_iter hrow hrg).symm)
            have hnx3 : Below w.heap.size w wc := hnx.grown hg3 hnx.size (fun j hj => by injection hj with hj; subst hj; exact hRl)
            clear hs3
            go_wp2_with (first
              | (at_builtin; refine wpList_append_own _ rfl _ _ 34 rfl w.heap.size 9 i9 (.string ⟨#[]⟩) 1 16 Tryz.underlying34 hi9 hz90 hz91 hz92 rfl (by decide) _ _ _ rfl (hrow3.alloc _) ⟨wc.heap.size, 0, none⟩ 1 1 [encStr x] rfl rfl ?c1 ?c2 ?c3 ?c4 ?c5 ?_)
              | go_in)
            case c2 => rfl
            case c3 => unfold maxLen; omega
            case c4 => omega
            case c5 => have := hnx3.size; simp; omega
            intro v' wd hown' hg4 hnil4
            have hrg4 := (hrg3.alloc (.cells #[encStr x] 9)).kept hg4 (own_ne_owns hrow3 hrg3.owns) (row_ne_iter hrow3 hrg3)
            have hnx4 : Below w.heap.size w wd := (hnx3.alloc (by have := hnx3.size; omega) _).grown hg4 (by have := hnx3.size; simp; omega) (fun j hj => (hrow3.lt j hj).1)
            have hown2 : wd.ownsRow w.heap.size 9 1 v' (ss ++ [x]).length ((ss ++ [x]).map encStr) := by simpa using hown'
            clear hown' hg4 hg3 hrow hrow3 hnx hnx3
            go_wp2
            exact ⟨⟨_, cnt3, ss ++ [x], hrg4, hC3, hbd, hown2, hnx4⟩, by rw [hrg4.left_eq, hrg.left_eq]; exact hlt3⟩
  · have be : (F.2 != 0) = true := by simp [he]
    rw [if_pos he] at hU
    subst hU
    go_enter Tryz.func19, Tryz.ntmps19
    go_wp2_with (first | (go_at_call 39; refine hfa.mono ?_) | go_in)
    rintro e w1 ⟨rfl, hg1⟩
    go_wp2
    go_ret2
    exact Post.nil (Gb.trans hal hg1)
end Go.Proofs.YtedpnmlgbjcpcaaGreatDoor.uses
namespace Go.AM
open Go Go.Proofs Go.RowKit
theorem rvd_ownS {G : Gh} {w w' : World} {m : AMem} (hm : RelM G m w) {v : Value} {xs : List ByteArray} (h : w'.ownsRow w.heap.size 9 1 v xs.length (xs.map fun s => Value.string s)) : RVd w'.cell? G.ps (strs xs) v := by
  rcases h.2 with ⟨rfl, h0⟩ | ⟨g, cap, cur, rfl, hb, hg, h1, h2, h3, h4⟩
  · obtain rfl : xs = [] := List.length_eq_zero_iff.1 h0
    exact .sl (es := []) (fun _ _ => default) (Nat.le_refl _) (by decide) (by simp) (by simp) (by simp) (by simp)
  · have hl : xs.length = (xs.map fun n => [D.raw (.string n)]).length := by simp
    have hat : ∀ i, i < xs.length → cur[i]? = some (.string (xs.getD i ⟨#[]⟩)) := fun i hi => by
      have e : (cur.toList.take (xs.length * 1))[i]? = (xs.map (fun s => Value.string s))[i]? := by rw [h4]
      rw [List.getElem?_take, if_pos (by omega), Array.getElem?_toList, List.getElem?_map, List.getElem?_eq_getElem hi] at e
      rw [e]
      simp [hi]
    conv => rhs; rw [hl]
    refine .sl (fun i _ => .string (xs.getD i ⟨#[]⟩)) (by simpa using h1) h2 (fun e he => ?_) (fun _ => ⟨_, rfl⟩) (fun a ha i j hi hj => ?_) (fun i j hi hj => ?_)
    · obtain ⟨y, _, rfl⟩ := List.mem_map.1 he
      rfl
    · cases ha
      have hi' : i < xs.length := by simpa using hi
      have hj0 : j = 0 := by omega
      subst hj0
      refine ⟨?_, ?_⟩
      · unfold Gh.ps
        have hbl : (Addr.add ⟨g, 0, none⟩ (i * 1 + 0)).block = g := by unfold Addr.add; split <;> rfl
        rw [hbl, hm.fresh g hb]
        trivial
      · have ha : Addr.add ⟨g, 0, none⟩ (i * 1 + 0) = ⟨g, i, none⟩ := by
          unfold Addr.add
          split
          · rename_i h0; congr 1; omega
          · simp
        rw [ha]
        simp only [World.cell?, hg, Option.isSome_none, Bool.false_eq_true, if_false]
        exact hat i hi'
    · simp only [List.length_map] at hi
      simp only [List.getElem_map, List.length_cons, List.length_nil] at hj ⊢
      have hj0 : j = 0 := by omega
      subst hj0
      have e : xs.getD i ⟨#[]⟩ = xs[i] := by simp [hi]
      simp only [List.getElem_cons_zero, e]
      exact .raw rfl
theorem uses_c (p : List Pr) (rs : List ByteArray) (s : ByteArray) (hp : PrsOk p) (hr : rs.length ≤ 999999) (tok : Nat → Bool) (nt : Nat) :
    DCall Tryz.prog 19 [prsAv p, .d (rules46 rs), Sb s] tok nt (.tup [.d (strs (usesR p rs s).1), I (usesR p rs s).2]) tok nt := by
  intro box nb
  refine ⟨Enters.mk Tryz.func19 rfl (by kernel_rfl), fun G w vals hm hr0 => ?_⟩
  obtain ⟨hlen, hrv⟩ := hr0
  match vals, hlen with
  | [v0, v1, v2], _ =>
    have h0 := hrv 0 (by simp) (by simp)
    have h1 := hrv 1 (by simp) (by simp)
    have h2 := hrv 2 (by simp) (by simp)
    simp only [List.getElem_cons_zero, List.getElem_cons_succ] at h0 h1 h2
    have tr : ∀ {x : D} {v : Value}, RVd w.cell? G.ps x v → Rdw w x v := fun h => h.mono fun a u _ hc => ⟨trivial, hc⟩
    cases h1 with | d h1 =>
    cases h2 with | d h2 =>
    cases h2
    cases h0 with
    | @agg _ vs hl hv ho =>
      match vs, hl with
      | [pv], _ =>
        have hv0 := hv 0 (by simp) (by simp)
        simp only [List.getElem_cons_zero] at hv0
        cases hv0 with | d hv0 =>
        refine (YtedpnmlgbjcpcaaGreatDoor.uses.any p rs s hp hr pv v1 w (tr hv0) (tr h1)).mono ?_
        rintro e w' ⟨v, rfl, hown, hb⟩
        refine ⟨_, _, _, G, rfl, ⟨rfl, rfl⟩, rfl, Bw.rel hm hb, ?_, Bw.le hm hb, fun k hk => ⟨hk, rfl⟩⟩
        exact .tup (vs := [v, .int .i64 (usesR p rs s).2]) rfl fun i h1 h2 => (RVs.cons (.d (rvd_ownS hm hown)) (RVs.cons (.d (.raw rfl)) RVs.nil)).2 i h1 h2
end Go.AM
namespace Go.AM
open Go Go.Proofs Go.RowKit
theorem rdw_ownS {w : World} {base : Nat} {v : Value} {xs : List ByteArray} (h : w.ownsRow base 9 1 v xs.length (xs.map fun s => Value.string s)) : Rdw w (strs xs) v := by
  rcases h.2 with ⟨rfl, h0⟩ | ⟨g, cap, cur, rfl, hb, hg, h1, h2, h3, h4⟩
  · obtain rfl : xs = [] := List.length_eq_zero_iff.1 h0
    exact .sl (es := []) (fun _ _ => default) (Nat.le_refl _) (by decide) (by simp) (by simp) (by simp) (by simp)
  · have hl : xs.length = (xs.map fun n => [D.raw (.string n)]).length := by simp
    have hat : ∀ i, i < xs.length → cur[i]? = some (.string (xs.getD i ⟨#[]⟩)) := fun i hi => by
      have e : (cur.toList.take (xs.length * 1))[i]? = (xs.map (fun s => Value.string s))[i]? := by rw [h4]
      rw [List.getElem?_take, if_pos (by omega), Array.getElem?_toList, List.getElem?_map, List.getElem?_eq_getElem hi] at e
      rw [e]
      simp [hi]
    conv => rhs; rw [hl]
    refine .sl (fun i _ => .string (xs.getD i ⟨#[]⟩)) (by simpa using h1) h2 (fun e he => ?_) (fun _ => ⟨_, rfl⟩) (fun a ha i j hi hj => ?_) (fun i j hi hj => ?_)
    · obtain ⟨y, _, rfl⟩ := List.mem_map.1 he
      rfl
    · cases ha
      have hi' : i < xs.length := by simpa using hi
      have hj0 : j = 0 := by omega
      subst hj0
      refine ⟨trivial, ?_⟩
      have ha : Addr.add ⟨g, 0, none⟩ (i * 1 + 0) = ⟨g, i, none⟩ := by
        unfold Addr.add
        split
        · rename_i h0; congr 1; omega
        · simp
      rw [ha]
      simp only [World.cell?, hg, Option.isSome_none, Bool.false_eq_true, if_false]
      exact hat i hi'
    · simp only [List.length_map] at hi
      simp only [List.getElem_map, List.length_cons, List.length_nil] at hj ⊢
      have hj0 : j = 0 := by omega
      subst hj0
      have e : xs.getD i ⟨#[]⟩ = xs[i] := by simp [hi]
      simp only [List.getElem_cons_zero, e]
      exact .raw rfl
theorem contains_k (xs : List ByteArray) (s : ByteArray) (hx : xs.length ≤ 1000000) (w : World) (v : Value) (h : Rdw w (strs xs) v) :
    Calls Tryz.prog 64 #[v, .string s] w fun e w' => e = .returned (.bool (memS xs s)) ∧ w.grownBy w' none := by
  have hr : RVs G00 w [.d (strs xs), Sb s] [v, .string s] := RVs.cons (.d h) (RVs.cons (.d (.raw rfl)) RVs.nil)
  refine ((containsS_c xs s hx _ _).plain hr).mono ?_
  rintro e w' ⟨u, G', rfl, hu, hg⟩
  cases hu with | d hu => cases hu; exact ⟨rfl, hg⟩
structure Gs (base : Nat) (w w' : World) : Prop where
  os : w'.os = w.os
  tape : w'.tape = w.tape
  output : w'.output = w.output
  size : w.heap.size ≤ w'.heap.size
  block : ∀ b, b < w.heap.size → (b < base ∨ ∀ cur f, w.heap[b]? ≠ some (.cells cur 9 f)) → w'.heap[b]? = w.heap[b]?
theorem Gs.refl (base : Nat) (w : World) : Gs base w w := ⟨rfl, rfl, rfl, Nat.le_refl _, fun _ _ _ => rfl⟩
theorem Gs.trans {base : Nat} {a b c : World} (h : Gs base a b) (k : Gs base b c) : Gs base a c :=
  ⟨k.os.trans h.os, k.tape.trans h.tape, k.output.trans h.output, Nat.le_trans h.size k.size, fun i hi hh => by
    have h1 := h.block i hi hh
    exact (k.block i (Nat.lt_of_lt_of_le hi h.size) (hh.imp id fun h2 cur f => by rw [h1]; exact h2 cur f)).trans h1⟩
theorem Gs.grown {base : Nat} {w w' : World} (h : w.grownBy w' none) : Gs base w w' := ⟨h.os, h.tape, h.output, h.size, fun b hb _ => h.block b hb (by simp)⟩
theorem Gs.row {base : Nat} {w w' : World} {v : Value} {n : Nat} {xs : List Value} (ho : w.ownsRow base 9 1 v n xs) (h : w.grownBy w' v.ownBlock) : Gs base w w' :=
  ⟨h.os, h.tape, h.output, h.size, fun b hb hh => h.block b hb fun e => by
    rcases ho.2 with ⟨rfl, _⟩ | ⟨g, cap, cur, rfl, h1, h2, _⟩
    · cases e
    · simp only [Value.ownBlock, Option.some.injEq] at e
      subst e
      rcases hh with hh | hh
      · omega
      · exact hh _ _ h2⟩
theorem Gs.alloc (base : Nat) (w : World) (o : Obj) : Gs base w (w.alloc o) := .grown (World.grownBy_alloc w o none)
theorem Gs.cell {base : Nat} {w w' : World} (h : Gs base w w') {a : Addr} {u : Value} (hc : w.cell? a = some u) (hn : a.block < base ∨ ∀ cur f, w.heap[a.block]? ≠ some (.cells cur 9 f)) : w'.cell? a = some u := by
  rw [World.cell?_of_block (w := w) (h.block a.block (lt_of_cell hc) hn)]
  exact hc
abbrev Rdb (w : World) (base : Nat) (x : D) (v : Value) : Prop := RVd w.cell? (fun a => a.block < base) x v
theorem Rdb.of {w : World} {x : D} {v : Value} (h : Rdw w x v) : Rdb w w.heap.size x v := h.mono fun a u _ hc => ⟨lt_of_cell hc, hc⟩
theorem Rdb.rdw {w : World} {base : Nat} {x : D} {v : Value} (h : Rdb w base x v) : Rdw w x v := h.mono fun a u _ hc => ⟨trivial, hc⟩
theorem Rdb.keep {w w' : World} {base : Nat} {x : D} {v : Value} (h : Rdb w base x v) (hg : Gs base w w') : Rdb w' base x v := h.mono fun a u hb hc => ⟨hb, hg.cell hc (.inl hb)⟩
theorem rdb_sl {w : World} {base sz : Nat} {es : List (List D)} {v : Value} (h : Rdb w base (.sl sz es) v) : ∃ A cap, v = .slice A es.length cap ∧ ∀ i (hi : i < es.length), es[i].length = sz ∧ ∀ j (hj : j < es[i].length), ∃ a u, A = some a ∧ (a.add (i * sz + j)).block < base ∧ w.cell? (a.add (i * sz + j)) = some u ∧ Rdb w base es[i][j] u := by
  cases h with
  | sl u hcap hmax hsz hA hc hr =>
    refine ⟨_, _, rfl, fun i hi => ⟨hsz _ (List.getElem_mem hi), fun j hj => ?_⟩⟩
    obtain ⟨a, rfl⟩ := hA (fun e => by subst e; simp at hi)
    obtain ⟨c1, c2⟩ := hc a rfl i j hi (by rw [hsz _ (List.getElem_mem hi)] at hj; exact hj)
    exact ⟨a, u i j, rfl, c1, c2, hr i j hi hj⟩
theorem kid_cellsB {w : World} {base : Nat} {l : List Cm} {sv : Value} (h : Rdb w base (cms l) sv) : ∃ A cap, sv = .slice A l.length cap ∧ ∀ i (hi : i < l.length), ∃ b off u, A = some ⟨b, off, none⟩ ∧ b < base ∧ w.cell? ⟨b, off + i * 4, none⟩ = some (.int .i64 l[i].kind) ∧ w.cell? ⟨b, off + i * 4 + 1, none⟩ = some (.string l[i].name) ∧
    w.cell? ⟨b, off + i * 4 + 2, none⟩ = some (.int .i64 l[i].num) ∧ w.cell? ⟨b, off + i * 4 + 3, none⟩ = some u ∧ Rdb w base (cms l[i].kids) u := by
  obtain ⟨A, cap, rfl, hk⟩ := YtedpnmlgbjcpcaaGreatDoor.collect.kid_cells h.rdw
  refine ⟨A, cap, rfl, fun i hi => ?_⟩
  obtain ⟨b, off, u, rfl, c0, c1, c2, c3, _⟩ := hk i hi
  obtain ⟨A2, cap2, e, h2⟩ := rdb_sl h
  obtain ⟨rfl, _⟩ : A2 = some ⟨b, off, none⟩ ∧ True := by injection e with e _ _; exact ⟨e.symm, trivial⟩
  have hi2 : i < (l.map Cm.cells).length := by rw [List.length_map]; exact hi
  obtain ⟨g1, g2⟩ := h2 i hi2
  have e2 : (l.map Cm.cells)[i] = [.raw (.int .i64 l[i].kind), .raw (.string l[i].name), .raw (.int .i64 l[i].num), cms l[i].kids] := by rw [List.getElem_map, Cm.cells_eq]
  obtain ⟨a, u3, ha, hb, hc, hr⟩ := g2 3 (by rw [g1]; decide)
  cases ha
  have had : (Addr.add ⟨b, off, none⟩ (i * 4 + 3)) = ⟨b, off + i * 4 + 3, none⟩ := by
    unfold Addr.add
    split
    · rename_i h0; simp at h0
    · simp [Nat.add_assoc]
  rw [had] at hb hc
  rw [c3] at hc
  injection hc with hc
  subst hc
  simp only [e2, List.getElem_cons_zero, List.getElem_cons_succ] at hr
  exact ⟨b, off, u, rfl, hb, c0, c1, c2, c3, hr⟩
end Go.AM
namespace Go.AM
open Go Go.Proofs Go.RowKit
theorem apC_len : ∀ (n : Nat) (c : Cm), c.size < n → ∀ xs : List ByteArray, (apC c xs).1.length ≤ xs.length + c.size
  | 0, c, h => absurd h (Nat.not_lt_zero _)
  | n + 1, c, hn => fun xs => by
    have key : ∀ (r : List Cm) (a : List ByteArray × Bool), (∀ x ∈ r, x.size < n) → (apL c.kind r a).1.length ≤ a.1.length + Cm.sizeL r := by
      intro r
      induction r with
      | nil => intro a _; rw [apL]; simp [Cm.sizeL]
      | cons x r ih =>
        intro a hx
        have h1 := apC_len n x (hx x (by simp)) a.1
        have h2 := ih ((apC x a.1).1, a.2 && (apC x a.1).2 && !(decide (c.kind = 2) && decide (x.kind = 2))) fun y hy => hx y (by simp [hy])
        rw [apL, Cm.sizeL]
        simp only at h2
        omega
    rw [apC_eq, c.size_eq]
    have h := key c.kids (if c.kind = 1 ∧ memS xs c.name = false then xs ++ [c.name] else xs, !decide (c.kind = 10)) fun x hx => by have := Cm.kid_size hx; omega
    have h2 : (if c.kind = 1 ∧ memS xs c.name = false then xs ++ [c.name] else xs).length ≤ xs.length + 1 := by split <;> simp
    simp only at h
    omega
theorem apL_len (k : Int) : ∀ (r : List Cm) (a : List ByteArray × Bool), (apL k r a).1.length ≤ a.1.length + Cm.sizeL r
  | [], a => by rw [apL]; simp [Cm.sizeL]
  | x :: r, a => by
    have h1 := apC_len _ x (Nat.lt_succ_self _) a.1
    have h2 := apL_len k r ((apC x a.1).1, a.2 && (apC x a.1).2 && !(decide (k = 2) && decide (x.kind = 2)))
    rw [apL, Cm.sizeL]
    simp only at h2
    omega
theorem apL_take {k : Int} {l : List Cm} {a : List ByteArray × Bool} {i : Nat} (h : i < l.length) : apL k (l.take (i + 1)) a = ((apC l[i] (apL k (l.take i) a).1).1, (apL k (l.take i) a).2 && (apC l[i] (apL k (l.take i) a).1).2 && !(decide (k = 2) && decide (l[i].kind = 2))) := by
  rw [List.take_succ_eq_append_getElem h, apL_app, apL, apL]
theorem alloc_at (w : World) (o : Obj) : (w.alloc o).heap[w.heap.size]? = some o := by unfold World.alloc; exact Array.getElem?_push_size
theorem cell_cmd {base : Nat} {w w' : World} (h : Gs base w w') {b o : Nat} {u : Value} {cs : Array Value} {f : Nat × Nat} (hb : w.heap[b]? = some (.cells cs 44 f)) (hc : w.cell? ⟨b, o, none⟩ = some u) : w'.cell? ⟨b, o, none⟩ = some u :=
  h.cell hc (.inr fun cur f2 e => by
    have e2 : w.heap[b]? = some (.cells cur 9 f2) := e
    rw [hb] at e2
    injection e2 with e2
    injection e2 with _ e3 _
    exact absurd e3 (by decide))
end Go.AM
namespace Go.Proofs.YtedpnmlgbjcpcaaGreatDoor.applied
open Go Go.Proofs Go.RowKit Go.AM Go.Maps Go.Sort
def Post (c : Cm) (xs : List ByteArray) (base : Nat) (w : World) (e : Ending) (w' : World) : Prop :=
  ∃ v, e = .returned (.tuple #[v, .bool (apC c xs).2]) ∧ w'.ownsRow base 9 1 v (apC c xs).1.length ((apC c xs).1.map fun s => Value.string s) ∧ Gs base w w'
theorem info9 : (Tryz.prog.info? 9).map (fun i => (i.zero, i.size, i.bytes)) = some (some (.string ⟨#[]⟩), 1, 16) := by kernel_rfl
set_option maxHeartbeats 8000000 in
set_option maxRecDepth 100000 in
theorem any : ∀ (f : Nat) (c : Cm), c.size < f → c.size ≤ 100000 → ∀ (sv lv : Value) (base : Nat) (xs : List ByteArray) (w : World), xs.length + c.size ≤ 500000 → base ≤ w.heap.size → Rdb w base (cms c.kids) sv →
    w.ownsRow base 9 1 lv xs.length (xs.map fun s => Value.string s) →
    Calls Tryz.prog 28 #[.agg #[.int .i64 c.kind, .string c.name, .int .i64 c.num, sv], lv] w (Post c xs base w)
  | 0, c, h, _ => absurd h (Nat.not_lt_zero _)
  | f + 1, .mk K s n l, hf, hz => by
    intro sv lv base xs w hm hbase hsv hown
    simp only [Cm.kind, Cm.name, Cm.num, Cm.kids] at hsv ⊢
    obtain ⟨i9, hi9, hz90, hz91, hz92⟩ := info_parts info9
    obtain ⟨A, cap, rfl, hcell⟩ := kid_cellsB hsv
    have ih := fun x (hx : x ∈ l) => any f x (by have := Cm.kid_size (c := .mk K s n l) hx; omega) (by have := Cm.kid_size (c := .mk K s n l) hx; omega)
    have hP : apC (.mk K s n l) xs = apL K l (if K = 1 ∧ memS xs s = false then xs ++ [s] else xs, !decide (K = 10)) := by rw [apC]
    have hsz := (Cm.mk K s n l).size_eq
    simp only [Cm.kids] at hsz
    have hll : l.length ≤ 100000 := by have := Cm.len_le l; omega
    by_cases e1 : K = 1
    · subst e1
      have hct := contains_k xs s (by omega) (w.alloc (.cells #[.int .i64 1, .string s, .int .i64 n, .slice A l.length cap] 44)) lv (rdw_ownS (hown.alloc _))
      cases hmem : memS xs s
      · rw [if_pos ⟨rfl, hmem⟩] at hP
        obtain ⟨OK0, hOK0⟩ : ∃ b : Bool, b = !decide ((1 : Int) = 10) := ⟨_, rfl⟩
        rw [← hOK0] at hP
        rw [hmem] at hct
        go_enter Tryz.func28, Tryz.ntmps28
        go_wp2_with (first
          | (go_at_call 64; refine hct.mono ?_; rintro e w1 ⟨rfl, hg1⟩; have hown1 := (hown.alloc (.cells #[.int .i64 1, .string s, .int .i64 n, .slice A l.length cap] 44)).kept hg1 (by cases hv : lv.ownBlock <;> simp); have hc1 : w1.cell? ⟨w.heap.size, 1, none⟩ = some (.string s) := hg1.cell (by simp) (by simp))
          | (at_builtin; refine wpList_append_own _ rfl _ _ 34 rfl base 9 i9 (.string ⟨#[]⟩) 1 16 Tryz.underlying34 hi9 hz90 hz91 hz92 rfl (by decide) _ _ _ rfl (hown1.alloc _) ⟨w1.heap.size, 0, none⟩ 1 1 [.string s] rfl rfl ?c1 ?c2 ?c3 ?c4 ?c5 ?_)
          | go_in)
        case c1 =>
          intro j u hj
          match j, hj with
          | 0, hj => simp at hj; subst hj; simp [Addr.add]
        case c2 => intro u hu; simp at hu; subst hu; rfl
        case c3 => unfold maxLen; omega
        case c4 => omega
        case c5 => have := hg1.size; simp at this ⊢; omega
        intro v' w2 hown' hg2 hnil2
        have hsz1 := hg1.size
        simp at hsz1
        have hGw : Gs base (w.alloc (.cells #[.int .i64 1, .string s, .int .i64 n, .slice A l.length cap] 44)) w2 := ((Gs.grown hg1).trans (Gs.alloc base w1 _)).trans (Gs.row (hown1.alloc _) hg2)
        have hown2 : w2.ownsRow base 9 1 v' (xs ++ [s]).length ((xs ++ [s]).map fun s => Value.string s) := by simpa using hown'
        have hcc : (w.alloc (.cells #[.int .i64 1, .string s, .int .i64 n, .slice A l.length cap] 44)).heap[w.heap.size]? = some (.cells #[.int .i64 1, .string s, .int .i64 n, .slice A l.length cap] 44 (0, 0)) := alloc_at _ _
        have hk0 := cell_cmd (o := 0) (u := .int .i64 1) hGw hcc (by simp)
        have hk3 := cell_cmd (o := 3) (u := .slice A l.length cap) hGw hcc (by simp)
        have hxl : (xs ++ [s]).length ≤ xs.length + 1 := by simp
        generalize hXS : xs ++ [s] = X1 at *
        clear hct hown hown1 hg1 hown' hg2 hnil2 hXS
        go_wp2
        go_loopw [1, 6, 31] (fun v okv iv wr => ∃ i : Nat, i ≤ l.length ∧ iv = .int .i64 i ∧ okv = .bool (apL 1 (l.take i) (X1, OK0)).2 ∧ wr.ownsRow base 9 1 v (apL 1 (l.take i) (X1, OK0)).1.length ((apL 1 (l.take i) (X1, OK0)).1.map fun s => Value.string s) ∧ Gs base w2 wr) (fun _ _ v _ => l.length - (intOf v).toNat)
        case atStart =>
          refine ⟨0, Nat.zero_le _, rfl, ?_, ?_, Gs.refl _ _⟩
          · rw [List.take_zero, apL, hOK0]
            try rfl
            try (simp only [bne]; congr 2; rw [Bool.eq_iff_iff]; simp)
          · simpa [apL] using hown2
        case round =>
          obtain ⟨i, hi, rfl, rfl, hown3, hg3⟩ := hrel
          have hGr := hGw.trans hg3
          have hszr := hGr.size
          simp at hszr
          have hlen3 := apL_len 1 (l.take i) (X1, OK0)
          simp only at hlen3
          by_cases hlt : i < l.length
          · obtain ⟨b, off, u, rfl, hbb, c0, c1, c2, c3, hu3⟩ := hcell i hlt
            have hx := List.getElem_mem hlt
            have htake := apL_take (k := 1) (a := (X1, OK0)) hlt
            have hst := Cm.sizeL_take hlt
            have hsl := Cm.sizeL_take_le l (i + 1)
            obtain ⟨A2, cap2, rfl, _⟩ := kid_cellsB hu3
            generalize l[i] = x at *
            have tr : ∀ {a : Addr} {v : Value}, w.cell? a = some v → a.block < base → wr.cell? a = some v := fun {a} {v} h hb => ((Gs.alloc base w _).trans hGr).cell h (.inl hb)
            have d0 := tr c0 hbb
            have d1 := tr c1 hbb
            have d2 := tr c2 hbb
            have d3 := tr c3 hbb
            have hlt' : (i : Int) < l.length := by omega
            have hkk : wr.cell? ⟨w.heap.size, 0, none⟩ = some (.int .i64 1) := cell_cmd hGr hcc (by simp)
            have hcall := ih x hx (.slice A2 x.kids.length cap2) u1 base (apL 1 (l.take i) (X1, OK0)).1 (wr.alloc (.cells #[.int .i64 x.kind, .string x.name, .int .i64 x.num, .slice A2 x.kids.length cap2] 44)) (by omega) (by simp; omega)
              (((hu3.keep (Gs.alloc base w _)).keep hGr).keep (Gs.alloc base wr _)) (hown3.alloc _)
            have hGk := (hg3.trans (Gs.alloc base wr (.cells #[.int .i64 x.kind, .string x.name, .int .i64 x.num, .slice A2 x.kids.length cap2] 44)))
            have hkc : (wr.alloc (.cells #[.int .i64 x.kind, .string x.name, .int .i64 x.num, .slice A2 x.kids.length cap2] 44)).heap[wr.heap.size]? = some (.cells #[.int .i64 x.kind, .string x.name, .int .i64 x.num, .slice A2 x.kids.length cap2] 44 (0, 0)) := alloc_at _ _
            generalize hAL : apL 1 (l.take i) (X1, OK0) = AL0 at *
            obtain ⟨xs0, ok0⟩ := AL0
            simp only at htake hcall hlen3 hown3
            unfold Post at hcall
            generalize hAC : apC x xs0 = AC at *
            obtain ⟨xs1, ok1⟩ := AC
            simp only at htake hcall
            clear ih hcell hsv tr hP
            have hbd : (x.kind == 2) = decide (x.kind = 2) := by rw [Bool.eq_iff_iff]; simp
            go_wp2_with (first | (go_at_call 28; refine hcall.mono ?_; rintro e w4 ⟨v4, rfl, hown4, hg4⟩; have hk4 : w4.cell? ⟨wr.heap.size, 0, none⟩ = some (.int .i64 x.kind) := cell_cmd hg4 hkc (by simp); have hc4 : w4.cell? ⟨w.heap.size, 0, none⟩ = some (.int .i64 1) := cell_cmd (hGw.trans (hGk.trans hg4)) hcc (by simp)) | go_in)
            all_goals refine ⟨⟨i + 1, by omega, by simp, ?_, by rw [htake]; exact hown4, hGk.trans hg4⟩, by simp [intOf]; omega⟩
            all_goals rw [htake]
            all_goals first | rfl | (simp; done) | (simp [hbd]; done) | (simp_all; done)
          · obtain rfl : i = l.length := by omega
            rw [List.take_length] at hown3 ⊢
            have hge : ¬ (l.length : Int) < l.length := by omega
            clear ih hcell hsv
            go_wp2
            go_ret2
            show Post _ _ _ _ _ _
            unfold Post
            rw [hP]
            exact ⟨u1, by simp [hOK0], hown3, (Gs.alloc base w _).trans hGr⟩
      · rw [if_neg (by simp [hmem])] at hP
        obtain ⟨OK0, hOK0⟩ : ∃ b : Bool, b = !decide ((1 : Int) = 10) := ⟨_, rfl⟩
        rw [← hOK0] at hP
        rw [hmem] at hct
        go_enter Tryz.func28, Tryz.ntmps28
        go_wp2_with (first
          | (go_at_call 64; refine hct.mono ?_; rintro e w2 ⟨rfl, hg1⟩; have hown2 := (hown.alloc (.cells #[.int .i64 1, .string s, .int .i64 n, .slice A l.length cap] 44)).kept hg1 (by cases hv : lv.ownBlock <;> simp); have hk0 : w2.cell? ⟨w.heap.size, 0, none⟩ = some (.int .i64 1) := hg1.cell (by simp) (by simp); have hk3 : w2.cell? ⟨w.heap.size, 3, none⟩ = some (.slice A l.length cap) := hg1.cell (by simp) (by simp))
          | go_in)
        have hGw : Gs base (w.alloc (.cells #[.int .i64 1, .string s, .int .i64 n, .slice A l.length cap] 44)) w2 := Gs.grown hg1
        have hcc : (w.alloc (.cells #[.int .i64 1, .string s, .int .i64 n, .slice A l.length cap] 44)).heap[w.heap.size]? = some (.cells #[.int .i64 1, .string s, .int .i64 n, .slice A l.length cap] 44 (0, 0)) := alloc_at _ _
        have hxl : xs.length ≤ xs.length + 1 := by omega
        generalize hXS : xs = X1 at *
        clear hct hown hg1
        go_loopw [1, 6, 31] (fun v okv iv wr => ∃ i : Nat, i ≤ l.length ∧ iv = .int .i64 i ∧ okv = .bool (apL 1 (l.take i) (X1, OK0)).2 ∧ wr.ownsRow base 9 1 v (apL 1 (l.take i) (X1, OK0)).1.length ((apL 1 (l.take i) (X1, OK0)).1.map fun s => Value.string s) ∧ Gs base w2 wr) (fun _ _ v _ => l.length - (intOf v).toNat)
        case atStart =>
          refine ⟨0, Nat.zero_le _, rfl, ?_, ?_, Gs.refl _ _⟩
          · rw [List.take_zero, apL, hOK0]
            try rfl
            try (simp only [bne]; congr 2; rw [Bool.eq_iff_iff]; simp)
          · simpa [apL] using hown2
        case round =>
          obtain ⟨i, hi, rfl, rfl, hown3, hg3⟩ := hrel
          have hGr := hGw.trans hg3
          have hszr := hGr.size
          simp at hszr
          have hlen3 := apL_len 1 (l.take i) (X1, OK0)
          simp only at hlen3
          by_cases hlt : i < l.length
          · obtain ⟨b, off, u, rfl, hbb, c0, c1, c2, c3, hu3⟩ := hcell i hlt
            have hx := List.getElem_mem hlt
            have htake := apL_take (k := 1) (a := (X1, OK0)) hlt
            have hst := Cm.sizeL_take hlt
            have hsl := Cm.sizeL_take_le l (i + 1)
            obtain ⟨A2, cap2, rfl, _⟩ := kid_cellsB hu3
            generalize l[i] = x at *
            have tr : ∀ {a : Addr} {v : Value}, w.cell? a = some v → a.block < base → wr.cell? a = some v := fun {a} {v} h hb => ((Gs.alloc base w _).trans hGr).cell h (.inl hb)
            have d0 := tr c0 hbb
            have d1 := tr c1 hbb
            have d2 := tr c2 hbb
            have d3 := tr c3 hbb
            have hlt' : (i : Int) < l.length := by omega
            have hkk : wr.cell? ⟨w.heap.size, 0, none⟩ = some (.int .i64 1) := cell_cmd hGr hcc (by simp)
            have hcall := ih x hx (.slice A2 x.kids.length cap2) u1 base (apL 1 (l.take i) (X1, OK0)).1 (wr.alloc (.cells #[.int .i64 x.kind, .string x.name, .int .i64 x.num, .slice A2 x.kids.length cap2] 44)) (by omega) (by simp; omega)
              (((hu3.keep (Gs.alloc base w _)).keep hGr).keep (Gs.alloc base wr _)) (hown3.alloc _)
            have hGk := (hg3.trans (Gs.alloc base wr (.cells #[.int .i64 x.kind, .string x.name, .int .i64 x.num, .slice A2 x.kids.length cap2] 44)))
            have hkc : (wr.alloc (.cells #[.int .i64 x.kind, .string x.name, .int .i64 x.num, .slice A2 x.kids.length cap2] 44)).heap[wr.heap.size]? = some (.cells #[.int .i64 x.kind, .string x.name, .int .i64 x.num, .slice A2 x.kids.length cap2] 44 (0, 0)) := alloc_at _ _
            generalize hAL : apL 1 (l.take i) (X1, OK0) = AL0 at *
            obtain ⟨xs0, ok0⟩ := AL0
            simp only at htake hcall hlen3 hown3
            unfold Post at hcall
            generalize hAC : apC x xs0 = AC at *
            obtain ⟨xs1, ok1⟩ := AC
            simp only at htake hcall
            clear ih hcell hsv tr hP
            have hbd : (x.kind == 2) = decide (x.kind = 2) := by rw [Bool.eq_iff_iff]; simp
            go_wp2_with (first | (go_at_call 28; refine hcall.mono ?_; rintro e w4 ⟨v4, rfl, hown4, hg4⟩; have hk4 : w4.cell? ⟨wr.heap.size, 0, none⟩ = some (.int .i64 x.kind) := cell_cmd hg4 hkc (by simp); have hc4 : w4.cell? ⟨w.heap.size, 0, none⟩ = some (.int .i64 1) := cell_cmd (hGw.trans (hGk.trans hg4)) hcc (by simp)) | go_in)
            all_goals refine ⟨⟨i + 1, by omega, by simp, ?_, by rw [htake]; exact hown4, hGk.trans hg4⟩, by simp [intOf]; omega⟩
            all_goals rw [htake]
            all_goals first | rfl | (simp; done) | (simp [hbd]; done) | (simp_all; done)
          · obtain rfl : i = l.length := by omega
            rw [List.take_length] at hown3 ⊢
            have hge : ¬ (l.length : Int) < l.length := by omega
            clear ih hcell hsv
            go_wp2
            go_ret2
            show Post _ _ _ _ _ _
            unfold Post
            rw [hP]
            exact ⟨u1, by simp [hOK0], hown3, (Gs.alloc base w _).trans hGr⟩
    · by_cases e2 : K = 2
      · subst e2
        rw [if_neg (fun h => e1 h.1)] at hP
        obtain ⟨OK0, hOK0⟩ : ∃ b : Bool, b = !decide ((2 : Int) = 10) := ⟨_, rfl⟩
        rw [← hOK0] at hP
        have hGw : Gs base (w.alloc (.cells #[.int .i64 2, .string s, .int .i64 n, .slice A l.length cap] 44)) (w.alloc (.cells #[.int .i64 2, .string s, .int .i64 n, .slice A l.length cap] 44)) := Gs.refl _ _
        have hcc : (w.alloc (.cells #[.int .i64 2, .string s, .int .i64 n, .slice A l.length cap] 44)).heap[w.heap.size]? = some (.cells #[.int .i64 2, .string s, .int .i64 n, .slice A l.length cap] 44 (0, 0)) := alloc_at _ _
        have hown2 := hown.alloc (.cells #[.int .i64 2, .string s, .int .i64 n, .slice A l.length cap] 44)
        have hxl : xs.length ≤ xs.length + 1 := by omega
        generalize hXS : xs = X1 at *
        clear hown
        go_enter Tryz.func28, Tryz.ntmps28
        go_wp2
        go_loopw [1, 6, 31] (fun v okv iv wr => ∃ i : Nat, i ≤ l.length ∧ iv = .int .i64 i ∧ okv = .bool (apL 2 (l.take i) (X1, OK0)).2 ∧ wr.ownsRow base 9 1 v (apL 2 (l.take i) (X1, OK0)).1.length ((apL 2 (l.take i) (X1, OK0)).1.map fun s => Value.string s) ∧ Gs base (w.alloc (.cells #[.int .i64 2, .string s, .int .i64 n, .slice A l.length cap] 44)) wr) (fun _ _ v _ => l.length - (intOf v).toNat)
        case atStart =>
          refine ⟨0, Nat.zero_le _, rfl, ?_, ?_, Gs.refl _ _⟩
          · rw [List.take_zero, apL, hOK0]
            try rfl
            try (simp only [bne]; congr 2; rw [Bool.eq_iff_iff]; simp)
          · simpa [apL] using hown2
        case round =>
          obtain ⟨i, hi, rfl, rfl, hown3, hg3⟩ := hrel
          have hGr := hGw.trans hg3
          have hszr := hGr.size
          simp at hszr
          have hlen3 := apL_len 2 (l.take i) (X1, OK0)
          simp only at hlen3
          by_cases hlt : i < l.length
          · obtain ⟨b, off, u, rfl, hbb, c0, c1, c2, c3, hu3⟩ := hcell i hlt
            have hx := List.getElem_mem hlt
            have htake := apL_take (k := 2) (a := (X1, OK0)) hlt
            have hst := Cm.sizeL_take hlt
            have hsl := Cm.sizeL_take_le l (i + 1)
            obtain ⟨A2, cap2, rfl, _⟩ := kid_cellsB hu3
            generalize l[i] = x at *
            have tr : ∀ {a : Addr} {v : Value}, w.cell? a = some v → a.block < base → wr.cell? a = some v := fun {a} {v} h hb => ((Gs.alloc base w _).trans hGr).cell h (.inl hb)
            have d0 := tr c0 hbb
            have d1 := tr c1 hbb
            have d2 := tr c2 hbb
            have d3 := tr c3 hbb
            have hlt' : (i : Int) < l.length := by omega
            have hkk : wr.cell? ⟨w.heap.size, 0, none⟩ = some (.int .i64 2) := cell_cmd hGr hcc (by simp)
            have hcall := ih x hx (.slice A2 x.kids.length cap2) u1 base (apL 2 (l.take i) (X1, OK0)).1 (wr.alloc (.cells #[.int .i64 x.kind, .string x.name, .int .i64 x.num, .slice A2 x.kids.length cap2] 44)) (by omega) (by simp; omega)
              (((hu3.keep (Gs.alloc base w _)).keep hGr).keep (Gs.alloc base wr _)) (hown3.alloc _)
            have hGk := (hg3.trans (Gs.alloc base wr (.cells #[.int .i64 x.kind, .string x.name, .int .i64 x.num, .slice A2 x.kids.length cap2] 44)))
            have hkc : (wr.alloc (.cells #[.int .i64 x.kind, .string x.name, .int .i64 x.num, .slice A2 x.kids.length cap2] 44)).heap[wr.heap.size]? = some (.cells #[.int .i64 x.kind, .string x.name, .int .i64 x.num, .slice A2 x.kids.length cap2] 44 (0, 0)) := alloc_at _ _
            generalize hAL : apL 2 (l.take i) (X1, OK0) = AL0 at *
            obtain ⟨xs0, ok0⟩ := AL0
            simp only at htake hcall hlen3 hown3
            unfold Post at hcall
            generalize hAC : apC x xs0 = AC at *
            obtain ⟨xs1, ok1⟩ := AC
            simp only at htake hcall
            clear ih hcell hsv tr hP
            have hbd : (x.kind == 2) = decide (x.kind = 2) := by rw [Bool.eq_iff_iff]; simp
            go_wp2_with (first | (go_at_call 28; refine hcall.mono ?_; rintro e w4 ⟨v4, rfl, hown4, hg4⟩; have hk4 : w4.cell? ⟨wr.heap.size, 0, none⟩ = some (.int .i64 x.kind) := cell_cmd hg4 hkc (by simp); have hc4 : w4.cell? ⟨w.heap.size, 0, none⟩ = some (.int .i64 2) := cell_cmd (hGw.trans (hGk.trans hg4)) hcc (by simp)) | go_in)
            all_goals refine ⟨⟨i + 1, by omega, by simp, ?_, by rw [htake]; exact hown4, hGk.trans hg4⟩, by simp [intOf]; omega⟩
            all_goals rw [htake]
            all_goals first | rfl | (simp; done) | (simp [hbd]; done) | (simp_all; done)
          · obtain rfl : i = l.length := by omega
            rw [List.take_length] at hown3 ⊢
            have hge : ¬ (l.length : Int) < l.length := by omega
            clear ih hcell hsv
            go_wp2
            go_ret2
            show Post _ _ _ _ _ _
            unfold Post
            rw [hP]
            exact ⟨u1, by simp [hOK0], hown3, (Gs.alloc base w _).trans hGr⟩
      · have hb1 : (K == 1) = false := by simp [e1]
        have hb2 : (K == 2) = false := by simp [e2]
        rw [if_neg (fun h => e1 h.1)] at hP
        obtain ⟨OK0, hOK0⟩ : ∃ b : Bool, b = !decide (K = 10) := ⟨_, rfl⟩
        rw [← hOK0] at hP
        have hGw : Gs base (w.alloc (.cells #[.int .i64 K, .string s, .int .i64 n, .slice A l.length cap] 44)) (w.alloc (.cells #[.int .i64 K, .string s, .int .i64 n, .slice A l.length cap] 44)) := Gs.refl _ _
        have hcc : (w.alloc (.cells #[.int .i64 K, .string s, .int .i64 n, .slice A l.length cap] 44)).heap[w.heap.size]? = some (.cells #[.int .i64 K, .string s, .int .i64 n, .slice A l.length cap] 44 (0, 0)) := alloc_at _ _
        have hown2 := hown.alloc (.cells #[.int .i64 K, .string s, .int .i64 n, .slice A l.length cap] 44)
        have hxl : xs.length ≤ xs.length + 1 := by omega
        generalize hXS : xs = X1 at *
        clear hown
        go_enter Tryz.func28, Tryz.ntmps28
        go_wp2
        go_loopw [1, 6, 31] (fun v okv iv wr => ∃ i : Nat, i ≤ l.length ∧ iv = .int .i64 i ∧ okv = .bool (apL K (l.take i) (X1, OK0)).2 ∧ wr.ownsRow base 9 1 v (apL K (l.take i) (X1, OK0)).1.length ((apL K (l.take i) (X1, OK0)).1.map fun s => Value.string s) ∧ Gs base (w.alloc (.cells #[.int .i64 K, .string s, .int .i64 n, .slice A l.length cap] 44)) wr) (fun _ _ v _ => l.length - (intOf v).toNat)
        case atStart =>
          refine ⟨0, Nat.zero_le _, rfl, ?_, ?_, Gs.refl _ _⟩
          · rw [List.take_zero, apL, hOK0]
            try rfl
            try (simp only [bne]; congr 2; rw [Bool.eq_iff_iff]; simp)
          · simpa [apL] using hown2
        case round =>
          obtain ⟨i, hi, rfl, rfl, hown3, hg3⟩ := hrel
          have hGr := hGw.trans hg3
          have hszr := hGr.size
          simp at hszr
          have hlen3 := apL_len K (l.take i) (X1, OK0)
          simp only at hlen3
          by_cases hlt : i < l.length
          · obtain ⟨b, off, u, rfl, hbb, c0, c1, c2, c3, hu3⟩ := hcell i hlt
            have hx := List.getElem_mem hlt
            have htake := apL_take (k := K) (a := (X1, OK0)) hlt
            have hst := Cm.sizeL_take hlt
            have hsl := Cm.sizeL_take_le l (i + 1)
            obtain ⟨A2, cap2, rfl, _⟩ := kid_cellsB hu3
            generalize l[i] = x at *
            have tr : ∀ {a : Addr} {v : Value}, w.cell? a = some v → a.block < base → wr.cell? a = some v := fun {a} {v} h hb => ((Gs.alloc base w _).trans hGr).cell h (.inl hb)
            have d0 := tr c0 hbb
            have d1 := tr c1 hbb
            have d2 := tr c2 hbb
            have d3 := tr c3 hbb
            have hlt' : (i : Int) < l.length := by omega
            have hkk : wr.cell? ⟨w.heap.size, 0, none⟩ = some (.int .i64 K) := cell_cmd hGr hcc (by simp)
            have hcall := ih x hx (.slice A2 x.kids.length cap2) u1 base (apL K (l.take i) (X1, OK0)).1 (wr.alloc (.cells #[.int .i64 x.kind, .string x.name, .int .i64 x.num, .slice A2 x.kids.length cap2] 44)) (by omega) (by simp; omega)
              (((hu3.keep (Gs.alloc base w _)).keep hGr).keep (Gs.alloc base wr _)) (hown3.alloc _)
            have hGk := (hg3.trans (Gs.alloc base wr (.cells #[.int .i64 x.kind, .string x.name, .int .i64 x.num, .slice A2 x.kids.length cap2] 44)))
            have hkc : (wr.alloc (.cells #[.int .i64 x.kind, .string x.name, .int .i64 x.num, .slice A2 x.kids.length cap2] 44)).heap[wr.heap.size]? = some (.cells #[.int .i64 x.kind, .string x.name, .int .i64 x.num, .slice A2 x.kids.length cap2] 44 (0, 0)) := alloc_at _ _
            generalize hAL : apL K (l.take i) (X1, OK0) = AL0 at *
            obtain ⟨xs0, ok0⟩ := AL0
            simp only at htake hcall hlen3 hown3
            unfold Post at hcall
            generalize hAC : apC x xs0 = AC at *
            obtain ⟨xs1, ok1⟩ := AC
            simp only at htake hcall
            clear ih hcell hsv tr hP
            have hbd : (x.kind == 2) = decide (x.kind = 2) := by rw [Bool.eq_iff_iff]; simp
            go_wp2_with (first | (go_at_call 28; refine hcall.mono ?_; rintro e w4 ⟨v4, rfl, hown4, hg4⟩; have hk4 : w4.cell? ⟨wr.heap.size, 0, none⟩ = some (.int .i64 x.kind) := cell_cmd hg4 hkc (by simp); have hc4 : w4.cell? ⟨w.heap.size, 0, none⟩ = some (.int .i64 K) := cell_cmd (hGw.trans (hGk.trans hg4)) hcc (by simp)) | go_in)
            all_goals refine ⟨⟨i + 1, by omega, by simp, ?_, by rw [htake]; exact hown4, hGk.trans hg4⟩, by simp [intOf]; omega⟩
            all_goals rw [htake]
            all_goals first | rfl | (simp; done) | (simp [hbd]; done) | (simp_all; done)
          · obtain rfl : i = l.length := by omega
            rw [List.take_length] at hown3 ⊢
            have hge : ¬ (l.length : Int) < l.length := by omega
            clear ih hcell hsv
            go_wp2
            go_ret2
            show Post _ _ _ _ _ _
            unfold Post
            rw [hP]
            exact ⟨u1, by simp [hOK0], hown3, (Gs.alloc base w _).trans hGr⟩
end Go.Proofs.YtedpnmlgbjcpcaaGreatDoor.applied
namespace Go.Proofs.YtedpnmlgbjcpcaaGreatDoor.bld
open Go Go.Proofs Go.RowKit
theorem infoB : (Tryz.prog.info? 63).map (fun i => i.size) = some 2 := by kernel_rfl
set_option maxHeartbeats 1000000 in
set_option maxRecDepth 100000 in
theorem used (b : Nat) (w : World) (h0 : w.cell? ⟨b, 0, none⟩ = some (.pointer (some ⟨b, 0, none⟩))) :
    Calls Tryz.prog 70 #[.pointer (some ⟨b, 0, none⟩)] w fun e w' => e = .returned (.tuple #[]) ∧ w' = w := by
  obtain ⟨j, hj, _⟩ := Option.map_eq_some_iff.1 infoB
  go_enter Tryz.func70, Tryz.ntmps70
  go_wp2
  rw [Lib.run_neq_ptr_same w _ Tryz.underlying61 hj]
  go_wp2
  go_end0
  exact ⟨rfl, rfl⟩
set_option maxHeartbeats 1000000 in
set_option maxRecDepth 100000 in
theorem fresh (T : TypeId) (n : Nat) (hn : 0 < n) (hlies : liesAt Tryz.prog Tryz.prog.depth T (n / Tryz.prog.cellsOf T) 0 63 1 = true) (b : Nat) (w : World) (h0 : w.cell? ⟨b, 0, none⟩ = some (.pointer none)) (hsh : w.shape? b = some (T, n)) (hfz : w.frozen? ⟨b, 0, none⟩ = false) :
    Calls Tryz.prog 70 #[.pointer (some ⟨b, 0, none⟩)] w fun e w' => e = .returned (.tuple #[]) ∧ w' = w.setCell ⟨b, 0, none⟩ (.pointer (some ⟨b, 0, none⟩)) := by
  obtain ⟨j, hj, hjs⟩ := Option.map_eq_some_iff.1 infoB
  go_enter Tryz.func70, Tryz.ntmps70
  go_wp2
  rw [Lib.run_to_unsafe w ⟨b, 0, none⟩ Tryz.underlying61 Tryz.underlying181 hj (by rw [hjs]; decide) hsh hn]
  simp only [Result.andThen]
  rw [Oper.upon_value]
  go_wp2
  rw [run_callFunc_extern Tryz.func110 (by kernel_rfl) (by kernel_rfl) (by kernel_rfl) (e := Extern.AbiNoEscape.same) (by kernel_rfl)]
  rw [Lib.run_noEscape]
  simp only [Result.andThen]
  rw [Oper.upon_value]
  go_wp2
  rw [Lib.run_from_unsafe w ⟨b, 0, none⟩ Tryz.underlying181 Tryz.underlying61 hj hsh hlies]
  simp only [Result.andThen]
  rw [Oper.upon_value]
  go_wp2
  go_end0
  exact ⟨rfl, rfl⟩
end Go.Proofs.YtedpnmlgbjcpcaaGreatDoor.bld
namespace Go.AM
open Go Go.Proofs Go.RowKit
theorem box_two {G : Gh} {m : AMem} {w : World} (hm : RelM G m w) {k b sz : Nat} {x y : AV} (hk : m.box k = some [[x, y]]) (hb : G.bx k = some (b, sz)) : sz = 2 ∧ ∃ u v e, w.heap[b]? = some (.cells #[u, v] e (0, 0)) ∧ RV G w x u ∧ RV G w y v ∧ u.oneCell' = true ∧ v.oneCell' = true := by
  obtain ⟨_, cs, e, h1, h2, h3, h4⟩ := hm.box k _ b sz hk hb
  have hs : sz = 2 := by have := h2 [x, y] (by simp); simpa using this.symm
  have hf : ([[x, y]] : List (List AV)).flatten = [x, y] := by simp
  rw [hf] at h3
  have hl : cs.toList.length = 2 := by have := h3.1; simpa using this.symm
  obtain ⟨l⟩ := cs
  match l, hl with
  | [u, v], _ =>
    refine ⟨hs, u, v, e, h1, ?_, ?_, h4 u (by simp), h4 v (by simp)⟩
    · exact h3.2 0 (by simp) (by simp)
    · exact h3.2 1 (by simp) (by simp)
theorem copy_c (T : TypeId) (hlies : liesAt Tryz.prog Tryz.prog.depth T (2 / Tryz.prog.cellsOf T) 0 63 1 = true) (k nb : Nat) (box : Nat → Option (List (List AV))) (tok : Nat → Bool) (nt : Nat) (x y : AV) (hx : x = .here k T ∨ x = .ptr k 0 0) (hk : box k = some [[x, y]]) :
    ACalls Tryz.prog 70 [.ptr k 0 0] ⟨box, nb, tok, nt⟩ fun v m => v = .tup [] ∧ m = ⟨upd box k (some [[.ptr k 0 0, y]]), nb, tok, nt⟩ := by
  refine ⟨Enters.mk Tryz.func70 rfl (by kernel_rfl), fun G w vals hm hr => ?_⟩
  obtain ⟨hlen, hrv⟩ := hr
  match vals, hlen with
  | [v], _ =>
    have h0 := hrv 0 (by simp) (by simp)
    simp only [List.getElem_cons_zero] at h0
    cases h0 with
    | @ptr _ _ _ b sz hb =>
    obtain ⟨rfl, c0, c1, e, hh, hr0, hr1, ho0, ho1⟩ := box_two hm hk hb
    have ha : (⟨b, 0 * 2 + 0, none⟩ : Addr) = ⟨b, 0, none⟩ := by simp
    rw [ha]
    have hc0 : w.cell? ⟨b, 0, none⟩ = some c0 := by simp [World.cell?, hh]
    rcases hx with rfl | rfl
    · cases hr0 with
      | @here _ b2 sz2 _ cs2 f2 hb2 ht2 =>
      rw [hb] at hb2
      simp only [Option.some.injEq, Prod.mk.injEq] at hb2
      obtain ⟨rfl, rfl⟩ := hb2
      rw [hh] at ht2
      simp only [Option.some.injEq, Obj.cells.injEq] at ht2
      obtain ⟨rfl, rfl, rfl⟩ := ht2
      refine (YtedpnmlgbjcpcaaGreatDoor.bld.fresh e 2 (by decide) hlies b w hc0 (by simp [World.shape?, hh]) (by simp [World.frozen?, hh])).mono ?_
      rintro e' w' ⟨rfl, rfl⟩
      have hw : w.setCell ⟨b, 0, none⟩ (.pointer (some ⟨b, 0, none⟩)) = w.setRow b #[.pointer (some ⟨b, 0, none⟩), c1] := by
        simp only [World.setCell, World.setRow]
        refine congrArg (fun h : Array Obj => ({ w with heap := h } : World)) ?_
        refine Array.ext_getElem? fun i => ?_
        rw [Array.getElem?_modify, Array.getElem?_modify]
        by_cases e2 : b = i
        · subst e2
          simp [hh]
        · simp [e2]
      have hkb := (hm.blt hb).2
      have hle := Le.setRow (w := w) hkb #[.pointer (some ⟨b, 0, none⟩), c1]
      have hp : RV G w (.ptr k 0 0) (.pointer (some ⟨b, 0, none⟩)) := by
        have := RV.ptr (w := w) (i := 0) (off := 0) hb
        rwa [ha] at this
      rw [hw]
      refine ⟨_, _, _, G, rfl, ⟨rfl, rfl⟩, rfl, ?_, .tup rfl fun i h1 => by simp at h1, hle, fun j hj => ⟨hj, ?_⟩⟩
      · exact hm.setRow hb (rows := [[.ptr k 0 0, y]]) (by simp) hh (RVs.cons hp (RVs.cons hr1 RVs.nil)) (fun u hu => by simp at hu; rcases hu with rfl | rfl; exact rfl; exact ho1)
      · have : j ≠ k := fun e => by subst e; rw [hb] at hj; cases hj
        exact upd_other _ _ this
    · cases hr0 with
      | @ptr _ _ _ b2 sz2 hb2 =>
      rw [hb] at hb2
      simp only [Option.some.injEq, Prod.mk.injEq] at hb2
      obtain ⟨rfl, rfl⟩ := hb2
      rw [ha] at hc0
      refine (YtedpnmlgbjcpcaaGreatDoor.bld.used b w hc0).mono ?_
      rintro e' w' ⟨rfl, rfl⟩
      have hself : upd box k (some [[.ptr k 0 0, y]]) = box := by
        funext j
        by_cases e : j = k
        · subst e; rw [upd_same, hk]
        · rw [upd_other _ _ e]
      refine ⟨_, _, _, G, rfl, ⟨rfl, rfl⟩, rfl, ?_, .tup rfl fun i h1 => by simp at h1, Le.refl _ _, fun j hj => ⟨hj, ?_⟩⟩
      · rw [hself]; exact hm
      · rw [hself]
end Go.AM
namespace Go.Proofs
open Go.Shelf
def Tryz.lays170_ren : Go.Shelf.Ren := ⟨fun | 170 => 34 | n => n, fun | 70 => 61 | 3 => 3 | 0 => 0 | 72 => 63 | 37 => 60 | 5 => 5 | n => n, fun | n => n⟩
theorem Tryz.lays170 : Go.Proofs.Lays.n170 Tryz.prog Tryz.lays170_ren := {
  mixed := by kernel_rfl
  f170 := Tryz.func34.trans (congrArg some (by kernel_rfl))
  t0 := Tryz.underlying0
  a0 := Tryz.isAgg0
  z0 := Tryz.sizeOf0
  v0 := Tryz.zeroValue0
  t3 := Tryz.underlying3
  a3 := Tryz.isAgg3
  z3 := Tryz.sizeOf3
  v3 := Tryz.zeroValue3
  t37 := Tryz.underlying60
  a37 := Tryz.isAgg60
  z37 := Tryz.sizeOf60
  v37 := Tryz.zeroValue60
  t70 := Tryz.underlying61
  a70 := Tryz.isAgg61
  z70 := Tryz.sizeOf61
  v70 := Tryz.zeroValue61
  t72 := Tryz.underlying63
  a72 := Tryz.isAgg63
  z72 := Tryz.sizeOf63
  v72 := Tryz.zeroValue63 }
open Go.RowKit in
theorem Tryz.Builder_Len (B b : Nat) (bs : List Value) (w : World) (h : Lib.IsBuilder 63 5 B b bs w) :
    Calls Tryz.prog 34 #[.pointer (some ⟨b, 0, none⟩)] w fun e w' => e = .returned (.int .i64 bs.length) ∧ w' = w := Any.Builder_Len Tryz.lays170 B b bs w h
def Tryz.lays169_ren : Go.Shelf.Ren := ⟨fun | 169 => 35 | n => n, fun | 70 => 61 | 9 => 9 | 0 => 0 | 72 => 63 | 37 => 60 | 127 => 141 | 3 => 3 | 5 => 5 | n => n, fun | n => n⟩
theorem Tryz.lays169 : Go.Proofs.Lays.n169 Tryz.prog Tryz.lays169_ren := {
  mixed := by kernel_rfl
  f169 := Tryz.func35.trans (congrArg some (by kernel_rfl))
  t0 := Tryz.underlying0
  a0 := Tryz.isAgg0
  z0 := Tryz.sizeOf0
  v0 := Tryz.zeroValue0
  t3 := Tryz.underlying3
  a3 := Tryz.isAgg3
  z3 := Tryz.sizeOf3
  v3 := Tryz.zeroValue3
  t9 := Tryz.underlying9
  a9 := Tryz.isAgg9
  z9 := Tryz.sizeOf9
  v9 := Tryz.zeroValue9
  t37 := Tryz.underlying60
  a37 := Tryz.isAgg60
  z37 := Tryz.sizeOf60
  v37 := Tryz.zeroValue60
  t70 := Tryz.underlying61
  a70 := Tryz.isAgg61
  z70 := Tryz.sizeOf61
  v70 := Tryz.zeroValue61
  t72 := Tryz.underlying63
  a72 := Tryz.isAgg63
  z72 := Tryz.sizeOf63
  v72 := Tryz.zeroValue63
  t127 := Tryz.underlying141
  a127 := Tryz.isAgg141
  z127 := Tryz.sizeOf141
  v127 := Tryz.zeroValue141 }
theorem Tryz.Builder_Extra_169 : Builder.Extra Tryz.prog Tryz.lays169_ren := {
  sizeBuilder := by kernel_rfl
  liesBuilder := by kernel_rfl
  t5 := Tryz.underlying5
  a5 := Tryz.isAgg5
  z5 := Tryz.sizeOf5
  v5 := Tryz.zeroValue5
  infoByte := by kernel_rfl
  cellsByte := by kernel_rfl
  sizeByte := by kernel_rfl
  neB5 := by decide }
open Go.RowKit in
theorem Tryz.Builder_String_any (B b : Nat) (l : List UInt8) (w : World) (h : Lib.IsBuilder 63 5 B b (Lib.byteCells l) w) (hBw : B ≤ w.heap.size) :
    Calls Tryz.prog 35 #[.pointer (some ⟨b, 0, none⟩)] w fun e w' => e = .returned (.string ⟨l.toArray⟩) ∧ Below B w w' := Any.Builder_String_any Tryz.lays169 Tryz.Builder_Extra_169 B b l w h hBw
open Go.RowKit in
def Tryz.lays171_ren : Go.Shelf.Ren := ⟨fun | 171 => 116 | 243 => 152 | 246 => 161 | 283 => 164 | 284 => 165 | 285 => 166 | 286 => 167 | 129 => 108 | 317 => 168 | 318 => 169 | 319 => 170 | 320 => 171 | 337 => 172 | 338 => 173 | n => n, fun | 3 => 3 | 9 => 9 | 2 => 2 | 4 => 4 | 171 => 231 | 0 => 0 | 53 => 175 | 37 => 60 | 5 => 5 | 173 => 233 | 212 => 237 | 51 => 173 | 20 => 20 | 213 => 238 | 46 => 136 | 232 => 239 | 233 => 240 | n => n, fun | 17 => 3 | 18 => 4 | 19 => 5 | n => n⟩
theorem Tryz.lays171 : Go.Proofs.Lays.n171 Tryz.prog Tryz.lays171_ren := {
  mixed := by kernel_rfl
  f129 := Tryz.func108.trans (congrArg some (by kernel_rfl))
  f171 := Tryz.func116.trans (congrArg some (by kernel_rfl))
  f243 := Tryz.func152.trans (congrArg some (by kernel_rfl))
  f246 := Tryz.func161.trans (congrArg some (by kernel_rfl))
  f283 := Tryz.func164.trans (congrArg some (by kernel_rfl))
  f284 := Tryz.func165.trans (congrArg some (by kernel_rfl))
  f285 := Tryz.func166.trans (congrArg some (by kernel_rfl))
  f286 := Tryz.func167.trans (congrArg some (by kernel_rfl))
  f317 := Tryz.func168.trans (congrArg some (by kernel_rfl))
  f318 := Tryz.func169.trans (congrArg some (by kernel_rfl))
  f319 := Tryz.func170.trans (congrArg some (by kernel_rfl))
  f320 := Tryz.func171.trans (congrArg some (by kernel_rfl))
  f337 := Tryz.func172.trans (congrArg some (by kernel_rfl))
  f338 := Tryz.func173.trans (congrArg some (by kernel_rfl))
  t0 := Tryz.underlying0
  a0 := Tryz.isAgg0
  z0 := Tryz.sizeOf0
  v0 := Tryz.zeroValue0
  t2 := Tryz.underlying2
  a2 := Tryz.isAgg2
  z2 := Tryz.sizeOf2
  v2 := Tryz.zeroValue2
  t3 := Tryz.underlying3
  a3 := Tryz.isAgg3
  z3 := Tryz.sizeOf3
  v3 := Tryz.zeroValue3
  t4 := Tryz.underlying4
  a4 := Tryz.isAgg4
  z4 := Tryz.sizeOf4
  v4 := Tryz.zeroValue4
  t5 := Tryz.underlying5
  a5 := Tryz.isAgg5
  z5 := Tryz.sizeOf5
  v5 := Tryz.zeroValue5
  t9 := Tryz.underlying9
  a9 := Tryz.isAgg9
  z9 := Tryz.sizeOf9
  v9 := Tryz.zeroValue9
  t20 := Tryz.underlying20
  a20 := Tryz.isAgg20
  z20 := Tryz.sizeOf20
  v20 := Tryz.zeroValue20
  t37 := Tryz.underlying60
  a37 := Tryz.isAgg60
  z37 := Tryz.sizeOf60
  v37 := Tryz.zeroValue60
  t46 := Tryz.underlying136
  a46 := Tryz.isAgg136
  z46 := Tryz.sizeOf136
  v46 := Tryz.zeroValue136
  t51 := Tryz.underlying173
  a51 := Tryz.isAgg173
  z51 := Tryz.sizeOf173
  v51 := Tryz.zeroValue173
  t53 := Tryz.underlying175
  a53 := Tryz.isAgg175
  z53 := Tryz.sizeOf175
  v53 := Tryz.zeroValue175
  t171 := Tryz.underlying231
  a171 := Tryz.isAgg231
  z171 := Tryz.sizeOf231
  v171 := Tryz.zeroValue231
  t173 := Tryz.underlying233
  a173 := Tryz.isAgg233
  z173 := Tryz.sizeOf233
  v173 := Tryz.zeroValue233
  t212 := Tryz.underlying237
  a212 := Tryz.isAgg237
  z212 := Tryz.sizeOf237
  v212 := Tryz.zeroValue237
  t213 := Tryz.underlying238
  a213 := Tryz.isAgg238
  z213 := Tryz.sizeOf238
  t232 := Tryz.underlying239
  a232 := Tryz.isAgg239
  z232 := Tryz.sizeOf239
  v232 := Tryz.zeroValue239
  t233 := Tryz.underlying240
  a233 := Tryz.isAgg240
  z233 := Tryz.sizeOf240
  v233 := Tryz.zeroValue240
  g17 := by kernel_rfl
  g18 := by kernel_rfl
  g19 := by kernel_rfl }
open Go.RowKit Go.Sort Go.Lib in
theorem Tryz.strconv_Itoa_small (i : Nat) (hi : i < 100) (w : World) :
    Calls Tryz.prog 116 #[.int .i64 i] w fun e w' => e = .returned (.string ⟨(Lib.decDigits i).toArray⟩) ∧ w' = w := Any.strconv_Itoa_small Tryz.lays171 i hi w
def Tryz.lays105_ren : Go.Shelf.Ren := ⟨fun | 105 => 76 | 212 => 113 | 99 => 37 | 165 => 114 | 166 => 33 | 170 => 34 | 169 => 35 | 263 => 149 | 264 => 150 | 206 => 72 | 240 => 70 | 241 => 151 | 276 => 110 | 277 => 160 | n => n, fun | 9 => 9 | 3 => 3 | 4 => 4 | 20 => 20 | 0 => 0 | 46 => 136 | 109 => 185 | 5 => 5 | 72 => 63 | 76 => 67 | 51 => 173 | 146 => 217 | 53 => 175 | 148 => 219 | 70 => 61 | 37 => 60 | 75 => 66 | 127 => 141 | 164 => 181 | 80 => 70 | n => n, fun | n => n⟩
theorem Tryz.lays105 : Go.Proofs.Lays.n105 Tryz.prog Tryz.lays105_ren := {
  mixed := by kernel_rfl
  f99 := Tryz.func37.trans (congrArg some (by kernel_rfl))
  f105 := Tryz.func76.trans (congrArg some (by kernel_rfl))
  f165 := Tryz.func114.trans (congrArg some (by kernel_rfl))
  f166 := Tryz.func33.trans (congrArg some (by kernel_rfl))
  f169 := Tryz.func35.trans (congrArg some (by kernel_rfl))
  f170 := Tryz.func34.trans (congrArg some (by kernel_rfl))
  f206 := Tryz.func72.trans (congrArg some (by kernel_rfl))
  f212 := Tryz.func113.trans (congrArg some (by kernel_rfl))
  f240 := Tryz.func70.trans (congrArg some (by kernel_rfl))
  f241 := Tryz.func151.trans (congrArg some (by kernel_rfl))
  f263 := Tryz.func149.trans (congrArg some (by kernel_rfl))
  f264 := Tryz.func150.trans (congrArg some (by kernel_rfl))
  f276 := Tryz.func110.trans (congrArg some (by kernel_rfl))
  f277 := Tryz.func160.trans (congrArg some (by kernel_rfl))
  t0 := Tryz.underlying0
  a0 := Tryz.isAgg0
  z0 := Tryz.sizeOf0
  v0 := Tryz.zeroValue0
  t3 := Tryz.underlying3
  a3 := Tryz.isAgg3
  z3 := Tryz.sizeOf3
  v3 := Tryz.zeroValue3
  t4 := Tryz.underlying4
  a4 := Tryz.isAgg4
  z4 := Tryz.sizeOf4
  v4 := Tryz.zeroValue4
  t5 := Tryz.underlying5
  a5 := Tryz.isAgg5
  z5 := Tryz.sizeOf5
  v5 := Tryz.zeroValue5
  t9 := Tryz.underlying9
  a9 := Tryz.isAgg9
  z9 := Tryz.sizeOf9
  v9 := Tryz.zeroValue9
  t20 := Tryz.underlying20
  a20 := Tryz.isAgg20
  z20 := Tryz.sizeOf20
  v20 := Tryz.zeroValue20
  t37 := Tryz.underlying60
  a37 := Tryz.isAgg60
  z37 := Tryz.sizeOf60
  v37 := Tryz.zeroValue60
  t46 := Tryz.underlying136
  a46 := Tryz.isAgg136
  z46 := Tryz.sizeOf136
  v46 := Tryz.zeroValue136
  t51 := Tryz.underlying173
  a51 := Tryz.isAgg173
  z51 := Tryz.sizeOf173
  v51 := Tryz.zeroValue173
  t53 := Tryz.underlying175
  a53 := Tryz.isAgg175
  z53 := Tryz.sizeOf175
  v53 := Tryz.zeroValue175
  t70 := Tryz.underlying61
  a70 := Tryz.isAgg61
  z70 := Tryz.sizeOf61
  v70 := Tryz.zeroValue61
  t72 := Tryz.underlying63
  a72 := Tryz.isAgg63
  z72 := Tryz.sizeOf63
  v72 := Tryz.zeroValue63
  t75 := Tryz.underlying66
  a75 := Tryz.isAgg66
  z75 := Tryz.sizeOf66
  v75 := Tryz.zeroValue66
  t76 := Tryz.underlying67
  a76 := Tryz.isAgg67
  z76 := Tryz.sizeOf67
  v76 := Tryz.zeroValue67
  t109 := Tryz.underlying185
  a109 := Tryz.isAgg185
  z109 := Tryz.sizeOf185
  v109 := Tryz.zeroValue185
  t127 := Tryz.underlying141
  a127 := Tryz.isAgg141
  z127 := Tryz.sizeOf141
  v127 := Tryz.zeroValue141
  t146 := Tryz.underlying217
  a146 := Tryz.isAgg217
  z146 := Tryz.sizeOf217
  v146 := Tryz.zeroValue217
  t148 := Tryz.underlying219
  a148 := Tryz.isAgg219
  z148 := Tryz.sizeOf219
  v148 := Tryz.zeroValue219
  t164 := Tryz.underlying181
  a164 := Tryz.isAgg181
  z164 := Tryz.sizeOf181
  v164 := Tryz.zeroValue181 }
theorem Tryz.Builder_Extra_105 : Builder.Extra Tryz.prog Tryz.lays105_ren := {
  sizeBuilder := by kernel_rfl
  liesBuilder := by kernel_rfl
  t5 := Tryz.underlying5
  a5 := Tryz.isAgg5
  z5 := Tryz.sizeOf5
  v5 := Tryz.zeroValue5
  infoByte := by kernel_rfl
  cellsByte := by kernel_rfl
  sizeByte := by kernel_rfl
  neB5 := by decide }
open Go.RowKit Go.Lib in
theorem Tryz.strings_Repeat (s : ByteArray) (c : Nat) (w : World) (hc : c ≤ 9223372036854775807) (hlen : s.size * c ≤ 140737488355328) :
    Calls Tryz.prog 76 #[.string s, .int .i64 c] w fun e w' => e = .returned (.string ⟨(Lib.repeatL s.data.toList c).toArray⟩) ∧ Below w.heap.size w w' := Any.strings_Repeat Tryz.lays105 Tryz.Builder_Extra_105 s c w hc hlen
end Go.Proofs
namespace Go.AM
open Go Go.Proofs
abbrev bufA (t : Nat) (s : ByteArray) : AV := .buf 5 t (bytesD s)
structure Wst (T : TypeId) (k : Nat) (s : ByteArray) (x y : AV) (o : Own) : Prop where
  x : x = .here k T ∨ x = .ptr k 0 0
  y : (s = ⟨#[]⟩ ∧ y = nilS ∧ o = .full) ∨ ∃ t, o = .tok t ∧ y = bufA t s
structure Fol (o : Own) (tok : Nat → Bool) (nt : Nat) (o' : Own) (tok' : Nat → Bool) (nt' : Nat) : Prop where
  le : nt ≤ nt'
  tk : ∀ mtok nt0 os, TK mtok nt0 tok nt (o :: os) → TK mtok nt0 tok' nt' (o' :: os)
  live : o'.liveP tok'
theorem Fol.trans {o o' o'' : Own} {tok tok' tok'' : Nat → Bool} {nt nt' nt'' : Nat} (h : Fol o tok nt o' tok' nt') (k : Fol o' tok' nt' o'' tok'' nt'') : Fol o tok nt o'' tok'' nt'' :=
  ⟨Nat.le_trans h.le k.le, fun m n os x => k.tk m n os (h.tk m n os x), k.live⟩
theorem Fol.refl {o : Own} {tok : Nat → Bool} {nt : Nat} (h : o.liveP tok) : Fol o tok nt o tok nt := ⟨Nat.le_refl _, fun _ _ _ x => x, h⟩
theorem Fol.step {o : Own} {tok : Nat → Bool} {nt : Nat} : Fol o tok nt (.tok nt) (upd (o.kill tok) nt true) (nt + 1) := ⟨Nat.le_succ _, fun _ _ _ x => x.app, by simp [Own.liveP, upd_same]⟩
def QW (k : Nat) (s : ByteArray) (v0 : AV) (o : Own) (box : Nat → Option (List (List AV))) (nb : Nat) (tok : Nat → Bool) (nt : Nat) (v : AV) (m : AMem) : Prop :=
  v = v0 ∧ ∃ t tok' nt', Fol o tok nt (.tok t) tok' nt' ∧ m = ⟨upd box k (some [[.ptr k 0 0, bufA t s]]), nb, tok', nt'⟩
theorem bytesD_app (a b : ByteArray) : bytesD (a ++ b) = bytesD a ++ bytesD b := by simp [bytesD]
set_option maxRecDepth 100000 in
theorem writeS_c (T : TypeId) (hlies : liesAt Tryz.prog Tryz.prog.depth T (2 / Tryz.prog.cellsOf T) 0 63 1 = true) (k nb : Nat) (box : Nat → Option (List (List AV))) (tok : Nat → Bool) (nt : Nat) (x y : AV) (o : Own) (s d : ByteArray) (hs : Wst T k s x y o)
    (hk : box k = some [[x, y]]) (hl : o.liveP tok) (hd : 0 < d.size) (hz : s.size + d.size ≤ 1000000000000) :
    ACalls Tryz.prog 33 [.ptr k 0 0, Sb d] ⟨box, nb, tok, nt⟩ (QW k (s ++ d) (.tup [I d.size, .d (.raw .nilIface)]) o box nb tok nt) := by
  have hc := fun box' nb' tok' nt' h => copy_c T hlies k nb' box' tok' nt' x y hs.x h
  refine sB Tryz.func33 Tryz.ntmps33 ?_
  intro hbox htok
  simp only at hbox htok
  apply AL.start
  have kn := key_lt hbox hk
  try (simp)
  repeat (first | (refine sR ?_; simp) | (refine sC ?_; simp) | (refine sX ?_; simp only [AU, ↓reduceIte]))
  refine Stop.of_a (hc _ _ _ _ (by simp only; rw [lb_out kn]; exact hk)) ?_
  rintro v m ⟨rfl, rfl⟩
  rcases hs.y with ⟨rfl, rfl, rfl⟩ | ⟨t, rfl, rfl⟩
  · try (simp [lb_out kn, upd_lb_out kn, upd_same, upd_upd])
    repeat (first | (refine sR ?_; simp [lb_out kn, upd_lb_out kn, upd_same, upd_upd]) | (refine sC ?_; simp [lb_out kn, upd_lb_out kn, upd_same, upd_upd]) | (refine sX ?_; simp only [AU, ↓reduceIte]))
    refine ⟨⟨hd, by omega⟩, ?_⟩
    try (simp [lb_out kn, upd_lb_out kn, upd_same, upd_upd])
    repeat (first | (refine sR ?_; simp [lb_out kn, upd_lb_out kn, upd_same, upd_upd]) | (refine sC ?_; simp [lb_out kn, upd_lb_out kn, upd_same, upd_upd]) | (refine sX ?_; simp only [AU, ↓reduceIte]))
    refine sT ?_
    try simp only [AU]
    refine ⟨by simp, (Fin.gen (av := .tup [I d.size, .d (.raw .nilIface)]) (tok' := upd tok nt true) (nt' := nt + 1) (by simp [resAs, resA, lk]; rfl) (by rw [← upd_lb_out kn, hbox]) (by omega) (Nat.le_refl _) (fun t ht => ⟨ht, .inl rfl⟩) (outG (by simp [lb_out kn, upd_same]; exact .buf trivial)) (by simp [packA])).mono fun v m hq => ?_⟩
    exact ⟨hq.1, nt, _, _, Fol.step, by rw [hq.2, bEmpty_app]; rfl⟩
  · have ht : tok t = true := hl
    have hbl := bytesD_len s
    try (simp [lb_out kn, upd_lb_out kn, upd_same, upd_upd])
    repeat (first | (refine sR ?_; simp [lb_out kn, upd_lb_out kn, upd_same, upd_upd]) | (refine sC ?_; simp [lb_out kn, upd_lb_out kn, upd_same, upd_upd]) | (refine sX ?_; simp only [AU, ↓reduceIte]))
    refine ⟨⟨by omega, ht⟩, ?_⟩
    try (simp [lb_out kn, upd_lb_out kn, upd_same, upd_upd])
    repeat (first | (refine sR ?_; simp [lb_out kn, upd_lb_out kn, upd_same, upd_upd]) | (refine sC ?_; simp [lb_out kn, upd_lb_out kn, upd_same, upd_upd]) | (refine sX ?_; simp only [AU, ↓reduceIte]))
    refine sT ?_
    try simp only [AU]
    refine ⟨by simp, (Fin.gen (av := .tup [I d.size, .d (.raw .nilIface)]) (tok' := upd (upd tok t false) nt true) (nt' := nt + 1) (by simp [resAs, resA, lk]; rfl) (by rw [← upd_lb_out kn, hbox]) (by omega) (Nat.le_refl _) (fun t ht => ⟨ht, .inl rfl⟩) (outG (by simp [lb_out kn, upd_same]; exact .buf trivial)) (by simp [packA])).mono fun v m hq => ?_⟩
    exact ⟨hq.1, nt, _, _, Fol.step, by rw [hq.2]; simp only [bufA, bytesD_app]; rfl⟩
end Go.AM
namespace Go.Proofs.YtedpnmlgbjcpcaaGreatDoor.bld
open Go Go.Proofs Go.RowKit Go.Shelf
theorem cellsU8 : Tryz.prog.cellsOf 5 = 1 := by kernel_rfl
set_option maxHeartbeats 1000000 in
set_option maxRecDepth 100000 in
theorem string (T : TypeId) (b g cap : Nat) (p : Value) (cur : Array Value) (l : List UInt8) (h0 : l ≠ []) (w : World) (hbk : w.heap[b]? = some (.cells #[p, .slice (some ⟨g, 0, none⟩) l.length cap] T (0, 0))) (hg : w.heap[g]? = some (.cells cur 5 (0, 0)))
    (hnc : l.length ≤ cap) (hcm : cap ≤ maxLen) (hcs : cur.size = cap) (hcell : ∀ j x, l[j]? = some x → w.cell? ((⟨g, 0, none⟩ : Addr).add j) = some (.int .u8 x.toNat)) :
    Calls Tryz.prog 35 #[.pointer (some ⟨b, 0, none⟩)] w fun e w' => e = .returned (.string ⟨l.toArray⟩) ∧ w' = w.drew.freeze ⟨g, 0, none⟩ l.length := by
  have hl0 : l.length ≠ 0 := by simpa using h0
  have c1 : w.drew.cell? ⟨b, 1, none⟩ = some (.slice (some ⟨g, 0, none⟩) l.length cap) := by
    have : w.drew.heap[b]? = some (.cells #[p, .slice (some ⟨g, 0, none⟩) l.length cap] T (0, 0)) := hbk
    rw [Lib.cell_of_heap this]; rfl
  have hSD : (Builtin.unsafeSliceData_ #[60] 141 #[.slice (some ⟨g, 0, none⟩) l.length cap]).run Tryz.prog w.drew = .ok (.pointer (some ⟨g, 0, none⟩)) w.drew :=
    Lib.run_unsafeSliceData_row _ _ _ _ _ _ (by omega)
  have hUS : (Builtin.unsafeString_ #[141, 3] 9 #[.pointer (some ⟨g, 0, none⟩), .int .i64 l.length]).run Tryz.prog w.drew = .ok (.string ⟨l.toArray⟩) (w.drew.freeze ⟨g, 0, none⟩ l.length) := by
    refine Lib.run_unsafeString_row w.drew 141 3 9 5 Tryz.underlying141 cellsU8 g cur.size (by have hg' : w.drew.heap[g]? = some (.cells cur 5 (0, 0)) := hg; simp [World.shape?, hg']) l h0 (by omega) (by unfold maxLen at hcm; omega) ?_
    intro j x hx
    exact hcell j x hx
  have mixed : Tryz.prog.follows Departure.mixedOrders = true := by kernel_rfl
  go_enter Tryz.func35, Tryz.ntmps35
  go_wp2
  go_region_o
  all_goals (go_wp2; go_ret; exact ⟨rfl, rfl⟩)
end Go.Proofs.YtedpnmlgbjcpcaaGreatDoor.bld
namespace Go.AM
open Go Go.Proofs Go.RowKit
theorem freeze_other (w : World) (g n j : Nat) (h : j ≠ g) : (w.freeze ⟨g, 0, none⟩ n).heap[j]? = w.heap[j]? := by
  unfold World.freeze
  split
  · rfl
  · simp only [Array.getElem?_modify]
    rw [if_neg (fun e => h e.symm)]
theorem freeze_at {w : World} {g n : Nat} {cs : Array Value} {E : TypeId} {f : Nat × Nat} (h : w.heap[g]? = some (.cells cs E f)) : ∃ f', (w.freeze ⟨g, 0, none⟩ n).heap[g]? = some (.cells cs E f') := by
  unfold World.freeze
  split
  · exact ⟨f, h⟩
  · obtain ⟨lo, hi⟩ := f
    simp [Array.getElem?_modify, h]
theorem freeze_cell {w : World} {g n : Nat} {cs : Array Value} {E : TypeId} {f : Nat × Nat} (h : w.heap[g]? = some (.cells cs E f)) (a : Addr) : (w.freeze ⟨g, 0, none⟩ n).cell? a = w.cell? a := by
  by_cases e : a.block = g
  · obtain ⟨f', h'⟩ := freeze_at (n := n) h
    subst e
    simp only [World.cell?, h, h']
  · exact World.cell?_of_block (w := w) (freeze_other w g n a.block e)
theorem Le.freeze {G : Gh} {w : World} {g n f c : Nat} {cs : Array Value} {E : TypeId} {fr : Nat × Nat} (hk : G.kind g = .part f c) (hg : w.heap[g]? = some (.cells cs E fr)) : Le G w G (w.freeze ⟨g, 0, none⟩ n) where
  os := by unfold World.freeze; split <;> rfl
  tape := by unfold World.freeze; split <;> rfl
  output := by unfold World.freeze; split <;> rfl
  size := by unfold World.freeze; split <;> simp
  whole b _ h := ⟨h, freeze_other w g n b (fun e => by subst e; rw [hk] at h; cases h)⟩
  part b f c h := ⟨⟨f, Nat.le_refl _, h⟩, fun a _ _ => freeze_cell hg a⟩
  bx _ _ h := h
  nt := Nat.le_refl _
  tk _ _ := .inr ⟨rfl, fun g' _ => ⟨rfl, fun he => freeze_other w g n g' (fun e => by subst e; rw [hk] at he; cases he)⟩⟩
  ty b c0 T f0 hb := by
    by_cases e : b = g
    · subst e
      obtain ⟨f', h'⟩ := freeze_at (n := n) hb
      exact ⟨c0, f', h'⟩
    · exact ⟨c0, f0, (freeze_other w g n b e).trans hb⟩
theorem RelM.freeze {G : Gh} {m : AMem} {w : World} (h : RelM G m w) {g n f c : Nat} {cs : Array Value} {E : TypeId} {fr : Nat × Nat} (hk : G.kind g = .part f c) (hg : w.heap[g]? = some (.cells cs E fr)) (ht : ∀ t, G.tk t ≠ some (some g)) : RelM G m (w.freeze ⟨g, 0, none⟩ n) where
  box k rows b sz h1 h2 := by
    obtain ⟨g1, cs', e, g2, g3, g4, g5⟩ := h.box k rows b sz h1 h2
    exact ⟨g1, cs', e, (freeze_other w g n b (fun e => by subst e; rw [hk] at g1; cases g1)).trans g2, g3, g4.mono (Le.freeze hk hg), g5⟩
  nobox := h.nobox
  inj := h.inj
  nb := h.nb
  nt := h.nt
  toks := h.toks
  tokb t g' hg' := by
    obtain ⟨f', cur, e, g1, g2⟩ := h.tokb t g' hg'
    exact ⟨f', cur, e, g1, (freeze_other w g n g' (fun e => ht t (e ▸ hg'))).trans g2⟩
  tinj := h.tinj
  tnt := h.tnt
  fresh b hb := h.fresh b (Nat.le_trans (by unfold World.freeze; split <;> simp) hb)
theorem stringB_c (k nb : Nat) (box : Nat → Option (List (List AV))) (tok : Nat → Bool) (nt : Nat) (x : AV) (t : Nat) (s : ByteArray) (hs : 0 < s.size) (hk : box k = some [[x, bufA t s]]) (ht : tok t = true) :
    ACalls Tryz.prog 35 [.ptr k 0 0] ⟨box, nb, tok, nt⟩ fun v m => v = Sb s ∧ m = ⟨box, nb, upd tok t false, nt⟩ := by
  refine ⟨Enters.mk Tryz.func35 rfl (by kernel_rfl), fun G w vals hm hr => ?_⟩
  obtain ⟨hlen, hrv⟩ := hr
  match vals, hlen with
  | [v], _ =>
    have h0 := hrv 0 (by simp) (by simp)
    simp only [List.getElem_cons_zero] at h0
    cases h0 with
    | @ptr _ _ _ b sz hb =>
    obtain ⟨rfl, c0, c1, e, hh, hr0, hr1, ho0, ho1⟩ := box_two hm hk hb
    have ha : (⟨b, 0 * 2 + 0, none⟩ : Addr) = ⟨b, 0, none⟩ := by simp
    rw [ha]
    obtain ⟨_, y, hy⟩ := hm.toks t ht
    cases hr1 with
    | buf h1 h2 h3 h4 =>
    have hbl := bytesD_len s
    cases y with
    | none => exact absurd hy h3
    | some g =>
      obtain ⟨cap, hv, hkg⟩ := h2.2 _ hy
      obtain ⟨cs, f4, hg4⟩ := h4 g hy
      obtain ⟨f, cur, e5, hpk, hgh⟩ := hm.tokb t g hy
      rw [hg4] at hgh
      simp only [Option.some.injEq, Obj.cells.injEq] at hgh
      obtain ⟨rfl, rfl, rfl⟩ := hgh
      have hcs : cs.size = cap := by
        rcases hpk with hpk | hpk
        · rw [hkg] at hpk
          injection hpk with _ h6
          omega
        · rw [hkg] at hpk; cases hpk
      subst hv
      have hds : s.data.toList.length = s.size := sz_list s
      have hcells : ∀ j x, s.data.toList[j]? = some x → w.cell? ((⟨g, 0, none⟩ : Addr).add j) = some (.int .u8 x.toNat) ∧ (bytesD s).length ≤ cap ∧ cap ≤ maxLen := by
        intro j x hx
        have hj : j < s.data.toList.length := (List.getElem?_eq_some_iff.1 hx).1
        have hxe : s.data.toList[j] = x := (List.getElem?_eq_some_iff.1 hx).2
        have hget : ∀ (h1 : j < (bytesD s).length) (h2 : 0 < ((bytesD s)[j]).length), ((bytesD s)[j])[0] = D.raw (.int .u8 x.toNat) := by
          intro h1 h2
          simp only [bytesD, List.getElem_map, List.getElem_cons_zero, hxe]
        generalize hes : bytesD s = es at *
        cases h1 with
        | @sl _ _ A cap2 u hcap hmax hsz hA hc hrr =>
          have hj' : j < es.length := by omega
          have hl1 := hsz _ (List.getElem_mem hj')
          have q1 := (hc _ rfl j 0 hj' (by omega)).2
          have q2 := hrr j 0 hj' (by omega)
          rw [hget hj' (by omega)] at q2
          generalize u j 0 = uj at q1 q2
          cases q2
          rw [Nat.mul_one, Nat.add_zero] at q1
          exact ⟨q1, hcap, hmax⟩
      have hne : s.data.toList ≠ [] := by intro e; rw [e] at hds; simp at hds; omega
      obtain ⟨_, hcp, hcm⟩ := hcells 0 (s.data.toList[0]'(by omega)) (List.getElem?_eq_getElem _)
      rw [hbl, ← hds] at hh hkg
      rw [hbl, ← hds] at hcp
      refine (YtedpnmlgbjcpcaaGreatDoor.bld.string e b g cap c0 cs s.data.toList hne w hh hg4 hcp hcm hcs (fun j x hx => (hcells j x hx).1)).mono ?_
      rintro e' w' ⟨rfl, rfl⟩
      have hm1 := (hm.kill (.tok t)).drew
      have hg5 : w.drew.heap[g]? = some (.cells cs 5 (0, 0)) := hg4
      have hk5 : (G.kill (.tok t)).kind g = .part (s.data.toList.length * 1) (cap * 1) := hkg
      have ht5 : ∀ t', (G.kill (.tok t)).tk t' ≠ some (some g) := by
        intro t' h
        simp only [Gh.kill] at h
        by_cases e : t' = t
        · subst e; rw [upd_same] at h; cases h
        · rw [upd_other _ _ e] at h; exact e (hm.tinj t' t g h hy)
      have hle : Le G w (G.kill (.tok t)) (w.drew.freeze ⟨g, 0, none⟩ s.data.toList.length) := (Le.kill (.tok t)).trans (Le.drew.trans (Le.freeze hk5 hg5))
      refine ⟨_, _, _, G.kill (.tok t), rfl, ⟨rfl, rfl⟩, rfl, hm1.freeze hk5 hg5 ht5, ?_, hle, fun j hj => ⟨hj, rfl⟩⟩
      have : (⟨s.data.toList.toArray⟩ : ByteArray) = s := ofBs_bsOf s
      rw [this]
      exact .d (.raw rfl)
end Go.AM
namespace Go.AM
open Go Go.Proofs Go.RowKit
theorem liesW : liesAt Tryz.prog Tryz.prog.depth 78 (2 / Tryz.prog.cellsOf 78) 0 63 1 = true := by kernel_rfl
theorem rep_pad (n : Nat) : (⟨(Lib.repeatL [32, 32] n).toArray⟩ : ByteArray) = padR n := by
  have key : ∀ n, (padR n).data.toList = Lib.repeatL [32, 32] n ∧ Lib.repeatL [32, 32] n ++ [32, 32] = [32, 32] ++ Lib.repeatL [32, 32] n := by
    intro n
    induction n with
    | zero => exact ⟨rfl, rfl⟩
    | succ n ih =>
      refine ⟨?_, ?_⟩
      · rw [padR, ByteArray.data_append, Array.toList_append, ih.1, Lib.repeatL]
        exact ih.2
      · rw [Lib.repeatL, List.append_assoc, ih.2]
  rw [← (key n).1]
theorem rep_c (n : Nat) (hn : n ≤ 1000) (tok : Nat → Bool) (nt : Nat) : DCall Tryz.prog 76 [Sb ⟨#[32, 32]⟩, I n] tok nt (Sb (padR n)) tok nt := by
  intro box nb
  refine ⟨Enters.mk Tryz.func76 rfl (by kernel_rfl), fun G w vals hm hr => ?_⟩
  obtain ⟨hlen, hrv⟩ := hr
  match vals, hlen with
  | [v, u], _ =>
    have h0 := hrv 0 (by simp) (by simp)
    have h1 := hrv 1 (by simp) (by simp)
    simp only [List.getElem_cons_zero, List.getElem_cons_succ] at h0 h1
    cases h0 with | d h0 =>
    cases h1 with | d h1 =>
    cases h0
    cases h1
    refine (Tryz.strings_Repeat ⟨#[32, 32]⟩ n w (by omega) (by show 2 * n ≤ _; omega)).mono ?_
    rintro e w' ⟨rfl, hb⟩
    refine ⟨_, _, _, G, rfl, ⟨rfl, rfl⟩, rfl, Bw.rel hm hb, ?_, Bw.le hm hb, fun k hk => ⟨hk, rfl⟩⟩
    have := rep_pad n
    rw [show (⟨#[32, 32]⟩ : ByteArray).data.toList = [32, 32] from rfl, this]
    exact .d (.raw rfl)
abbrev WrT : TypeId := 78
set_option maxRecDepth 100000 in
theorem line_c (k nb : Nat) (box : Nat → Option (List (List AV))) (tok : Nat → Bool) (nt : Nat) (x y : AV) (o : Own) (s : ByteArray) (hs : Wst WrT k s x y o) (hk : box k = some [[x, y]]) (hl : o.liveP tok) (ind : Nat) (hi : ind ≤ 100) (t : ByteArray) (hz : s.size + (lineR ind t).size ≤ 1000000000) :
    ACalls Tryz.prog 40 [.ptr k 0 0, I ind, Sb t] ⟨box, nb, tok, nt⟩ (QW k (s ++ lineR ind t) (.tup []) o box nb tok nt) := by
  have hr := rep_c ind (by omega)
  have hp := padR_size ind
  have hlz := lineR_size ind t
  have hw := fun nb' box' tok' nt' h1 h2 => writeS_c WrT liesW k nb' box' tok' nt' x y o s (lineR ind t) hs h1 h2 (by omega) (by omega)
  have el : padR ind ++ t ++ ⟨#[10]⟩ = lineR ind t := by rw [lineR, ByteArray.append_assoc]
  refine sB Tryz.func40 Tryz.ntmps40 ?_
  intro hbox htok
  simp only at hbox htok
  apply AL.start
  have kn := key_lt hbox hk
  refine sN ?_
  refine AL.splitL (by rfl) (by rfl) follows_Tryz (Nat.le_refl _) (by kernel_rfl) ?_
  simp
  refine Stop.of_d (hr _ _) ?_
  simp
  rw [el]
  have z1 : (⟨#[10]⟩ : ByteArray).size = 1 := rfl
  refine ⟨by omega, by omega, ?_⟩
  refine Stop.of_a (hw _ _ _ _ (by simp only; rw [lb_out kn]; exact hk) hl) ?_
  rintro v m ⟨rfl, t1, tok1, nt1, hf, rfl⟩
  simp [upd_lb_out kn]
  refine sE ?_
  refine ⟨by simp, (Fin.gen (vs := []) (av := .tup []) (tok' := tok1) (nt' := nt1) (by simp [resAs, resA]) (by rw [← upd_lb_out kn, hbox]) hf.le (Nat.le_refl _) (fun t ht => ⟨ht, .inl rfl⟩) (outG (by simp [lb_out kn, upd_same]; exact .buf trivial)) (by simp [packA])).mono fun v m hq => ?_⟩
  exact ⟨hq.1, t1, tok1, nt1, hf, by rw [hq.2]⟩
end Go.AM
namespace Go.AM
open Go Go.Proofs
theorem wst_ok {T : TypeId} {k : Nat} {s : ByteArray} {x y : AV} {o : Own} {p q : Nat → Prop} (h : Wst T k s x y o) (hp : p k) (hq : ∀ t, q t) : ∀ r ∈ [[x, y]], ∀ z ∈ r, OkIn p q z := by
  intro r hr z hz
  simp only [List.mem_singleton] at hr
  subst hr
  simp only [List.mem_cons, List.not_mem_nil, or_false] at hz
  rcases hz with rfl | rfl
  · rcases h.x with rfl | rfl
    · exact .here hp
    · exact .ptr hp
  · rcases h.y with ⟨_, rfl, _⟩ | ⟨t, _, rfl⟩
    · exact .osl fun t e => hq t
    · exact .buf (hq t)
theorem Wst.wrote {T : TypeId} {k : Nat} {s : ByteArray} {t : Nat} : Wst T k s (.ptr k 0 0) (bufA t s) (.tok t) := ⟨.inr rfl, .inr ⟨t, rfl, rfl⟩⟩
def WCal (f : FuncId) (c : Cm) (ind : Nat) (d : ByteArray) : Prop := ∀ (k nb : Nat) (box : Nat → Option (List (List AV))) (tok : Nat → Bool) (nt : Nat) (x y : AV) (o : Own) (s : ByteArray), Wst WrT k s x y o → box k = some [[x, y]] → o.liveP tok →
  s.size + d.size ≤ 1000000000 → ACalls Tryz.prog f [.ptr k 0 0, c.av, I ind] ⟨box, nb, tok, nt⟩ (QW k (s ++ d) (.tup []) o box nb tok nt)
structure AccW where
  i : Nat
  x : AV
  y : AV
  o : Own
  tok : Nat → Bool
  nt : Nat
structure WInv (D : Nat → ByteArray) (n k : Nat) (s : ByteArray) (o0 : Own) (tok0 : Nat → Bool) (nt0 : Nat) (a : AccW) : Prop where
  i : a.i ≤ n
  w : Wst WrT k (s ++ D a.i) a.x a.y a.o
  f : Fol o0 tok0 nt0 a.o a.tok a.nt
  e : 0 < a.i → a.x = .ptr k 0 0 ∧ ∃ t, a.o = .tok t
theorem WInv.of {D : Nat → ByteArray} {n k : Nat} {s : ByteArray} {o0 : Own} {tok0 : Nat → Bool} {nt0 i : Nat} {x y : AV} {o : Own} {tok : Nat → Bool} {nt : Nat} (h1 : i ≤ n) (h2 : Wst WrT k (s ++ D i) x y o) (h3 : Fol o0 tok0 nt0 o tok nt) (h4 : 0 < i → x = .ptr k 0 0 ∧ ∃ t, o = .tok t) : WInv D n k s o0 tok0 nt0 ⟨i, x, y, o, tok, nt⟩ := ⟨h1, h2, h3, h4⟩
def stBw (c : Cm) (ind : Nat) (ws : List ByteArray) (k nb : Nat) (box : Nat → Option (List (List AV))) (a : AccW) : AState :=
  ⟨tl [(11, .d (cms c.kids)), (12, I c.kids.length), (13, I a.i), (5, .ptr (nb + 5) 0 0), (0, .ptr k 0 0), (2, I ind), (3, .d (strs (ws.map (· ++ fOpen))))], lb nb (upd box k (some [[a.x, a.y]])) [(5, [c.row])], a.tok, a.nt⟩
set_option maxRecDepth 100000 in
theorem blocksW_c (c : Cm) (ind : Nat) (ws : List ByteArray) (hw1 : 1 ≤ ws.length) (hw2 : ws.length ≤ 3) (hws : ∀ w ∈ ws, w.size ≤ 20) (hi : ind ≤ 99) (hl : c.kids.length ≤ 1000000000)
    (ih : ∀ x ∈ c.kids, WCal 41 x (ind + 1) (fmC true (ind + 1) x)) (k nb : Nat) (box : Nat → Option (List (List AV))) (tok : Nat → Bool) (nt : Nat) (x y : AV) (o : Own) (s : ByteArray) (hs : Wst WrT k s x y o) (hk : box k = some [[x, y]]) (ho : o.liveP tok)
    (hz : s.size + (fmK ind ws 0 c.kids ++ lineR ind ⟨#[125]⟩).size ≤ 1000000000) :
    ACalls Tryz.prog 115 [.ptr k 0 0, c.av, I ind, .d (strs (ws.map (· ++ fOpen)))] ⟨box, nb, tok, nt⟩ (QW k (s ++ (fmK ind ws 0 c.kids ++ lineR ind ⟨#[125]⟩)) (.tup []) o box nb tok nt) := by
  rw [ByteArray.size_append] at hz
  refine sB Tryz.func115 Tryz.ntmps115 ?_
  intro hbox htok
  simp only at hbox htok
  apply AL.start
  have kn := key_lt hbox hk
  try (simp)
  repeat (refine sR ?_; simp)
  refine sN ?_
  refine AL.loopT (stBw c ind ws k nb box) (WInv (fun i => fmK ind ws 0 (c.kids.take i)) c.kids.length k s o tok nt) (fun a => c.kids.length - a.i) ⟨0, x, y, o, tok, nt⟩ (WInv.of (Nat.zero_le _) (by simpa [fmK, bApp_empty] using hs) (Fol.refl ho) (fun h => absurd h (Nat.lt_irrefl 0)))
    (by
      simp only [stBw]
      rw [upd_keep hk]
      exact Weaks.mk' (Nat.le_refl _) (by simp [ToL, lk]; exact to_ptr (by rw [lb_out kn, hk]; simp)) (by simp [BoxL, lk, Cm.cells_eq]) (fun k rows _ h => .inl h)) ?_
  rintro ⟨i, x1, y1, o1, tok1, nt1⟩ S hinv hS
  obtain ⟨hi2, hw, hf, _⟩ := hinv
  simp only [stBw] at hS hi2 hw hf ⊢
  subst hS
  have hwi : IntKind.i64.wrap ((i : Int) + 1) = ((i + 1 : Nat) : Int) := by rw [wrap_in (by omega) (by omega)]; rfl
  have hwn := sW (i := ind) (by omega)
  have hwl : IntKind.i64.wrap (↑ws.length - 1) = (ws.length : Int) - 1 := wrap_in (by omega) (by omega)
  have hle := fmK_le ind ws c.kids i
  by_cases hlt : i < c.kids.length
  · obtain ⟨j, hj⟩ : ∃ j, j = min i (ws.length - 1) := ⟨_, rfl⟩
    have hj1 : min (i : Int) ((ws.length : Int) - 1) = (j : Int) := by omega
    have hj2 : j < ws.length := by omega
    have hj2' : (j : Int) < ws.length := by omega
    have hwd := wdAt_at hw1 hj hj2
    have ht2 := fmK_take ind ws hlt
    have ht3 := fmK_le ind ws c.kids (i + 1)
    rw [ht2, ByteArray.size_append, ByteArray.size_append] at ht3
    have ihx := ih _ (List.getElem_mem hlt)
    try (simp [hlt])
    repeat (refine sR ?_; simp [hlt])
    refine sC ?_
    simp
    try (simp [hlt, Cm.cells_eq])
    repeat (refine sR ?_; simp [hlt, Cm.cells_eq])
    generalize c.kids[i] = q at *
    try (simp [hwl, hj1, hj2, hj2', hwd])
    repeat (refine sR ?_; simp [hwl, hj1, hj2, hj2', hwd])
    refine Stop.of_a (line_c k _ _ _ _ x1 y1 o1 _ hw (by simp only; rw [lb_out kn, upd_same]) hf.live ind (by omega) _ (by rw [ByteArray.size_append]; omega)) ?_
    rintro v m ⟨rfl, t2, tok2, nt2, hf2, rfl⟩
    try (simp [upd_lb_out kn, upd_upd, hwn])
    repeat (refine sR ?_; simp [upd_lb_out kn, upd_upd, hwn])
    refine Stop.of_a (ihx k _ _ _ _ _ _ _ _ Wst.wrote (by simp only; rw [lb_out kn, upd_same]) hf2.live (by rw [ByteArray.size_append, ByteArray.size_append]; omega)) ?_
    rintro v m ⟨rfl, t3, tok3, nt3, hf3, rfl⟩
    try (simp [upd_lb_out kn, upd_upd, hwi])
    repeat (refine sR ?_; simp [upd_lb_out kn, upd_upd, hwi])
    refine sE ?_
    have hff := hf.trans (hf2.trans hf3)
    refine ⟨⟨i + 1, .ptr k 0 0, bufA t3 _, .tok t3, tok3, nt3⟩, WInv.of hlt (by simp only [ht2, ← ByteArray.append_assoc]; exact Wst.wrote) hff (fun _ => ⟨rfl, _, rfl⟩), by simp only; omega, ?_⟩
    simp only [stBw]
    exact Weaks.mk' hff.le (by simp [ToL, lk]; exact to_ptr (by rw [lb_out kn, upd_same]; simp)) (by simp [BoxL, lk, Cm.cells_eq]) (outG (wst_ok (T := WrT) Wst.wrote (by rw [lb_out kn, upd_same]; simp) fun _ => trivial))
  · have : i = c.kids.length := by omega
    subst this
    rw [List.take_length] at hw hle
    try (simp [hlt])
    repeat (refine sR ?_; simp [hlt])
    refine sC ?_
    simp
    refine sX ?_
    simp only [AU, ↓reduceIte]
    try (simp)
    repeat (refine sR ?_; simp)
    refine Stop.of_a (line_c k _ _ _ _ x1 y1 o1 _ hw (by simp only; rw [lb_out kn, upd_same]) hf.live ind (by omega) _ (by rw [ByteArray.size_append]; omega)) ?_
    rintro v m ⟨rfl, t2, tok2, nt2, hf2, rfl⟩
    simp [upd_lb_out kn, upd_upd]
    refine sE ?_
    have hff := hf.trans hf2
    refine ⟨by simp, (Fin.gen (vs := []) (av := .tup []) (tok' := tok2) (nt' := nt2) (by simp [resAs, resA]) (by rw [← upd_lb_out kn, hbox]) hff.le (Nat.le_refl _) (fun t ht => ⟨ht, .inl rfl⟩) (outG (by simp [lb_out kn, upd_same]; exact .buf trivial)) (by simp [packA])).mono fun v m hq => ?_⟩
    exact ⟨hq.1, t2, tok2, nt2, hff, by rw [hq.2]; simp only [ByteArray.append_assoc]⟩
end Go.AM
namespace Go.AM
open Go Go.Proofs
theorem itoa_c (n : Int) (h0 : 0 ≤ n) (h1 : n < 10) (tok : Nat → Bool) (nt : Nat) : DCall Tryz.prog 116 [I n] tok nt (Sb (digR n)) tok nt := by
  intro box nb
  obtain ⟨i, rfl⟩ : ∃ i : Nat, n = i := ⟨n.toNat, by omega⟩
  refine ⟨Enters.mk Tryz.func116 rfl (by kernel_rfl), fun G w vals hm hr => ?_⟩
  obtain ⟨hlen, hrv⟩ := hr
  match vals, hlen with
  | [v], _ =>
    have h0 := hrv 0 (by simp) (by simp)
    simp only [List.getElem_cons_zero] at h0
    cases h0 with | d h0 =>
    cases h0
    refine (Tryz.strconv_Itoa_small i (by omega) w).mono ?_
    rintro e w' ⟨rfl, rfl⟩
    refine ⟨_, _, _, G, rfl, ⟨rfl, rfl⟩, rfl, hm, ?_, Le.refl _ _, fun k hk => ⟨hk, rfl⟩⟩
    have : (⟨(Lib.decDigits i).toArray⟩ : ByteArray) = digR (i : Int) := by
      have hi : i < 10 := by omega
      have h : Lib.decDigits i = [UInt8.ofNat (48 + i)] := by rw [Lib.decDigits, dif_pos hi]
      rw [h]
      have : ∀ i, i < 10 → (⟨[UInt8.ofNat (48 + i)].toArray⟩ : ByteArray) = digR (i : Int) := by decide
      exact this i hi
    rw [this]
    exact .d (.raw rfl)
def stBx (c : Cm) (ind k nb : Nat) (box : Nat → Option (List (List AV))) (a : AccW) : AState :=
  ⟨tl [(12, .d (cms c.kids)), (13, I c.kids.length), (14, I a.i), (4, .ptr (nb + 4) 0 0), (0, .ptr k 0 0), (2, I ind)], lb nb (upd box k (some [[a.x, a.y]])) [(4, [c.row])], a.tok, a.nt⟩
set_option maxRecDepth 100000 in
theorem wCmd_c : ∀ (n : Nat) (c : Cm), c.size < n → c.Fm → c.size ≤ 100000 → ∀ (ind : Nat), ind + c.depth ≤ 99 →
    (c.kind ≠ 2 → WCal 77 c ind (fmC false ind c)) ∧ WCal 41 c ind (fmC true ind c)
  | 0, c, hn, _, _, _, _ => absurd hn (Nat.not_lt_zero _)
  | n + 1, c, hn, hf, hsz, ind, hd => by
    have ih := fun x (hx : x ∈ c.kids) => wCmd_c n x (by have := Cm.kid_size hx; omega) (hf.kid x hx) (by have := Cm.kid_size hx; omega)
    have hdk : ∀ x ∈ c.kids, ind + 1 + x.depth ≤ 99 := fun x hx => by have := Cm.kid_depth hx; omega
    have hlen : c.kids.length ≤ 1000000000 := by have := Cm.len_le c.kids; have := c.size_eq; omega
    have hnm := hf.name
    have hL : c.kind ≠ 2 → WCal 77 c ind (fmC false ind c) := by
      intro hk2 k nb box tok nt x y o s hs hk ho hz
      have hR := fmC_eq false ind c
      rw [if_neg (by simp)] at hR
      have hbl := fun ws h1 h2 h3 => blocksW_c c ind ws h1 h2 h3 (by have := c.depth_eq; omega) hlen fun x hx => (ih x hx (ind + 1) (hdk x hx)).2
      have hwz : ∀ ws, wdsR c.kind c.num = ws → ∀ w ∈ ws, w.size ≤ 20 := fun ws h => h ▸ wdsR_size _ _
      have hok := hf.okB
      by_cases e1 : c.kind = 1
      · rw [if_pos e1] at hR
        rw [hR] at hz ⊢
        have eA : (⟨#[97, 112, 112, 108, 121, 32]⟩ : ByteArray) ++ c.name ++ ⟨#[32, 59]⟩ = fApply ++ (c.name ++ fSemi) := ByteArray.append_assoc
        refine sB Tryz.func77 Tryz.ntmps77 ?_
        intro hbox htok
        simp only at hbox htok
        apply AL.start
        have kn := key_lt hbox hk
        try (simp [e1])
        repeat (first | (refine sR ?_; simp [e1]) | (refine sC ?_; simp [e1]) | (refine sX ?_; simp only [AU, ↓reduceIte]))
        refine ⟨by (simp only [bsz, ByteArray.size_append, List.size_toArray, List.length_cons, List.length_nil]; omega), by (simp only [bsz, ByteArray.size_append, List.size_toArray, List.length_cons, List.length_nil]; omega), ?_⟩
        rw [eA]
        refine Stop.of_a (line_c k _ _ _ _ x y o _ hs (by simp only; rw [lb_out kn]; exact hk) ho ind (by omega) _ hz) ?_
        rintro v m ⟨rfl, t2, tok2, nt2, hf2, rfl⟩
        try (simp [upd_lb_out kn])
        repeat (first | (refine sR ?_; simp [upd_lb_out kn]) | (refine sC ?_; simp [upd_lb_out kn]) | (refine sX ?_; simp only [AU, ↓reduceIte]))
        refine sE ?_
        refine ⟨by simp, (Fin.gen (vs := []) (av := .tup []) (tok' := tok2) (nt' := nt2) (by simp [resAs, resA]) (by rw [← upd_lb_out kn, hbox]) hf2.le (Nat.le_refl _) (fun t ht => ⟨ht, .inl rfl⟩) (outG (by simp [lb_out kn, upd_same]; exact .buf trivial)) (by simp [packA])).mono fun v m hq => ?_⟩
        exact ⟨hq.1, t2, tok2, nt2, hf2, hq.2.trans rfl⟩
      rw [if_neg e1] at hR
      have b1 : (c.kind == 1) = false := by simp [e1]
      by_cases e10 : c.kind = 10
      · rw [if_pos e10] at hR
        rw [hR] at hz ⊢
        have eA : (⟨#[99, 97, 108, 108, 32]⟩ : ByteArray) ++ c.name ++ ⟨#[32, 59]⟩ = fCall ++ (c.name ++ fSemi) := ByteArray.append_assoc
        refine sB Tryz.func77 Tryz.ntmps77 ?_
        intro hbox htok
        simp only at hbox htok
        apply AL.start
        have kn := key_lt hbox hk
        try (simp [e1, b1, e10])
        repeat (first | (refine sR ?_; simp [e1, b1, e10]) | (refine sC ?_; simp [e1, b1, e10]) | (refine sX ?_; simp only [AU, ↓reduceIte]))
        refine ⟨by (simp only [bsz, ByteArray.size_append, List.size_toArray, List.length_cons, List.length_nil]; omega), by (simp only [bsz, ByteArray.size_append, List.size_toArray, List.length_cons, List.length_nil]; omega), ?_⟩
        rw [eA]
        refine Stop.of_a (line_c k _ _ _ _ x y o _ hs (by simp only; rw [lb_out kn]; exact hk) ho ind (by omega) _ hz) ?_
        rintro v m ⟨rfl, t2, tok2, nt2, hf2, rfl⟩
        try (simp [upd_lb_out kn])
        repeat (first | (refine sR ?_; simp [upd_lb_out kn]) | (refine sC ?_; simp [upd_lb_out kn]) | (refine sX ?_; simp only [AU, ↓reduceIte]))
        refine sE ?_
        refine ⟨by simp, (Fin.gen (vs := []) (av := .tup []) (tok' := tok2) (nt' := nt2) (by simp [resAs, resA]) (by rw [← upd_lb_out kn, hbox]) hf2.le (Nat.le_refl _) (fun t ht => ⟨ht, .inl rfl⟩) (outG (by simp [lb_out kn, upd_same]; exact .buf trivial)) (by simp [packA])).mono fun v m hq => ?_⟩
        exact ⟨hq.1, t2, tok2, nt2, hf2, hq.2.trans rfl⟩
      rw [if_neg e10] at hR
      have b10 : (c.kind == 10) = false := by simp [e10]
      by_cases e8 : c.kind = 8
      · rw [if_pos e8] at hR
        rw [hR] at hz ⊢
        refine sB Tryz.func77 Tryz.ntmps77 ?_
        intro hbox htok
        simp only at hbox htok
        apply AL.start
        have kn := key_lt hbox hk
        try (simp [e1, b1, e10, b10, e8])
        repeat (first | (refine sR ?_; simp [e1, b1, e10, b10, e8]) | (refine sC ?_; simp [e1, b1, e10, b10, e8]) | (refine sX ?_; simp only [AU, ↓reduceIte]))
        refine Stop.of_a (line_c k _ _ _ _ x y o _ hs (by simp only; rw [lb_out kn]; exact hk) ho ind (by omega) _ hz) ?_
        rintro v m ⟨rfl, t2, tok2, nt2, hf2, rfl⟩
        try (simp [upd_lb_out kn])
        repeat (first | (refine sR ?_; simp [upd_lb_out kn]) | (refine sC ?_; simp [upd_lb_out kn]) | (refine sX ?_; simp only [AU, ↓reduceIte]))
        refine sE ?_
        refine ⟨by simp, (Fin.gen (vs := []) (av := .tup []) (tok' := tok2) (nt' := nt2) (by simp [resAs, resA]) (by rw [← upd_lb_out kn, hbox]) hf2.le (Nat.le_refl _) (fun t ht => ⟨ht, .inl rfl⟩) (outG (by simp [lb_out kn, upd_same]; exact .buf trivial)) (by simp [packA])).mono fun v m hq => ?_⟩
        exact ⟨hq.1, t2, tok2, nt2, hf2, hq.2.trans rfl⟩
      rw [if_neg e8] at hR
      have b8 : (c.kind == 8) = false := by simp [e8]
      by_cases e9 : c.kind = 9
      · rw [if_pos e9] at hR
        rw [hR] at hz ⊢
        refine sB Tryz.func77 Tryz.ntmps77 ?_
        intro hbox htok
        simp only at hbox htok
        apply AL.start
        have kn := key_lt hbox hk
        try (simp [e1, b1, e10, b10, e8, b8, e9])
        repeat (first | (refine sR ?_; simp [e1, b1, e10, b10, e8, b8, e9]) | (refine sC ?_; simp [e1, b1, e10, b10, e8, b8, e9]) | (refine sX ?_; simp only [AU, ↓reduceIte]))
        refine Stop.of_a (line_c k _ _ _ _ x y o _ hs (by simp only; rw [lb_out kn]; exact hk) ho ind (by omega) _ hz) ?_
        rintro v m ⟨rfl, t2, tok2, nt2, hf2, rfl⟩
        try (simp [upd_lb_out kn])
        repeat (first | (refine sR ?_; simp [upd_lb_out kn]) | (refine sC ?_; simp [upd_lb_out kn]) | (refine sX ?_; simp only [AU, ↓reduceIte]))
        refine sE ?_
        refine ⟨by simp, (Fin.gen (vs := []) (av := .tup []) (tok' := tok2) (nt' := nt2) (by simp [resAs, resA]) (by rw [← upd_lb_out kn, hbox]) hf2.le (Nat.le_refl _) (fun t ht => ⟨ht, .inl rfl⟩) (outG (by simp [lb_out kn, upd_same]; exact .buf trivial)) (by simp [packA])).mono fun v m hq => ?_⟩
        exact ⟨hq.1, t2, tok2, nt2, hf2, hq.2.trans rfl⟩
      rw [if_neg e9] at hR
      have b9 : (c.kind == 9) = false := by simp [e9]
      rw [hR] at hz ⊢
      by_cases e5 : c.kind = 5
      · have hws : wdsR c.kind c.num = kwLoop := by rw [wdsR, if_neg (by omega), if_neg (by omega), if_pos e5]
        have t5 : (c.kind == 5) = true := by simp [e5]
        have hwl : (kwLoop.map (· ++ fOpen) : List ByteArray) = [⟨#[108, 111, 111, 112, 32, 123]⟩] := by decide
        have hb := hbl kwLoop (by decide) (by decide) (hwz _ hws)
        rw [hwl] at hb
        rw [hws] at hz ⊢
        refine sB Tryz.func77 Tryz.ntmps77 ?_
        intro hbox htok
        simp only at hbox htok
        apply AL.start
        have kn := key_lt hbox hk
        try (simp [e1, b1, e10, b10, e8, b8, e9, b9, t5])
        repeat (first | (refine sR ?_; simp [e1, b1, e10, b10, e8, b8, e9, b9, t5]) | (refine sC ?_; simp [e1, b1, e10, b10, e8, b8, e9, b9, t5]) | (refine sX ?_; simp only [AU, ↓reduceIte]))
        refine Stop.data ?_
        refine Stop.of_a (hb k _ _ _ _ x y o _ hs (by simp only; rw [lb_out kn]; exact hk) ho hz) ?_
        rintro v m ⟨rfl, t2, tok2, nt2, hf2, rfl⟩
        try (simp [upd_lb_out kn])
        repeat (first | (refine sR ?_; simp [upd_lb_out kn]) | (refine sC ?_; simp [upd_lb_out kn]) | (refine sX ?_; simp only [AU, ↓reduceIte]))
        refine sE ?_
        refine ⟨by simp, (Fin.gen (vs := []) (av := .tup []) (tok' := tok2) (nt' := nt2) (by simp [resAs, resA]) (by rw [← upd_lb_out kn, hbox]) hf2.le (Nat.le_refl _) (fun t ht => ⟨ht, .inl rfl⟩) (outG (by simp [lb_out kn, upd_same]; exact .buf trivial)) (by simp [packA])).mono fun v m hq => ?_⟩
        exact ⟨hq.1, t2, tok2, nt2, hf2, hq.2.trans rfl⟩
      have b5 : (c.kind == 5) = false := by simp [e5]
      by_cases e7 : c.kind = 7
      · have hws : wdsR c.kind c.num = kwTry := by rw [wdsR, if_neg (by omega), if_neg (by omega), if_neg (by omega), if_neg (by omega)]
        have t7 : (c.kind == 7) = true := by simp [e7]
        have hwl : (kwTry.map (· ++ fOpen) : List ByteArray) = [⟨#[116, 114, 121, 32, 123]⟩] := by decide
        have hb := hbl kwTry (by decide) (by decide) (hwz _ hws)
        rw [hwl] at hb
        rw [hws] at hz ⊢
        refine sB Tryz.func77 Tryz.ntmps77 ?_
        intro hbox htok
        simp only at hbox htok
        apply AL.start
        have kn := key_lt hbox hk
        try (simp [e1, b1, e10, b10, e8, b8, e9, b9, e5, b5, t7])
        repeat (first | (refine sR ?_; simp [e1, b1, e10, b10, e8, b8, e9, b9, e5, b5, t7]) | (refine sC ?_; simp [e1, b1, e10, b10, e8, b8, e9, b9, e5, b5, t7]) | (refine sX ?_; simp only [AU, ↓reduceIte]))
        refine Stop.data ?_
        refine Stop.of_a (hb k _ _ _ _ x y o _ hs (by simp only; rw [lb_out kn]; exact hk) ho hz) ?_
        rintro v m ⟨rfl, t2, tok2, nt2, hf2, rfl⟩
        try (simp [upd_lb_out kn])
        repeat (first | (refine sR ?_; simp [upd_lb_out kn]) | (refine sC ?_; simp [upd_lb_out kn]) | (refine sX ?_; simp only [AU, ↓reduceIte]))
        refine sE ?_
        refine ⟨by simp, (Fin.gen (vs := []) (av := .tup []) (tok' := tok2) (nt' := nt2) (by simp [resAs, resA]) (by rw [← upd_lb_out kn, hbox]) hf2.le (Nat.le_refl _) (fun t ht => ⟨ht, .inl rfl⟩) (outG (by simp [lb_out kn, upd_same]; exact .buf trivial)) (by simp [packA])).mono fun v m hq => ?_⟩
        exact ⟨hq.1, t2, tok2, nt2, hf2, hq.2.trans rfl⟩
      have b7 : (c.kind == 7) = false := by simp [e7]
      by_cases e6 : c.kind = 6
      · have hws : wdsR c.kind c.num = [fRep ++ digR c.num] := by rw [wdsR, if_neg (by omega), if_neg (by omega), if_neg (by omega), if_pos e6]
        have hit := itoa_c c.num (by have := hf.num e6; omega) (by have := hf.num e6; omega)
        have hdz := digR_size c.num
        have hb := hbl [fRep ++ digR c.num] (Nat.le_refl 1) (by show 1 ≤ 3; omega) (hwz _ hws)
        have eR : (⟨#[114, 101, 112, 101, 97, 116, 32]⟩ : ByteArray) ++ digR c.num ++ ⟨#[32, 123]⟩ = fRep ++ digR c.num ++ fOpen := rfl
        simp only [List.map_cons, List.map_nil] at hb
        rw [hws] at hz ⊢
        refine sB Tryz.func77 Tryz.ntmps77 ?_
        intro hbox htok
        simp only at hbox htok
        apply AL.start
        have kn := key_lt hbox hk
        have t6 : (c.kind == 6) = true := by simp [e6]
        try (simp [e1, b1, e10, b10, e8, b8, e9, b9, e5, b5, e7, b7])
        repeat (first | (refine sR ?_; simp [e1, b1, e10, b10, e8, b8, e9, b9, e5, b5, e7, b7]) | (refine sC ?_; simp [e1, b1, e10, b10, e8, b8, e9, b9, e5, b5, e7, b7]) | (refine sX ?_; simp only [AU, ↓reduceIte]))
        refine ⟨fun _ => ?_, fun h => absurd e6 h⟩
        refine sN ?_
        refine AL.splitL (by rfl) (by rfl) follows_Tryz (Nat.le_refl _) (by kernel_rfl) ?_
        simp
        refine Stop.of_d (hit _ _) ?_
        simp
        refine ⟨by (simp only [bsz, ByteArray.size_append, List.size_toArray, List.length_cons, List.length_nil]; omega), by (simp only [bsz, ByteArray.size_append, List.size_toArray, List.length_cons, List.length_nil]; omega), ?_⟩
        rw [eR]
        refine Stop.data ?_
        refine Stop.of_a (hb k _ _ _ _ x y o _ hs (by simp only; rw [lb_out kn]; exact hk) ho hz) ?_
        rintro v m ⟨rfl, t2, tok2, nt2, hf2, rfl⟩
        simp only [FOps_nil]
        try (simp [upd_lb_out kn])
        repeat (first | (refine sR ?_; simp [upd_lb_out kn]) | (refine sC ?_; simp [upd_lb_out kn]) | (refine sX ?_; simp only [AU, ↓reduceIte]))
        refine sE ?_
        refine ⟨by simp, (Fin.gen (vs := []) (av := .tup []) (tok' := tok2) (nt' := nt2) (by simp [resAs, resA]) (by rw [← upd_lb_out kn, hbox]) hf2.le (Nat.le_refl _) (fun t ht => ⟨ht, .inl rfl⟩) (outG (by simp [lb_out kn, upd_same]; exact .buf trivial)) (by simp [packA])).mono fun v m hq => ?_⟩
        exact ⟨hq.1, t2, tok2, nt2, hf2, hq.2.trans rfl⟩
      have b6 : (c.kind == 6) = false := by simp [e6]
      by_cases e4 : c.kind = 4
      · have hws : wdsR c.kind c.num = kwIf := by rw [wdsR, if_neg (by omega), if_pos e4]
        have t4 : (c.kind == 4) = true := by simp [e4]
        have hwl : (kwIf.map (· ++ fOpen) : List ByteArray) = [⟨#[105, 102, 32, 123]⟩, ⟨#[125, 32, 116, 104, 101, 110, 32, 123]⟩, ⟨#[125, 32, 101, 108, 115, 101, 32, 123]⟩] := by decide
        have hb := hbl kwIf (by decide) (by decide) (hwz _ hws)
        rw [hwl] at hb
        rw [hws] at hz ⊢
        refine sB Tryz.func77 Tryz.ntmps77 ?_
        intro hbox htok
        simp only at hbox htok
        apply AL.start
        have kn := key_lt hbox hk
        try (simp [e1, b1, e10, b10, e8, b8, e9, b9, e5, b5, e7, b7, e6, b6, t4])
        repeat (first | (refine sR ?_; simp [e1, b1, e10, b10, e8, b8, e9, b9, e5, b5, e7, b7, e6, b6, t4]) | (refine sC ?_; simp [e1, b1, e10, b10, e8, b8, e9, b9, e5, b5, e7, b7, e6, b6, t4]) | (refine sX ?_; simp only [AU, ↓reduceIte]))
        refine ⟨rfl, ?_⟩
        refine Stop.data ?_
        refine Stop.of_a (hb k _ _ _ _ x y o _ hs (by simp only; rw [lb_out kn]; exact hk) ho hz) ?_
        rintro v m ⟨rfl, t2, tok2, nt2, hf2, rfl⟩
        try (simp [upd_lb_out kn])
        repeat (first | (refine sR ?_; simp [upd_lb_out kn]) | (refine sC ?_; simp [upd_lb_out kn]) | (refine sX ?_; simp only [AU, ↓reduceIte]))
        refine sE ?_
        refine ⟨by simp, (Fin.gen (vs := []) (av := .tup []) (tok' := tok2) (nt' := nt2) (by simp [resAs, resA]) (by rw [← upd_lb_out kn, hbox]) hf2.le (Nat.le_refl _) (fun t ht => ⟨ht, .inl rfl⟩) (outG (by simp [lb_out kn, upd_same]; exact .buf trivial)) (by simp [packA])).mono fun v m hq => ?_⟩
        exact ⟨hq.1, t2, tok2, nt2, hf2, hq.2.trans rfl⟩
      have b4 : (c.kind == 4) = false := by simp [e4]
      by_cases e3 : c.kind = 3
      · have hws : wdsR c.kind c.num = kwCho := by rw [wdsR, if_pos e3]
        have t3 : (c.kind == 3) = true := by simp [e3]
        have hwl : (kwCho.map (· ++ fOpen) : List ByteArray) = [⟨#[99, 104, 111, 111, 115, 101, 32, 123]⟩, ⟨#[125, 32, 111, 114, 32, 123]⟩] := by decide
        have hb := hbl kwCho (by decide) (by decide) (hwz _ hws)
        rw [hwl] at hb
        rw [hws] at hz ⊢
        refine sB Tryz.func77 Tryz.ntmps77 ?_
        intro hbox htok
        simp only at hbox htok
        apply AL.start
        have kn := key_lt hbox hk
        try (simp [e1, b1, e10, b10, e8, b8, e9, b9, e5, b5, e7, b7, e6, b6, e4, b4, t3])
        repeat (first | (refine sR ?_; simp [e1, b1, e10, b10, e8, b8, e9, b9, e5, b5, e7, b7, e6, b6, e4, b4, t3]) | (refine sC ?_; simp [e1, b1, e10, b10, e8, b8, e9, b9, e5, b5, e7, b7, e6, b6, e4, b4, t3]) | (refine sX ?_; simp only [AU, ↓reduceIte]))
        refine ⟨rfl, ?_⟩
        refine Stop.data ?_
        refine Stop.of_a (hb k _ _ _ _ x y o _ hs (by simp only; rw [lb_out kn]; exact hk) ho hz) ?_
        rintro v m ⟨rfl, t2, tok2, nt2, hf2, rfl⟩
        try (simp [upd_lb_out kn])
        repeat (first | (refine sR ?_; simp [upd_lb_out kn]) | (refine sC ?_; simp [upd_lb_out kn]) | (refine sX ?_; simp only [AU, ↓reduceIte]))
        refine sE ?_
        refine ⟨by simp, (Fin.gen (vs := []) (av := .tup []) (tok' := tok2) (nt' := nt2) (by simp [resAs, resA]) (by rw [← upd_lb_out kn, hbox]) hf2.le (Nat.le_refl _) (fun t ht => ⟨ht, .inl rfl⟩) (outG (by simp [lb_out kn, upd_same]; exact .buf trivial)) (by simp [packA])).mono fun v m hq => ?_⟩
        exact ⟨hq.1, t2, tok2, nt2, hf2, hq.2.trans rfl⟩
      have b3 : (c.kind == 3) = false := by simp [e3]
      exfalso
      unfold okB at hok
      simp [e1, e10, e8, e9, e5, e7, e6, e4, e3, hk2] at hok
    refine ⟨hL, ?_⟩
    intro k nb box tok nt x y o s hs hk ho hz
    have hok := hf.okB
    have hR := fmC_eq true ind c
    by_cases e2 : c.kind = 2
    · rw [if_pos (by simp [e2])] at hR
      rw [hR] at hz ⊢
      have t2 : (c.kind == 2) = true := by simp [e2]
      have hk2 : ∀ q ∈ c.kids, q.kind ≠ 2 := by
        intro q hq e
        have h1 := hok
        unfold okB at h1
        simp only [e2, if_true, Bool.and_eq_true, decide_eq_true_eq, Bool.not_eq_true', List.any_eq_false] at h1
        exact h1.1.1.2 q hq (by simp [e])
      refine sB Tryz.func41 Tryz.ntmps41 ?_
      intro hbox htok
      simp only at hbox htok
      apply AL.start
      have kn := key_lt hbox hk
      try (simp [t2])
      repeat (first | (refine sR ?_; simp [t2]) | (refine sC ?_; simp [t2]) | (refine sX ?_; simp only [AU, ↓reduceIte]))
      refine sN ?_
      refine AL.loopT (stBx c ind k nb box) (WInv (fun i => fmS ind (c.kids.take i)) c.kids.length k s o tok nt) (fun a => c.kids.length - a.i) ⟨0, x, y, o, tok, nt⟩ (WInv.of (Nat.zero_le _) (by simpa [fmS, bApp_empty] using hs) (Fol.refl ho) (fun h => absurd h (Nat.lt_irrefl 0)))
        (by
          simp only [stBx]
          rw [upd_keep hk]
          exact Weaks.mk' (Nat.le_refl _) (by simp [ToL, lk]; exact to_ptr (by rw [lb_out kn, hk]; simp)) (by simp [BoxL, lk, Cm.cells_eq]) (fun k rows _ h => .inl h)) ?_
      rintro ⟨i, x1, y1, o1, tok1, nt1⟩ S hinv hS
      obtain ⟨hi2, hw, hf, hxe⟩ := hinv
      simp only [stBx] at hS hi2 hw hf hxe ⊢
      subst hS
      have hwi : IntKind.i64.wrap ((i : Int) + 1) = ((i + 1 : Nat) : Int) := by rw [wrap_in (by omega) (by omega)]; rfl
      have hle := fmS_le ind c.kids i
      by_cases hlt : i < c.kids.length
      · have ht2 := fmS_take ind hlt
        have ht3 := fmS_le ind c.kids (i + 1)
        rw [ht2, ByteArray.size_append] at ht3
        have ihx := (ih _ (List.getElem_mem hlt) ind (by have := hdk _ (List.getElem_mem hlt); omega)).1 (hk2 _ (List.getElem_mem hlt))
        try (simp [hlt])
        repeat (refine sR ?_; simp [hlt])
        refine sC ?_
        simp
        try (simp [hlt, Cm.cells_eq])
        repeat (refine sR ?_; simp [hlt, Cm.cells_eq])
        generalize c.kids[i] = q at *
        try (simp)
        repeat (refine sR ?_; simp)
        refine Stop.of_a (ihx k _ _ _ _ x1 y1 o1 _ hw (by simp only; rw [lb_out kn, upd_same]) hf.live (by rw [ByteArray.size_append]; omega)) ?_
        rintro v m ⟨rfl, t3, tok3, nt3, hf3, rfl⟩
        try (simp [upd_lb_out kn, upd_upd, hwi])
        repeat (refine sR ?_; simp [upd_lb_out kn, upd_upd, hwi])
        refine sE ?_
        have hff := hf.trans hf3
        refine ⟨⟨i + 1, .ptr k 0 0, bufA t3 _, .tok t3, tok3, nt3⟩, WInv.of hlt (by simp only [ht2, ← ByteArray.append_assoc]; exact Wst.wrote) hff (fun _ => ⟨rfl, _, rfl⟩), by simp only; omega, ?_⟩
        simp only [stBx]
        exact Weaks.mk' hff.le (by simp [ToL, lk]; exact to_ptr (by rw [lb_out kn, upd_same]; simp)) (by simp [BoxL, lk, Cm.cells_eq]) (outG (wst_ok (T := WrT) Wst.wrote (by rw [lb_out kn, upd_same]; simp) fun _ => trivial))
      · have : i = c.kids.length := by omega
        subst this
        rw [List.take_length] at hw hle
        have hne : 0 < c.kids.length := by
          have h1 := hok
          unfold okB at h1
          simp only [e2, if_true, Bool.and_eq_true, decide_eq_true_eq] at h1
          have := h1.1.1.1
          omega
        obtain ⟨rfl, t3, rfl⟩ := hxe hne
        have hy : y1 = bufA t3 (s ++ fmS ind c.kids) := by
          rcases hw.y with ⟨_, _, e⟩ | ⟨t, e, e3⟩
          · cases e
          · cases e; exact e3
        subst hy
        try (simp [hlt])
        repeat (refine sR ?_; simp [hlt])
        refine sC ?_
        simp
        refine sX ?_
        simp only [AU, ↓reduceIte]
        try (simp)
        repeat (refine sR ?_; simp)
        refine sT ?_
        try simp only [AU]
        refine ⟨by simp, (Fin.gen (vs := []) (av := .tup []) (tok' := tok1) (nt' := nt1) (by simp [resAs, resA]) (by rw [← upd_lb_out kn, hbox]) hf.le (Nat.le_refl _) (fun t ht => ⟨ht, .inl rfl⟩) (outG (by simp [lb_out kn, upd_same]; exact .buf trivial)) (by simp [packA])).mono fun v m hq => ?_⟩
        exact ⟨hq.1, t3, tok1, nt1, hf, hq.2.trans rfl⟩
    · rw [if_neg (by simp [e2])] at hR
      have hR2 := fmC_eq false ind c
      rw [if_neg (by simp)] at hR2
      rw [← hR2] at hR
      rw [hR] at hz ⊢
      have b2 : (c.kind == 2) = false := by simp [e2]
      have hb := hL e2
      refine sB Tryz.func41 Tryz.ntmps41 ?_
      intro hbox htok
      simp only at hbox htok
      apply AL.start
      have kn := key_lt hbox hk
      try (simp [b2])
      repeat (first | (refine sR ?_; simp [b2]) | (refine sC ?_; simp [b2]) | (refine sX ?_; simp only [AU, ↓reduceIte]))
      refine Stop.of_a (hb k _ _ _ _ x y o _ hs (by simp only; rw [lb_out kn]; exact hk) ho hz) ?_
      rintro v m ⟨rfl, t2, tok2, nt2, hf2, rfl⟩
      try (simp [upd_lb_out kn])
      repeat (first | (refine sR ?_; simp [upd_lb_out kn]) | (refine sC ?_; simp [upd_lb_out kn]) | (refine sX ?_; simp only [AU, ↓reduceIte]))
      refine sE ?_
      refine ⟨by simp, (Fin.gen (vs := []) (av := .tup []) (tok' := tok2) (nt' := nt2) (by simp [resAs, resA]) (by rw [← upd_lb_out kn, hbox]) hf2.le (Nat.le_refl _) (fun t ht => ⟨ht, .inl rfl⟩) (outG (by simp [lb_out kn, upd_same]; exact .buf trivial)) (by simp [packA])).mono fun v m hq => ?_⟩
      exact ⟨hq.1, t2, tok2, nt2, hf2, hq.2.trans rfl⟩
end Go.AM
namespace Go.AM
open Go Go.Proofs
def stFq (p : List Pr) (nb : Nat) (box : Nat → Option (List (List AV))) (a : AccW) : AState :=
  ⟨tl [(18, .d (prs p)), (19, I p.length), (20, I a.i), (6, .ptr (nb + 6) 0 0), (1, .ptr (nb + 1) 0 0)], lb nb box [(6, [[a.x, a.y]]), (1, [[.d (prs p)]])], a.tok, a.nt⟩
set_option maxRecDepth 100000 in
theorem format_c (p : List Pr) (hp : PrsOk p) (tok : Nat → Bool) (nt : Nat) : DCall Tryz.prog 13 [prsAv p] tok nt (.tup [Sb (fmtR p).1, I (fmtR p).2]) tok nt := by
  intro box nb
  have hfc := fault_c p [] false hp (by simp)
  have hN : fmtR p = if (faultR p [] false).2 ≠ 0 then (⟨#[]⟩, (faultR p [] false).2) else (fmPs p, 0) := rfl
  have hfm := @fault_fm p
  have hval := fault_valid (p := p) (rs := []) (asked := false)
  have hlen := hp.len
  generalize faultR p [] false = F at *
  refine sB Tryz.func13 Tryz.ntmps13 ?_
  intro hbox htok
  simp only at hbox htok
  apply AL.start
  have ht0 := TK.start htok
  try (simp)
  repeat (refine sR ?_; simp)
  refine Stop.sub (args' := [prsAv p, .d (rules46 []), B false]) ⟨Sub.refl _, Sub.nil _ _ _, Sub.refl _, trivial⟩ ?_
  refine Stop.of_d (hfc _ _) ?_
  simp
  by_cases he : F.2 = 0
  · rw [if_neg (by simp [he])] at hN
    obtain ⟨hl, hq⟩ := hfm he
    obtain ⟨_, _, h1p, _⟩ := hval he
    have be : (F.2 != 0) = false := by simp [he]
    have hall := fmPs_size p hq
    try (simp [be])
    repeat (first | (refine sR ?_; simp [be]) | (refine sC ?_; simp [be]) | (refine sX ?_; simp only [AU, ↓reduceIte]))
    refine sN ?_
    refine AL.loopT (stFq p nb box) (WInv (fun i => fmPs (p.take i)) p.length (nb + 6) ⟨#[]⟩ .full tok nt) (fun a => p.length - a.i) ⟨0, .here (nb + 6) WrT, nilS, .full, tok, nt⟩ (WInv.of (Nat.zero_le _) ⟨.inl rfl, .inl ⟨rfl, rfl, rfl⟩⟩ (Fol.refl trivial) (fun h => absurd h (Nat.lt_irrefl 0)))
      (Weaks.mk (Nat.le_refl _) rfl (by simp [ToL, lk]) (by simp [BoxL, lk])) ?_
    rintro ⟨i, x1, y1, o1, tok1, nt1⟩ S hinv hS
    obtain ⟨hi2, hw, hf, hxe⟩ := hinv
    simp only [stFq] at hS hi2 hw hf hxe ⊢
    subst hS
    have hwi : IntKind.i64.wrap ((i : Int) + 1) = ((i + 1 : Nat) : Int) := by rw [wrap_in (by omega) (by omega)]; rfl
    have hle := fmPs_le p i
    by_cases hlt : i < p.length
    · obtain ⟨q1, q2, q3, q4⟩ := hq _ (List.getElem_mem hlt)
      have hx := (wCmd_c _ p[i].body (Nat.lt_succ_self _) q4 (by omega) 1 (by omega)).2
      have ht2 := fmPs_take hlt
      have ht3 := fmPs_le p (i + 1)
      rw [ht2, fmP] at ht3
      simp only [ByteArray.size_append] at ht3
      try (simp [hlt])
      repeat (refine sR ?_; simp [hlt])
      refine sC ?_
      simp
      try (simp [hlt])
      repeat (refine sR ?_; simp [hlt])
      generalize p[i] = q at *
      have eA : (⟨#[112, 114, 111, 99, 101, 100, 117, 114, 101, 32]⟩ : ByteArray) ++ q.name ++ ⟨#[32, 123]⟩ = fPro ++ (q.name ++ fOpen) := ByteArray.append_assoc
      refine ⟨by (simp only [bsz, ByteArray.size_append, List.size_toArray, List.length_cons, List.length_nil]; omega), by (simp only [bsz, ByteArray.size_append, List.size_toArray, List.length_cons, List.length_nil]; omega), ?_⟩
      rw [eA]
      rw [bEmpty_app] at hw
      refine Stop.of_a (line_c (nb + 6) _ _ _ _ x1 y1 o1 _ hw (by simp [lb_at, lk]) hf.live 0 (by omega) _ (by omega)) ?_
      rintro v m ⟨rfl, t2, tok2, nt2, hf2, rfl⟩
      try (simp)
      repeat (refine sR ?_; simp)
      refine Stop.of_a (hx (nb + 6) _ _ _ _ (.ptr (nb + 6) 0 0) (bufA t2 (fmPs (p.take i) ++ lineR 0 (fPro ++ (q.name ++ fOpen)))) (.tok t2) (fmPs (p.take i) ++ lineR 0 (fPro ++ (q.name ++ fOpen))) Wst.wrote (by simp [lb_at, lk]) hf2.live (by rw [ByteArray.size_append]; omega)) ?_
      rintro v m ⟨rfl, t3, tok3, nt3, hf3, rfl⟩
      try (simp)
      repeat (refine sR ?_; simp)
      refine Stop.of_a (line_c (nb + 6) _ _ _ _ (.ptr (nb + 6) 0 0) (bufA t3 (fmPs (p.take i) ++ lineR 0 (fPro ++ (q.name ++ fOpen)) ++ fmC true 1 q.body)) (.tok t3) (fmPs (p.take i) ++ lineR 0 (fPro ++ (q.name ++ fOpen)) ++ fmC true 1 q.body) Wst.wrote (by simp [lb_at, lk]) hf3.live 0 (by omega) _ (by rw [ByteArray.size_append, ByteArray.size_append]; omega)) ?_
      rintro v m ⟨rfl, t4, tok4, nt4, hf4, rfl⟩
      try (simp [hwi])
      repeat (refine sR ?_; simp [hwi])
      refine sE ?_
      have hff := hf.trans (hf2.trans (hf3.trans hf4))
      have eS : (⟨#[]⟩ : ByteArray) ++ fmPs (p.take (i + 1)) = fmPs (p.take i) ++ lineR 0 (fPro ++ (q.name ++ fOpen)) ++ fmC true 1 q.body ++ lineR 0 ⟨#[125]⟩ := by
        rw [bEmpty_app, ht2, fmP]
        simp only [ByteArray.append_assoc]
      refine ⟨⟨i + 1, .ptr (nb + 6) 0 0, bufA t4 (fmPs (p.take i) ++ lineR 0 (fPro ++ (q.name ++ fOpen)) ++ fmC true 1 q.body ++ lineR 0 ⟨#[125]⟩), .tok t4, tok4, nt4⟩, WInv.of hlt (by simp only [eS]; exact Wst.wrote) hff (fun _ => ⟨rfl, _, rfl⟩), by simp only; omega, ?_⟩
      simp only [stFq]
      exact Weaks.mk hff.le rfl (by simp [ToL, lk]) (by simp [BoxL, lk])
    · have : i = p.length := by omega
      subst this
      rw [List.take_length, bEmpty_app] at hw
      obtain ⟨rfl, t3, rfl⟩ := hxe (by omega)
      have hy : y1 = bufA t3 (fmPs p) := by
        rcases hw.y with ⟨_, _, e⟩ | ⟨t, e, e3⟩
        · cases e
        · cases e; exact e3
      subst hy
      have hpos : 0 < (fmPs p).size := by
        have h0 : 0 < p.length := by omega
        have h1 := fmPs_le p 1
        have h2 := fmPs_take (l := p) (i := 0) h0
        have h3 : (fmP p[0]).size ≤ (fmPs (p.take 1)).size := by rw [h2, ByteArray.size_append]; omega
        have h4 : 0 < (fmP p[0]).size := by simp only [fmP, ByteArray.size_append, lineR_size]; omega
        omega
      have hlv : tok1 t3 = true := hf.live
      try (simp [hlt])
      repeat (refine sR ?_; simp [hlt])
      refine sC ?_
      simp
      refine sX ?_
      simp only [AU, ↓reduceIte]
      try (simp)
      repeat (refine sR ?_; simp)
      refine Stop.of_a (stringB_c (nb + 6) _ _ _ _ (.ptr (nb + 6) 0 0) t3 (fmPs p) hpos (by simp [lb_at, lk]) hlv) ?_
      rintro v m ⟨rfl, rfl⟩
      have htk := hf.tk tok nt [] ht0.full
      have hold : ∀ t, tok t = true → (upd tok1 t3 false) t = true := by
        intro t ht
        have h1 := (htk.own _ (by simp) t3 rfl).2.1
        have h2 := htk.lt t ht
        rw [upd_other _ _ (by omega)]
        exact htk.old t ht
      try (simp)
      repeat (refine sR ?_; simp)
      refine sT ?_
      try simp only [AU]
      refine ⟨by simp, sF hbox htok hold htk.le ?_⟩
      simp [packA, hN]
  · rw [if_pos he] at hN
    have be : (F.2 != 0) = true := by simp [he]
    try (simp [be])
    repeat (first | (refine sR ?_; simp [be]) | (refine sC ?_; simp [be]) | (refine sX ?_; simp only [AU, ↓reduceIte]))
    refine sT ?_
    try simp only [AU]
    refine ⟨by simp, sF hbox htok (fun _ h => h) (Nat.le_refl _) ?_⟩
    simp [packA, hN]
end Go.AM
namespace Go.AM
open Go Go.Proofs
@[simp] theorem lb_base46 (base : Nat) (out : Nat → Option (List (List AV))) (loc : List (Nat × List (List AV))) : lb base out loc base = lk loc 0 := lb_at base 0 out loc
@[simp] theorem upd_lb_base46 (base : Nat) (out : Nat → Option (List (List AV))) (loc : List (Nat × List (List AV))) (rows : List (List AV)) : upd (lb base out loc) base (some rows) = lb base out ((0, rows) :: loc) := upd_lb base 0 out loc rows
@[simp] theorem to_ptr_base46 {q : Nat → Prop} {fz : Option (Nat × Nat × List (List D))} {base i off : Nat} {out : Nat → Option (List (List AV))} {loc : List (Nat × List (List AV))} : To (fun k => lb base out loc k ≠ none) q fz (.ptr base i off) (.ptr base i off) ↔ lk loc 0 ≠ none := to_ptr_lb (s := 0)
def stEq (xs ys : List ByteArray) (nb : Nat) (box : Nat → Option (List (List AV))) (tok : Nat → Bool) (nt : Nat) (i : Nat) : AState :=
  ⟨tl [(0, .d (strs xs)), (1, .d (strs ys)), (12, I xs.length), (13, I i)], lb nb box [], tok, nt⟩
set_option maxRecDepth 100000 in
theorem equalS_c (xs ys : List ByteArray) (hx : xs.length ≤ 1000000000) (hy : ys.length ≤ 1000000000) (tok : Nat → Bool) (nt : Nat) : DCall Tryz.prog 22 [.d (strs xs), .d (strs ys)] tok nt (B (decide (xs = ys))) tok nt := by
  intro box nb
  refine sB Tryz.func22 Tryz.ntmps22 ?_
  intro hbox htok
  simp only at hbox htok
  apply AL.start
  by_cases hl : xs.length = ys.length
  · have hl' : (xs.length : Int) = ys.length := by omega
    try (simp [hl'])
    repeat (first | (refine sR ?_; simp [hl']) | (refine sC ?_; simp [hl']) | (refine sX ?_; simp only [AU, ↓reduceIte]))
    refine sN ?_
    refine AL.loopT (stEq xs ys nb box tok nt) (fun i => i ≤ xs.length ∧ xs.take i = ys.take i) (fun i => xs.length - i) 0 ⟨Nat.zero_le _, by simp⟩ (Weaks.mk (Nat.le_refl _) rfl (by simp [ToL, lk, hl]) trivial) ?_
    rintro i S' ⟨hi, htk⟩ hS
    simp only [stEq] at hS
    subst hS
    have hw := sW (i := i) (by omega)
    by_cases hlt : i < xs.length
    · have hlt2 : i < ys.length := by omega
      by_cases he : xs[i] = ys[i]
      · have b : (xs[i].toList == ys[i].toList) = true := by rw [seq_dec]; simpa using he
        have b2 : (xs[i].toList != ys[i].toList) = false := by simp [bne, b]
        try (simp [hlt, hlt2])
        repeat (refine sR ?_; simp [hlt, hlt2])
        refine sC ?_
        simp
        try (simp [hlt, hlt2, b2, b, he])
        repeat (first | (refine sR ?_; simp [hlt, hlt2, b2, b, he]) | (refine sC ?_; simp [hlt, hlt2, b2, b, he]) | (refine sX ?_; simp only [AU, ↓reduceIte]))
        try (simp [hw])
        repeat (first | (refine sR ?_; simp [hw]) | (refine sC ?_; simp [hw]) | (refine sX ?_; simp only [AU, ↓reduceIte]))
        refine sE ?_
        refine ⟨i + 1, ⟨hlt, ?_⟩, by omega, Weaks.mk (Nat.le_refl _) rfl (by simp [ToL, lk]) trivial⟩
        rw [List.take_succ_eq_append_getElem hlt, List.take_succ_eq_append_getElem hlt2, htk, he]
      · have b : (xs[i].toList == ys[i].toList) = false := by rw [seq_dec]; simpa using he
        have b2 : (xs[i].toList != ys[i].toList) = true := by simp [bne, b]
        have hne : ¬ xs = ys := fun e => he (by subst e; rfl)
        try (simp [hlt, hlt2])
        repeat (refine sR ?_; simp [hlt, hlt2])
        refine sC ?_
        simp
        try (simp [hlt, hlt2, b2, b, he])
        repeat (first | (refine sR ?_; simp [hlt, hlt2, b2, b, he]) | (refine sC ?_; simp [hlt, hlt2, b2, b, he]) | (refine sX ?_; simp only [AU, ↓reduceIte]))
        refine sT ?_
        try simp only [AU]
        refine ⟨by simp, sF hbox htok (fun _ h => h) (Nat.le_refl _) ?_⟩
        simp [packA, hne]
    · have hxy : xs = ys := by rw [List.take_of_length_le (by omega), List.take_of_length_le (by omega)] at htk; exact htk
      try (simp [hlt])
      repeat (refine sR ?_; simp [hlt])
      refine sC ?_
      simp
      refine sX ?_
      simp only [AU, ↓reduceIte]
      try (simp)
      repeat (refine sR ?_; simp)
      refine sT ?_
      try simp only [AU]
      refine ⟨by simp, sF hbox htok (fun _ h => h) (Nat.le_refl _) ?_⟩
      simp [packA, hxy]
  · have hl' : ¬ (xs.length : Int) = ys.length := by omega
    have hne : ¬ xs = ys := fun e => hl (by rw [e])
    have b2 : ((xs.length : Int) != ys.length) = true := by simp [hl']
    try (simp [hl', b2, hl])
    repeat (first | (refine sR ?_; simp [hl', b2, hl]) | (refine sC ?_; simp [hl', b2, hl]) | (refine sX ?_; simp only [AU, ↓reduceIte]))
    refine sT ?_
    try simp only [AU]
    refine ⟨by simp, sF hbox htok (fun _ h => h) (Nat.le_refl _) ?_⟩
    simp [packA, hne]
theorem hasPrefix_c (s p : ByteArray) (tok : Nat → Bool) (nt : Nat) : DCall Tryz.prog 37 [Sb s, Sb p] tok nt (B (Lib.hasPrefix s.data.toList p.data.toList)) tok nt := by
  intro box nb
  refine ⟨Enters.mk Tryz.func37 rfl (by kernel_rfl), fun G w vals hm hr => ?_⟩
  obtain ⟨hlen, hrv⟩ := hr
  match vals, hlen with
  | [v, u], _ =>
    have h0 := hrv 0 (by simp) (by simp)
    have h1 := hrv 1 (by simp) (by simp)
    simp only [List.getElem_cons_zero, List.getElem_cons_succ] at h0 h1
    cases h0 with | d h0 =>
    cases h1 with | d h1 =>
    cases h0
    cases h1
    refine (Tryz.strings_HasPrefix s p w).mono ?_
    rintro e w' ⟨rfl, rfl⟩
    exact ⟨_, _, _, G, rfl, ⟨rfl, rfl⟩, rfl, hm, .d (.raw rfl), Le.refl _ _, fun k hk => ⟨hk, rfl⟩⟩
def nMerge : ByteArray := ⟨#[109, 101, 114, 103, 101]⟩
def nPay : ByteArray := ⟨#[112, 97, 121]⟩
def nTidy : ByteArray := ⟨#[116, 105, 100, 121]⟩
def nMain : ByteArray := ⟨#[109, 97, 105, 110]⟩
def cApply (s : ByteArray) : Cm := .mk 1 s 0 []
def exLoop : Cm := .mk 5 ⟨#[]⟩ 0 [cApply nMerge]
def exMain : Cm := .mk 2 ⟨#[]⟩ 0 [cApply nPay, .mk 10 nTidy 0 []]
def exP : List Pr := [⟨nTidy, exLoop⟩, ⟨nMain, exMain⟩]
theorem apply1_c (s : ByteArray) (tok : Nat → Bool) (nt : Nat) : DCall Tryz.prog 71 [Sb s] tok nt (cApply s).av tok nt := by
  intro box nb
  refine sB Tryz.func71 Tryz.ntmps71 ?_
  intro hbox htok
  simp only at hbox htok
  apply AL.start
  try (simp)
  repeat (first | (refine sR ?_; simp) | (refine sC ?_; simp) | (refine sX ?_; simp only [AU, ↓reduceIte]))
  refine sT ?_
  try simp only [AU]
  refine ⟨by simp, sF hbox htok (fun _ h => h) (Nat.le_refl _) ?_⟩
  simp [packA, cApply, Cm.kind, Cm.name, Cm.num, Cm.kids, cms]
theorem dssN46 : DSs [] [] := ⟨rfl, fun i h => by simp at h⟩
theorem dssC46 {r r' : List D} {rs rs' : List (List D)} (h : DS1 r r') (k : DSs rs rs') : DSs (r :: rs) (r' :: rs') :=
  ⟨by simp [k.1], fun i h1 h2 => by
    cases i with
    | zero => exact h
    | succ i => exact k.2 i (by simpa using h1) (by simpa using h2)⟩
abbrev lStr (s : ByteArray) : D := .raw (.string s)
abbrev lInt (n : Int) : D := .raw (.int .i64 n)
theorem ex_sub : DSub (.sl 5 [[lStr nTidy, lInt 5, lStr ⟨#[]⟩, lInt 0, .sl 4 [[lInt 1, lStr nMerge, lInt 0, .sl 4 []]]], [lStr nMain, lInt 2, lStr ⟨#[]⟩, lInt 0, .sl 4 [[lInt 1, lStr nPay, lInt 0, .sl 4 []], [lInt 10, lStr nTidy, lInt 0, .sl 0 []]]]]) (prs exP) := by
  have h : DSub (.sl 4 [[lInt 1, lStr nPay, lInt 0, .sl 4 []], [lInt 10, lStr nTidy, lInt 0, .sl 0 []]]) (.sl 4 [[lInt 1, lStr nPay, lInt 0, .sl 4 []], [lInt 10, lStr nTidy, lInt 0, .sl 4 []]]) := DSs.sub (dssC46 (by simp) (dssC46 (by simp) dssN46)) 4
  show DSub _ (.sl 5 [[lStr nTidy, lInt 5, lStr ⟨#[]⟩, lInt 0, .sl 4 [[lInt 1, lStr nMerge, lInt 0, .sl 4 []]]], [lStr nMain, lInt 2, lStr ⟨#[]⟩, lInt 0, .sl 4 [[lInt 1, lStr nPay, lInt 0, .sl 4 []], [lInt 10, lStr nTidy, lInt 0, .sl 4 []]]]])
  exact DSs.sub (dssC46 (by simp) (dssC46 (by simp [h]) dssN46)) 5
set_option maxRecDepth 100000 in
theorem example_c (tok : Nat → Bool) (nt : Nat) : DCall Tryz.prog 36 [] tok nt (prsAv exP) tok nt := by
  intro box nb
  have h1 := apply1_c nMerge
  have h2 := apply1_c nPay
  refine sB Tryz.func36 Tryz.ntmps36 ?_
  intro hbox htok
  simp only at hbox htok
  apply AL.start
  try (simp)
  repeat (first | (refine sR ?_; simp) | (refine sC ?_; simp) | (refine sX ?_; simp only [AU, ↓reduceIte]))
  refine Stop.of_d (h1 _ _) ?_
  simp
  try (simp)
  repeat (first | (refine sR ?_; simp) | (refine sC ?_; simp) | (refine sX ?_; simp only [AU, ↓reduceIte]))
  refine Stop.of_d (h2 _ _) ?_
  simp
  try (simp)
  repeat (first | (refine sR ?_; simp) | (refine sC ?_; simp) | (refine sX ?_; simp only [AU, ↓reduceIte]))
  refine ⟨rfl, ?_⟩
  try (simp)
  repeat (first | (refine sR ?_; simp) | (refine sC ?_; simp) | (refine sX ?_; simp only [AU, ↓reduceIte]))
  refine ⟨rfl, ?_⟩
  try (simp)
  repeat (first | (refine sR ?_; simp) | (refine sC ?_; simp) | (refine sX ?_; simp only [AU, ↓reduceIte]))
  refine sT ?_
  try simp only [AU]
  refine ⟨by simp, sF hbox htok (fun _ h => h) (Nat.le_refl _) ?_⟩
  simp [packA, cApply, Cm.kind, Cm.name, Cm.num, Cm.kids, cms]
  exact .odsub ex_sub
end Go.AM
