/- Texts of this claim, merged by a program of this session; what the claim does not use is left out. -/
import Derived.Test.YtnjdjfengoaleaaQd
import Derived.StillTailTactics
import Derived.Outline
import Derived.Test.YtnjdjfengoaleaaProg
import Derived.Shelf.SlSortCmp.NoneTotal
import Derived.Ground.SlsfProg
import Derived.Sort.OwnSorted
namespace Go.Proofs.Ytnjdjfengoaleaa.MSub
open Go.RowKit Go.Proofs.YtnjdjfengoaleaaW.PrintWords Go.Proofs.YtnjdjfengoaleaaW.PrintLast Go.Proofs.YtnjdjfengoaleaaW.PrintMore
set_option linter.unusedVariables false
set_option linter.unusedSimpArgs false
def cmpI (a b : Int) : Int := if a < b then -1 else if b < a then 1 else 0
theorem compare_calls (a b : Int) (w : World) : Calls Try.prog 62 #[.int .i64 a, .int .i64 b] w fun e w' => e = .returned (.int .i64 (cmpI a b)) ∧ w = w' := by
  have ha : (a != a) = false := by simp
  have hb : (b != b) = false := by simp
  by_cases h1 : a < b
  · have hc : Aside0 (cmpI a b = -1) := ⟨by unfold cmpI; rw [if_pos h1]⟩
    go_enter Try.func62, Try.ntmps62
    go_wp2
    go_ret
    exact ⟨by rw [hc.out]; rfl, rfl⟩
  · by_cases h2 : b < a
    · have hc : Aside0 (cmpI a b = 1) := ⟨by unfold cmpI; rw [if_neg h1, if_pos h2]⟩
      go_enter Try.func62, Try.ntmps62
      go_wp2
      go_ret
      exact ⟨by rw [hc.out]; rfl, rfl⟩
    · have hc : Aside0 (cmpI a b = 0) := ⟨by unfold cmpI; rw [if_neg h1, if_neg h2]⟩
      go_enter Try.func62, Try.ntmps62
      go_wp2
      go_ret
      exact ⟨by rw [hc.out]; rfl, rfl⟩
def orI (a b : Int) : Int := if a = 0 then b else a
theorem or_calls (a b : Int) (w : World) (g : Nat) (h0 : w.cell? ⟨g, 0, none⟩ = some (.int .i64 a)) (h1 : w.cell? ⟨g, 1, none⟩ = some (.int .i64 b)) :
    Calls Try.prog 61 #[.slice (some ⟨g, 0, none⟩) 2 2] w fun e w' => e = .returned (.int .i64 (orI a b)) ∧ w = w' := by
  have hor1 : a ≠ 0 → Aside0 (orI a b = a) := fun h => ⟨if_neg h⟩
  have hor2 : a = 0 → Aside0 (orI a b = b) := fun h => ⟨if_pos h⟩
  have H1 := Aside0.mk hor1
  have H2 := Aside0.mk hor2
  clear hor1 hor2
  go_enter Try.func61, Try.ntmps61
  go_wp2_with fail
  go_loop [8] (fun v8 => ∃ k : Nat, v8 = .int .i64 k ∧ k ≤ 2 ∧ Aside0 (1 ≤ k → a = 0) ∧ Aside0 (2 ≤ k → b = 0)) (fun v8 => 2 - (intOf v8).toNat)
  case atStart => exact ⟨0, rfl, by omega, ⟨fun h => by omega⟩, ⟨fun h => by omega⟩⟩
  case round =>
    obtain ⟨k, rfl, hk, HA, HB⟩ := hrel
    by_cases k0 : k = 0
    · subst k0
      by_cases ha : a = 0
      · have hq : (a != 0) = false := by rw [bne_eq_false_iff_eq]; exact ha
        have HA2 := Aside0.mk ha
        clear ha
        go_wp2_with fail
        go_round
        case rel => exact ⟨1, by go_num, by omega, ⟨fun _ => HA2.out⟩, ⟨fun h => by omega⟩⟩
        case measure => simp [intOf]
      · have hq : (a != 0) = true := by rw [bne_iff_ne]; exact ha
        have hr := H1.out ha
        clear ha
        go_wp2_with fail
        go_ret
        exact ⟨by rw [hr.out]; rfl, rfl⟩
    · by_cases k1 : k = 1
      · subst k1
        have ha : Aside0 (a = 0) := ⟨HA.out (by omega)⟩
        by_cases hb : b = 0
        · have hq : (b != 0) = false := by rw [bne_eq_false_iff_eq]; exact hb
          have HB2 := Aside0.mk hb
          clear hb
          go_wp2_with fail
          go_round
          case rel => exact ⟨2, by go_num, by omega, ⟨fun _ => ha.out⟩, ⟨fun h => HB2.out⟩⟩
          case measure => simp [intOf]
        · have hq : (b != 0) = true := by rw [bne_iff_ne]; exact hb
          have hr := H2.out ha.out
          clear hb
          go_wp2_with fail
          go_ret
          exact ⟨by rw [hr.out]; rfl, rfl⟩
      · obtain rfl : k = 2 := by omega
        have hr := H2.out (HA.out (by omega))
        have hb := HB.out (by omega)
        have hz : Aside0 (orI a b = 0) := ⟨hr.out.trans hb⟩
        clear hb
        go_wp2_with fail
        go_ret
        exact ⟨by rw [hz.out]; rfl, rfl⟩
def cmpE (x y : S47) : Int := orI (cmpI x.f0 y.f0) (cmpI x.f1 y.f1)
def enc47 (x : S47) : List Value := [.int .i64 x.f0, .int .i64 x.f1, .int .i64 x.f2, .int .i64 x.f3]
set_option maxHeartbeats 1000000 in
set_option maxRecDepth 100000 in
theorem cmpE0 (x0 x1 x2 x3 y0 y1 y2 y3 : Int) (w : World) : Calls Try.prog 60 #[.agg #[.int .i64 x0, .int .i64 x1, .int .i64 x2, .int .i64 x3], .agg #[.int .i64 y0, .int .i64 y1, .int .i64 y2, .int .i64 y3]] w fun e w' => e = .returned (.int .i64 (orI (cmpI x0 y0) (cmpI x1 y1))) ∧
    w' = (((w.alloc (.cells #[.int .i64 x0, .int .i64 x1, .int .i64 x2, .int .i64 x3] 47)).alloc (.cells #[.int .i64 y0, .int .i64 y1, .int .i64 y2, .int .i64 y3] 47)).alloc (.cells #[.int .i64 (cmpI x0 y0), .int .i64 (cmpI x1 y1)] 3)).drew := by
  go_enter Try.func60, Try.ntmps60
  go_wp2_with fail
  refine wp_region_still_tail 10 (by kernel_rfl) (by kernel_rfl) ?_
  simp only [List.take_succ_cons, List.take_zero, List.drop_succ_cons, List.drop_zero]
  change wpStill Try.prog _ (((w.alloc (.cells #[.int .i64 x0, .int .i64 x1, .int .i64 x2, .int .i64 x3] 47)).alloc (.cells #[.int .i64 y0, .int .i64 y1, .int .i64 y2, .int .i64 y3] 47)).drew) (fun a' => wpList Try.prog _ _ _ a' (((w.alloc (.cells #[.int .i64 x0, .int .i64 x1, .int .i64 x2, .int .i64 x3] 47)).alloc (.cells #[.int .i64 y0, .int .i64 y1, .int .i64 y2, .int .i64 y3] 47)).drew)) _ _
  have c0 : (((w.alloc (.cells #[.int .i64 x0, .int .i64 x1, .int .i64 x2, .int .i64 x3] 47)).alloc (.cells #[.int .i64 y0, .int .i64 y1, .int .i64 y2, .int .i64 y3] 47)).drew).cell? ⟨w.heap.size, 0, none⟩ = some (.int .i64 x0) := by go_simp
  have c1 : (((w.alloc (.cells #[.int .i64 x0, .int .i64 x1, .int .i64 x2, .int .i64 x3] 47)).alloc (.cells #[.int .i64 y0, .int .i64 y1, .int .i64 y2, .int .i64 y3] 47)).drew).cell? ⟨w.heap.size, 1, none⟩ = some (.int .i64 x1) := by go_simp
  have c2 : (((w.alloc (.cells #[.int .i64 x0, .int .i64 x1, .int .i64 x2, .int .i64 x3] 47)).alloc (.cells #[.int .i64 y0, .int .i64 y1, .int .i64 y2, .int .i64 y3] 47)).drew).cell? ⟨w.heap.size + 1, 0, none⟩ = some (.int .i64 y0) := by go_simp
  have c3 : (((w.alloc (.cells #[.int .i64 x0, .int .i64 x1, .int .i64 x2, .int .i64 x3] 47)).alloc (.cells #[.int .i64 y0, .int .i64 y1, .int .i64 y2, .int .i64 y3] 47)).drew).cell? ⟨w.heap.size + 1, 1, none⟩ = some (.int .i64 y1) := by go_simp
  have hfin : Aside0 ((((w.alloc (.cells #[.int .i64 x0, .int .i64 x1, .int .i64 x2, .int .i64 x3] 47)).alloc (.cells #[.int .i64 y0, .int .i64 y1, .int .i64 y2, .int .i64 y3] 47)).drew).alloc (.cells #[.int .i64 (cmpI x0 y0), .int .i64 (cmpI x1 y1)] 3) = (((w.alloc (.cells #[.int .i64 x0, .int .i64 x1, .int .i64 x2, .int .i64 x3] 47)).alloc (.cells #[.int .i64 y0, .int .i64 y1, .int .i64 y2, .int .i64 y3] 47)).alloc (.cells #[.int .i64 (cmpI x0 y0), .int .i64 (cmpI x1 y1)] 3)).drew) := ⟨rfl⟩
  generalize (((w.alloc (.cells #[.int .i64 x0, .int .i64 x1, .int .i64 x2, .int .i64 x3] 47)).alloc (.cells #[.int .i64 y0, .int .i64 y1, .int .i64 y2, .int .i64 y3] 47)).drew) = W2 at *
  repeat (first | still_step | still_call ((compare_calls _ _ _).mono fun _ _ h => ⟨h.1, h.2.symm⟩))
  refine wpStill_nil ?_
  have hor := or_calls (cmpI x0 y0) (cmpI x1 y1) (W2.alloc (.cells #[.int .i64 (cmpI x0 y0), .int .i64 (cmpI x1 y1)] 3)) W2.heap.size (by go_simp) (by go_simp)
  have HO := Aside0.mk hor
  clear hor c0 c1 c2 c3
  go_wp2_with fail
  refine HO.out.mono ?_
  rintro e w' ⟨rfl, rfl⟩
  go_wp2_with fail
  go_ret
  exact ⟨rfl, hfin.out⟩
theorem cmpE_calls (x y : S47) (w : World) : Calls Try.prog 60 #[.agg (enc47 x).toArray, .agg (enc47 y).toArray] w fun e w' => e = .returned (.int .i64 (cmpE x y)) ∧
    w' = (((w.alloc (.cells (enc47 x).toArray 47)).alloc (.cells (enc47 y).toArray 47)).alloc (.cells #[.int .i64 (cmpI x.f0 y.f0), .int .i64 (cmpI x.f1 y.f1)] 3)).drew := cmpE0 _ _ _ _ _ _ _ _ w
end Go.Proofs.Ytnjdjfengoaleaa.MSub
namespace Go.Proofs
open Go.Shelf
def Try.sortL_ren : Go.Shelf.Ren := ⟨fun | 6 => 59 | 15 => 77 | 14 => 76 | 28 => 93 | 29 => 94 | 20 => 85 | 21 => 86 | 22 => 87 | 23 => 88 | 24 => 89 | 25 => 90 | 26 => 91 | 27 => 92 | 46 => 95 | 47 => 96 | 48 => 97 | 49 => 98 | 50 => 99 | 57 => 100 | n => n, fun | 22 => 33 | 24 => 47 | 25 => 120 | 3 => 3 | 39 => 130 | 0 => 0 | 53 => 143 | 55 => 145 | 4 => 4 | 46 => 137 | 45 => 136 | 50 => 94 | 5 => 5 | 9 => 9 | 66 => 147 | 70 => 151 | 76 => 153 | 77 => 154 | n => n, fun | n => n⟩
theorem Try.sortL : Go.Proofs.SlLaysF0.n6 Try.prog Try.sortL_ren := {
  mixed := by kernel_rfl
  f6 := ⟨Try.f59.name, by decide, Try.func59.trans (congrArg some (by kernel_rfl))⟩
  f14 := ⟨Try.f76.name, by decide, Try.func76.trans (congrArg some (by kernel_rfl))⟩
  f15 := Try.func77.trans (congrArg some (by kernel_rfl))
  f20 := ⟨Try.f85.name, by decide, Try.func85.trans (congrArg some (by kernel_rfl))⟩
  f21 := ⟨Try.f86.name, by decide, Try.func86.trans (congrArg some (by kernel_rfl))⟩
  f22 := ⟨Try.f87.name, by decide, Try.func87.trans (congrArg some (by kernel_rfl))⟩
  f23 := ⟨Try.f88.name, by decide, Try.func88.trans (congrArg some (by kernel_rfl))⟩
  f24 := ⟨Try.f89.name, by decide, Try.func89.trans (congrArg some (by kernel_rfl))⟩
  f25 := ⟨Try.f90.name, by decide, Try.func90.trans (congrArg some (by kernel_rfl))⟩
  f26 := ⟨Try.f91.name, by decide, Try.func91.trans (congrArg some (by kernel_rfl))⟩
  f27 := ⟨Try.f92.name, by decide, Try.func92.trans (congrArg some (by kernel_rfl))⟩
  f28 := Try.func93.trans (congrArg some (by kernel_rfl))
  f29 := Try.func94.trans (congrArg some (by kernel_rfl))
  f46 := ⟨Try.f95.name, by decide, Try.func95.trans (congrArg some (by kernel_rfl))⟩
  f47 := Try.func96.trans (congrArg some (by kernel_rfl))
  f48 := Try.func97.trans (congrArg some (by kernel_rfl))
  f49 := ⟨Try.f98.name, by decide, Try.func98.trans (congrArg some (by kernel_rfl))⟩
  f50 := ⟨Try.f99.name, by decide, Try.func99.trans (congrArg some (by kernel_rfl))⟩
  f57 := ⟨Try.f100.name, by decide, Try.func100.trans (congrArg some (by kernel_rfl))⟩
  t0 := Try.underlying0
  a0 := Try.isAgg0
  z0 := Try.sizeOf0
  v0 := Try.zeroValue0
  t3 := Try.underlying3
  a3 := Try.isAgg3
  z3 := Try.sizeOf3
  v3 := Try.zeroValue3
  t4 := Try.underlying4
  a4 := Try.isAgg4
  z4 := Try.sizeOf4
  v4 := Try.zeroValue4
  t5 := Try.underlying5
  a5 := Try.isAgg5
  z5 := Try.sizeOf5
  v5 := Try.zeroValue5
  t9 := Try.underlying9
  a9 := Try.isAgg9
  z9 := Try.sizeOf9
  v9 := Try.zeroValue9
  t22 := Try.underlying33
  a22 := Try.isAgg33
  z22 := Try.sizeOf33
  v22 := Try.zeroValue33
  t25 := Try.underlying120
  a25 := Try.isAgg120
  z25 := Try.sizeOf120
  v25 := Try.zeroValue120
  t39 := Try.underlying130
  a39 := Try.isAgg130
  z39 := Try.sizeOf130
  v39 := Try.zeroValue130
  t45 := Try.underlying136
  a45 := Try.isAgg136
  z45 := Try.sizeOf136
  v45 := Try.zeroValue136
  t46 := Try.underlying137
  a46 := Try.isAgg137
  z46 := Try.sizeOf137
  v46 := Try.zeroValue137
  t50 := Try.underlying94
  a50 := Try.isAgg94
  z50 := Try.sizeOf94
  v50 := Try.zeroValue94
  t53 := Try.underlying143
  a53 := Try.isAgg143
  z53 := Try.sizeOf143
  v53 := Try.zeroValue143
  t55 := Try.underlying145
  a55 := Try.isAgg145
  z55 := Try.sizeOf145
  v55 := Try.zeroValue145
  t66 := Try.underlying147
  a66 := Try.isAgg147
  z66 := Try.sizeOf147
  v66 := Try.zeroValue147
  t70 := Try.underlying151
  a70 := Try.isAgg151
  z70 := Try.sizeOf151
  v70 := Try.zeroValue151
  t76 := Try.underlying153
  a76 := Try.isAgg153
  z76 := Try.sizeOf153
  v76 := Try.zeroValue153
  t77 := Try.underlying154
  a77 := Try.isAgg154
  z77 := Try.sizeOf154
  v77 := Try.zeroValue154 }
end Go.Proofs
namespace Go.Proofs.Ytnjdjfengoaleaa.MSub
open Go.RowKit Go.Proofs.YtnjdjfengoaleaaW.PrintWords Go.Proofs.YtnjdjfengoaleaaW.PrintLast Go.Proofs.YtnjdjfengoaleaaW.PrintMore
open Go.Sort Go.Proofs
set_option linter.unusedVariables false
set_option linter.unusedSimpArgs false
instance : Inhabited S47 := ⟨z47⟩
theorem flat_get (d : Array S47) (t : Nat) (h : t < d.size * 4) : (flatK enc47 4 d)[t]? = some ((enc47 d[t / 4]!)[t % 4]!) := by
  rw [Array.getElem?_eq_getElem (by rw [size_flatK]; exact h)]
  have := get_flatK enc47 4 d t h
  rw [getElem!_pos _ t (by rw [size_flatK]; exact h)] at this
  rw [this]
theorem reps_get {o : List S47} {inner : List Value} (h : Reps (fun x c => c = enc47 x) 4 o inner) (t : Nat) (ht : t < o.length * 4) : inner[t]? = some ((enc47 o.toArray[t / 4]!)[t % 4]!) := by
  have hj : t / 4 < o.length := by omega
  have h2 := h.2 (t / 4) o[t / 4] (List.getElem?_eq_getElem hj)
  have hlen := h.1
  have e1 : inner[t]? = ((inner.drop (t / 4 * 4)).take 4)[t % 4]? := by
    rw [List.getElem?_take_of_lt (Nat.mod_lt _ (by omega)), List.getElem?_drop]
    congr 1
    omega
  rw [e1, h2]
  have hg : o.toArray[t / 4]! = o[t / 4] := by simp [hj]
  rw [hg]
  have hm : t % 4 < (enc47 o[t / 4]).length := by simp [enc47]; omega
  rw [List.getElem?_eq_getElem hm, getElem!_pos (enc47 o[t / 4]) (t % 4) hm]
theorem reps47 {w : World} {base : Nat} {ok : Nat → Prop} {o : List S47} {inner : List Value} (h : Reps (k47.M w base ok) 4 o inner) : Reps (fun x c => c = enc47 x) 4 o inner :=
  ⟨h.1, fun j p hp => k47_openM (h.2 j p hp)⟩
theorem holds47 {w : World} {base g cap n : Nat} {o : List S47} (h : Kd.R k47 47 w base (fun _ => True) (.slice (some ⟨g, 0, none⟩) n cap) o) : HoldsK enc47 4 w g 0 o.toArray := by
  obtain ⟨_, inner, hown, hr⟩ := h
  replace hr := reps47 hr
  rcases hown.2 with ⟨h0, _⟩ | ⟨g', cap', cur, hv, _, hb, _, _, _, ht⟩
  · cases h0
  cases hv
  intro t hj
  have ht2 : t < o.length * 4 := by simpa using hj
  have hnl : o.length * k47.sz = o.length * 4 := rfl
  refine ⟨?_, by simp [World.frozen?, hb]⟩
  have h1 : (cur.toList.take (o.length * 4))[t]? = inner[t]? := by rw [← ht]; rfl
  rw [List.getElem?_take_of_lt ht2, reps_get hr t ht2] at h1
  simp only [World.cell?, hb, Nat.zero_add]
  simp only [Option.isSome_none, Bool.false_eq_true, if_false]
  rw [← Array.getElem?_toList, h1]
  have h3 := flat_get o.toArray t (by simpa using ht2)
  rw [getElem!_pos _ t hj]
  rw [Array.getElem?_eq_getElem hj] at h3
  rw [Option.some.inj h3]
  rfl
theorem heap_sorted47 {w : World} {g n : Nat} {os : Array Obj} {cur : Array Value} {e : TypeId} {fr : Nat × Nat} (d : Array S47) (hb : w.heap[g]? = some (.cells cur e fr)) :
    (sortWorldK enc47 4 w g 0 n d os).heap[g]? = some (.cells (putCells id 0 (flatK enc47 4 d) cur) e fr) := by
  have hg : g < w.heap.size := (Array.getElem?_eq_some_iff.1 hb).1
  unfold sortWorldK putRowK
  rw [heap_grow_old _ _ (by simpa using hg)]
  simp [putRow, mapBlock, Sort.ahead, Array.getElem?_modify, hb, onCells]
theorem grownBy_sorted47 {w : World} {g n : Nat} {os : Array Obj} (d : Array S47) : w.grownBy (sortWorldK enc47 4 w g 0 n d os) (some g) := by
  refine ⟨rfl, rfl, rfl, by unfold sortWorldK putRowK; simp, fun k hk hne => ?_⟩
  unfold sortWorldK putRowK
  rw [heap_grow_old _ _ (by simpa using hk)]
  have : g ≠ k := fun e => hne (by rw [e])
  simp [putRow, mapBlock, Sort.ahead, Array.getElem?_modify, this]
theorem sorted47 {w : World} {base g cap n m : Nat} {os : Array Obj} {o : List S47} {d : Array S47} (h : Kd.R k47 47 w base (fun _ => True) (.slice (some ⟨g, 0, none⟩) n cap) o) (hd : d.size = o.length) :
    Kd.R k47 47 (sortWorldK enc47 4 w g 0 m d os) base (fun _ => True) (.slice (some ⟨g, 0, none⟩) n cap) d.toList := by
  obtain ⟨_, inner, hown, hr⟩ := h
  rcases hown.2 with ⟨h0, _⟩ | ⟨g', cap', cur, hv, hbase, hb, h1, h2, h3, ht⟩
  · cases h0
  cases hv
  have hcs : cur.size = cap * 4 := h3
  have hle : o.length * 4 ≤ cur.size := by rw [hcs]; exact Nat.mul_le_mul_right 4 h1
  have hll : d.toList.length = o.length := by simpa using hd
  refine ⟨fun _ _ => trivial, (flatK enc47 4 d).toList, ⟨?_, .inr ⟨g, cap, _, by rw [hll], hbase, heap_sorted47 d hb, by rw [hll]; exact h1, h2, by simp [putCells, hcs]; rfl, ?_⟩⟩, ?_, ?_⟩
  · simp [flatK]; rfl
  · apply List.ext_getElem?
    intro t
    have hsz : d.toList.length * k47.sz = d.size * 4 := by simp; rfl
    rw [hsz]
    by_cases hj : t < d.size * 4
    · have hc : t < cur.size := by omega
      rw [List.getElem?_take_of_lt hj, Array.getElem?_toList, Array.getElem?_toList, flat_get d t hj]
      have hfl := flat_get d t hj
      have hgt : t < (flatK enc47 4 d).size := by rw [size_flatK]; exact hj
      rw [Array.getElem?_eq_getElem hgt] at hfl
      simp only [putCells]
      rw [Array.getElem?_mapIdx, Array.getElem?_eq_getElem hc]
      simp only [Option.map_some, Nat.zero_le, true_and, Nat.zero_add, Nat.sub_zero, hgt, if_true]
      rw [getElem!_pos _ t hgt, Option.some.inj hfl]
      rfl
    · rw [List.getElem?_take_eq_none (by omega), List.getElem?_eq_none (by simp; omega)]
  · simp [flatK]; rfl
  · intro j p hp
    have hj : j < d.size := by
      have := (List.getElem?_eq_some_iff.1 hp).1
      simpa using this
    have hpd : d[j]! = p := by
      rw [getElem!_pos _ j hj]
      have := (List.getElem?_eq_some_iff.1 hp).2
      simpa using this
    have e : ((flatK enc47 4 d).toList.drop (j * k47.sz)).take k47.sz = enc47 p := by
      have hk4 : k47.sz = 4 := rfl
      rw [hk4]
      apply List.ext_getElem?
      intro t
      by_cases ht : t < 4
      · rw [List.getElem?_take_of_lt ht, List.getElem?_drop, Array.getElem?_toList, flat_get d _ (by omega)]
        rw [show (j * 4 + t) / 4 = j from by omega, show (j * 4 + t) % 4 = t from by omega, hpd]
        have hm : t < (enc47 p).length := by simp [enc47]; omega
        rw [List.getElem?_eq_getElem hm, getElem!_pos (enc47 p) t hm]
      · rw [List.getElem?_take_eq_none (by omega), List.getElem?_eq_none (by simp [enc47]; omega)]
    rw [e]
    exact k47_mkM _ _ _ p
def ltE (x y : S47) : Prop := x.f0 < y.f0 ∨ (x.f0 = y.f0 ∧ x.f1 < y.f1)
instance (x y : S47) : Decidable (ltE x y) := inferInstanceAs (Decidable (_ ∨ _))
theorem ltOf_E (x y : S47) : ltOf cmpE x y = decide (ltE x y) := by
  unfold ltOf
  rw [Bool.eq_iff_iff, decide_eq_true_iff, decide_eq_true_iff]
  unfold cmpE orI cmpI ltE
  by_cases h1 : x.f0 < y.f0
  · simp [h1]
  · by_cases h2 : y.f0 < x.f0
    · simp [h1, h2]
      omega
    · have h3 : x.f0 = y.f0 := by omega
      simp [h3]
      by_cases h4 : x.f1 < y.f1
      · simp [h4]
      · by_cases h5 : y.f1 < x.f1 <;> simp [h4, h5]
theorem swoE : SWO (ltOf cmpE) where
  irrefl x := by rw [ltOf_E, decide_eq_false_iff_not]; unfold ltE; omega
  trans x y z h1 h2 := by rw [ltOf_E, decide_eq_true_iff] at *; unfold ltE at *; omega
  ntrans x y z h1 h2 := by rw [ltOf_E, decide_eq_false_iff_not] at *; unfold ltE at *; omega
theorem grow3 (S : World) (a b c : Obj) : (((S.alloc a).alloc b).alloc c).drew = grow (S.drewN 1) #[a, b, c] := by
  have h : ((S.heap.push a).push b).push c = S.heap ++ #[a, b, c] := by
    apply Array.ext'
    simp
  unfold grow
  show ({ S with heap := ((S.heap.push a).push b).push c, drawn := S.drawn + 1 } : World) = { S with heap := S.heap ++ #[a, b, c], drawn := S.drawn + 1 }
  rw [h]
theorem cmpLaysE (blk off size : Nat) (w : World) : CmpLays Try.prog 60 #[] enc47 4 cmpE blk off size w := fun m os dk _ x y =>
  (cmpE_calls x y _).mono fun e w' ⟨he, hw⟩ => ⟨he, 1, #[.cells (enc47 x).toArray 47, .cells (enc47 y).toArray 47, .cells #[.int .i64 (cmpI x.f0 y.f0), .int .i64 (cmpI x.f1 y.f1)] 3], by
    rw [hw]
    exact grow3 _ _ _ _⟩
theorem sort_calls (w : World) (base g cap : Nat) (o : List S47) (h : Kd.R k47 47 w base (fun _ => True) (.slice (some ⟨g, 0, none⟩) o.length cap) o) (hl : o.length ≤ 1099511627776) :
    Calls Try.prog 59 #[.slice (some ⟨g, 0, none⟩) o.length cap, .func (.func 60) #[] #[]] w fun e w' => e = .returned (.tuple #[]) ∧ ∃ es : List S47, es.Perm o ∧ es.Pairwise (fun x y => ¬ ltE y x) ∧
      Kd.R k47 47 w' base (fun _ => True) (.slice (some ⟨g, 0, none⟩) o.length cap) es ∧ w.grownBy w' (some g) := by
  have hblk : g < w.heap.size := Kd.R_lt h g rfl
  have eg : ∀ args w, (callFunc 60 args).run Try.prog w = .ok (.enter 60 args) w := enters_of Try.func60 (by kernel_rfl) rfl
  have hS := AnyQ.slices_SortFunc Try.sortL 4 (fun w => by kernel_rfl) (fun w => by kernel_rfl) enc47 (fun _ => rfl) (fun x v hv => by simp [enc47] at hv; rcases hv with rfl | rfl | rfl | rfl <;> rfl) cmpE swoE 60 #[] g 0 cap o.toArray w eg (cmpLaysE g 0 _ w) (holds47 h) hblk (by simp; omega)
  change Calls Try.prog 59 _ _ _ at hS
  refine hS.mono ?_
  rintro e w' ⟨rfl, d', n, os, ⟨hp1, hp2, hp3⟩, hs, rfl⟩
  have hsz : d'.size = o.length := by simpa using hp1
  refine ⟨rfl, d'.toList, ?_, ?_, sorted47 h hsz, grownBy_sorted47 d'⟩
  · have e1 : d'.extract 0 o.toArray.size = d' := by rw [← hp1]; simp
    have e2 : o.toArray.extract 0 o.toArray.size = o.toArray := by simp
    rw [e1, e2] at hp3
    simpa using hp3
  · rw [List.pairwise_iff_getElem]
    intro i j hi hj hij
    have hi' : i < d'.size := by simpa using hi
    have hj' : j < d'.size := by simpa using hj
    have := hs i j (Nat.zero_le _) hij (by rw [← hp1]; exact hj')
    rw [ltOf_E, decide_eq_false_iff_not, getElem!_pos d' i hi', getElem!_pos d' j hj'] at this
    simpa using this
end Go.Proofs.Ytnjdjfengoaleaa.MSub
namespace Go.Proofs.Ytnjdjfengoaleaa.MSub
open Go.RowKit Go.Proofs.YtnjdjfengoaleaaW.PrintWords Go.Proofs.YtnjdjfengoaleaaW.PrintLast Go.Proofs.YtnjdjfengoaleaaW.PrintMore
set_option linter.unusedVariables false
set_option linter.unusedSimpArgs false
theorem max2_mx (k k' : IntKind) (x y : Int) : Builtin.max2 (.int k x) (.int k' y) = pure (.int k (mx x y)) := max2_int k k' x y
theorem min2_mn (k k' : IntKind) (x y : Int) : Builtin.min2 (.int k x) (.int k' y) = pure (.int k (mn x y)) := min2_int k k' x y
attribute [local go_sem] max2_mx min2_mn max_two min_two
theorem info47 : (Try.prog.info? 47).map (fun i => (i.zero, i.size, i.bytes)) = some (some (.agg #[.int .i64 0, .int .i64 0, .int .i64 0, .int .i64 0]), 4, 32) := by kernel_rfl
def edgeOf (L : List WF) (p : WF) : S47 := ⟨mn p.1.f0 p.1.f1, mx p.1.f0 p.1.f1, faceOf L (mn p.1.f0 p.1.f1) (mx p.1.f0 p.1.f1), faceOf L (mx p.1.f0 p.1.f1) (mn p.1.f0 p.1.f1)⟩
def tells (L : List WF) (p : WF) : Bool := decide (p.1.f0 < p.1.f1) || (look L ⟨p.1.f1, p.1.f0⟩).isNone
def edgeAt (L : List WF) (i : Nat) : Option S47 := match L[i]? with
  | some p => if tells L p then some (edgeOf L p) else none
  | none => none
def IsEdges (L : List WF) (es : List S47) : Prop := es.Perm ((List.range L.length).filterMap (edgeAt L)) ∧ es.Pairwise (fun x y => ¬ ltE y x)
def iterLeft (w : World) (r : Nat) : Nat := match w.heap[r]? with
  | some (.mapIter _ _ seen last) => last - seen.size
  | _ => 0
theorem len_lt_of_missing {seen : List Nat} {n : Nat} (hn : seen.Nodup) (hlt : ∀ i ∈ seen, i < n) (hex : ∃ i, i < n ∧ i ∉ seen) : seen.length < n := by
  obtain ⟨i, h1, h2⟩ := hex
  have h := Relv.len_le_of_nodup_subset (l := i :: seen) (S := List.range n) (List.nodup_cons.2 ⟨h2, hn⟩) (fun x hx => by
    rcases List.mem_cons.1 hx with rfl | hx
    · exact List.mem_range.2 h1
    · exact List.mem_range.2 (hlt x hx))
  rw [List.length_range] at h
  exact h
theorem cell_new (w : World) (cs : Array Value) (t j : Nat) : (w.alloc (.cells cs t)).cell? ⟨w.heap.size, j, none⟩ = cs[j]? := by
  unfold World.cell?
  rw [heap_alloc_new]
  rfl
theorem own_not {α : Type} {d : Kd α} {e base g : Nat} {w : World} {ok : Nat → Prop} {v : Value} {xs : List α} {o : Obj} (h : d.R e w base ok v xs) (hb : w.heap[g]? = some o) (hne : ∀ cells, o ≠ .cells cells e (0, 0)) : some g ≠ v.ownBlock := fun he => by
  obtain ⟨cells, hc⟩ := Kd.R_typed h g he.symm
  rw [hb] at hc
  exact hne cells (Option.some.inj hc)
theorem R_iter {α : Type} {d : Kd α} {e base r : Nat} {w w1 : World} {v : Value} {xs : List α} {mm : Option Nat} {n : Nat} {sn : Array Nat} {k : Nat} (h : d.R e w base (fun _ => True) v xs) (hr : w.heap[r]? = some (.mapIter mm n sn k))
    (hg : ∀ k, k ≠ r → w1.heap[k]? = w.heap[k]?) : d.R e w1 base (fun _ => True) v xs :=
  Kd.R_mono (Kd.R_move (Kd.R_bound h) (fun k hk => hg k (by
    rintro rfl
    obtain ⟨_, _, _, q, _, cells, hc⟩ := hk
    rw [hr] at hc
    cases hc))) (fun _ _ => trivial)
set_option maxHeartbeats 2000000 in
set_option maxRecDepth 100000 in
theorem edges_calls (w : World) (sb m : Nat) (L : List WF) (h1 : w.cell? ⟨sb, 1, none⟩ = some (.map (some m))) (hm : IsMap w m L) (hL : L.length ≤ 1099511627776) :
    Calls Try.prog 40 #[.pointer (some ⟨sb, 0, none⟩)] w fun e w' => ∃ v0 : Value, ∃ es : List S47, e = .returned v0 ∧ IsEdges L es ∧ Kd.R k47 47 w' w.heap.size (fun _ => True) v0 es ∧ Below w.heap.size w w' := by
  have hka := below_alloc (Below.refl _ w) (.cells #[.pointer (some ⟨sb, 0, none⟩)] 84)
  have h1a := CellsKept.of_below hka _ _ h1
  have hma := hm.below hka
  have hra := range_at hma
  have HMA := Aside0.mk hma
  have HM := Aside0.mk hm
  clear hma hm hka
  go_enter Try.func40, Try.ntmps40
  go_wp2_with fail
  go_loopw [3] (fun v3 wr => ∃ (seen : List Nat) (o : List S47), Aside0 (seen.Nodup ∧ (∀ i ∈ seen, i < L.length) ∧ o = seen.filterMap (edgeAt L)) ∧ Aside0 (IsIter wr (w.heap.size + 1) m L seen) ∧
      Aside0 (wr.heap[w.heap.size]? = some (.cells #[.pointer (some ⟨sb, 0, none⟩)] 84 (0, 0))) ∧ Aside0 (Kd.R k47 47 wr w.heap.size (fun _ => True) v3 o) ∧ Aside0 (Below w.heap.size w wr))
    (fun _ wr => iterLeft wr (w.heap.size + 1))
  case atStart =>
    refine ⟨[], [], ⟨by simp⟩, ⟨⟨?_⟩⟩, ⟨?_⟩, ⟨Kd.R_nil _ _ _ _ _⟩, ⟨below_alloc (below_alloc (Below.refl _ _) _) _⟩⟩
    · have hs : (w.alloc (.cells #[.pointer (some ⟨sb, 0, none⟩)] 84)).heap.size = w.heap.size + 1 := by simp
      rw [← hs]
      exact heap_alloc_new _ _
    · rw [Below.heap_alloc _ _ _ (by simp)]
      exact heap_alloc_new _ _
  case round =>
    obtain ⟨seen, o, HA, HI, HC, HO, HB⟩ := hrel
    obtain ⟨hnd, hlt, ho⟩ := HA.out
    have hmr := HM.out.below HB.out
    by_cases hex : ∃ i, i < L.length ∧ i ∉ seen
    · obtain ⟨i, p, w1, hi, hp, hrun, hos, htape, hout, hheap⟩ := next_some (P := Try.prog) 0 hmr HI.out hex
      have hblk : ∀ k, k ≠ w.heap.size + 1 → w1.heap[k]? = wr.heap[k]? := fun k hk => by rw [hheap, Array.getElem?_setIfInBounds_ne (fun e => hk e.symm)]
      have hi1 : IsIter w1 (w.heap.size + 1) m L (seen ++ [i]) := ⟨by rw [hheap, Array.getElem?_setIfInBounds_self_of_lt HI.out.lt]⟩
      have hsz : w1.heap.size = wr.heap.size := by rw [hheap]; simp
      have hb1 : Below w.heap.size w w1 := HB.out.trans ⟨hos, htape, hout, by omega, fun k hk => hblk k (by omega)⟩
      have hc1 : w1.heap[w.heap.size]? = some (.cells #[.pointer (some ⟨sb, 0, none⟩)] 84 (0, 0)) := (hblk _ (by omega)).trans HC.out
      have ho1 := R_iter HO.out HI.out.at_ hblk
      have hm1 := HM.out.below hb1
      have hent := entry_at (P := Try.prog) hm1 hi1 hp
      obtain ⟨W, hW⟩ : ∃ W : World, w1.alloc (.cells #[.int .i64 p.1.f0, .int .i64 p.1.f1] 115) = W := ⟨_, rfl⟩
      have hbW : Below w1.heap.size w1 W := by rw [← hW]; exact below_alloc (Below.refl _ _) _
      have hbw2 : Below w.heap.size w W := below_then hb1 (by have := hb1.size; omega) hbW
      have hmW := hm1.below hbW
      have hiW : IsIter W (w.heap.size + 1) m L (seen ++ [i]) := ⟨(hbW.block _ hi1.lt).trans hi1.at_⟩
      have hcW : W.heap[w.heap.size]? = some (.cells #[.pointer (some ⟨sb, 0, none⟩)] 84 (0, 0)) := (hbW.block _ (Array.getElem?_eq_some_iff.1 hc1).1).trans hc1
      have hoW := Kd.R_below ho1 hbW
      have hcb : W.cell? ⟨w.heap.size, 0, none⟩ = some (.pointer (some ⟨sb, 0, none⟩)) := by unfold World.cell?; rw [hcW]; rfl
      have h1W := CellsKept.of_below hbw2 _ _ h1
      have hWs : W.heap.size = w1.heap.size + 1 := by rw [← hW]; simp
      have hW0 : W.cell? ⟨w1.heap.size, 0, none⟩ = some (.int .i64 p.1.f0) := by rw [← hW]; exact cell_new _ _ _ _
      have hW1 : W.cell? ⟨w1.heap.size, 1, none⟩ = some (.int .i64 p.1.f1) := by rw [← hW]; exact cell_new _ _ _ _
      have hlN := fun n => lookN hmW p.1.f1 p.1.f0 _ rfl n
      have hW2 : ∀ n, Aside0 (Below w.heap.size w (W.drewN n)) := fun n => ⟨pw_below_drewN hbw2 n⟩
      have hnew : Aside0 ((seen ++ [i]).Nodup ∧ (∀ j ∈ seen ++ [i], j < L.length)) := ⟨by
        rw [List.nodup_append]
        exact ⟨hnd, by simp, fun a ha b hb => by simp at hb; subst hb; exact fun e => hi (e ▸ ha)⟩, fun j hj => by
          rcases List.mem_append.1 hj with hj | hj
          · exact hlt j hj
          · simp at hj; subst hj; exact (List.getElem?_eq_some_iff.1 hp).1⟩
      have hea : Aside0 ((seen ++ [i]).filterMap (edgeAt L) = o ++ (if tells L p then [edgeOf L p] else [])) := ⟨by
        rw [List.filterMap_append, ho]
        congr 1
        simp only [List.filterMap_cons, List.filterMap_nil, edgeAt, hp]
        cases tells L p <;> rfl⟩
      have htl : tells L p = (decide (p.1.f0 < p.1.f1) || (look L ⟨p.1.f1, p.1.f0⟩).isNone) := rfl
      have hml : Aside0 (iterLeft W (w.heap.size + 1) < iterLeft wr (w.heap.size + 1)) := ⟨by
        have hle : seen.length < L.length := by
          have h1 := len_lt_of_missing (seen := seen) (n := L.length) hnd hlt ⟨i, (List.getElem?_eq_some_iff.1 hp).1, hi⟩
          exact h1
        unfold iterLeft
        rw [hiW.at_, HI.out.at_]
        simp
        omega⟩
      have HIW := Aside0.mk hiW
      have HCW := Aside0.mk hcW
      have HOW := Aside0.mk hoW
      have HBW := Aside0.mk hbw2
      have HMW := Aside0.mk hmW
      have HTL := Aside0.mk htl
      have HOL : Aside0 (o.length ≤ 1099511627776) := ⟨by
        rw [ho]
        have h1 := List.length_filterMap_le (edgeAt L) seen
        have h2 := len_lt_of_missing (seen := seen) (n := L.length) hnd hlt ⟨i, (List.getElem?_eq_some_iff.1 hp).1, hi⟩
        omega⟩
      have HWS := Aside0.mk hWs
      have HNEW := hnew
      have hW' : ∀ o, o = Obj.cells #[.int .i64 p.1.f0, .int .i64 p.1.f1] 115 → w1.alloc o = W := fun o h => by rw [h]; exact hW
      have hWn := hW' _ rfl
      simp only [keyV] at hrun hent
      obtain ⟨f0, hf0⟩ : ∃ f0, p.1.f0 = f0 := ⟨_, rfl⟩
      obtain ⟨f1, hf1⟩ : ∃ f1, p.1.f1 = f1 := ⟨_, rfl⟩
      rw [hf0, hf1] at hrun hent hWn
      rw [hf0] at hW0
      rw [hf1] at hW1
      simp only [hf0, hf1] at hlN
      have HF0 := Aside0.mk hf0
      have HF1 := Aside0.mk hf1
      clear hmr hex hi hp hos htape hout hheap hblk hi1 hsz hb1 hc1 ho1 hm1 hbW hbw2 hmW hiW hcW hoW hWs hnd hlt ho h1a hra htl hW hW' hf0 hf1 hW2
      have hcase : (f0 < f1 ∧ Aside0 (tells L p = true)) ∨ (¬ f0 < f1 ∧ look L ⟨f1, f0⟩ = none ∧ Aside0 (tells L p = true)) ∨ (¬ f0 < f1 ∧ ∃ g, look L ⟨f1, f0⟩ = some g ∧ Aside0 (tells L p = false)) := by
        have h := HTL.out
        rw [HF0.out, HF1.out] at h
        by_cases hl : f0 < f1
        · exact .inl ⟨hl, ⟨by rw [h, decide_eq_true hl]; rfl⟩⟩
        · cases hk : look L ⟨f1, f0⟩ with
          | none => exact .inr (.inl ⟨hl, rfl, ⟨by rw [h, hk]; simp⟩⟩)
          | some g => exact .inr (.inr ⟨hl, g, rfl, ⟨by rw [h, hk, decide_eq_false hl]; rfl⟩⟩)
      go_wp2_with fail
      rcases hcase with ⟨hl, HT⟩ | ⟨hl, hk, HT⟩ | ⟨hl, g, hk, HT⟩
      · go_quiet (fail)
        go_wp2_with fail
        obtain ⟨X, hX⟩ : ∃ X : World, W.drewN nq = X := ⟨_, rfl⟩
        rw [hX]
        have hcbX : X.cell? ⟨w.heap.size, 0, none⟩ = some (.pointer (some ⟨sb, 0, none⟩)) := by rw [← hX]; exact hcb
        have h1X : X.cell? ⟨sb, 1, none⟩ = some (.map (some m)) := by rw [← hX]; exact h1W
        have hX0 : X.cell? ⟨w1.heap.size, 0, none⟩ = some (.int .i64 f0) := by rw [← hX]; exact hW0
        have hX1 : X.cell? ⟨w1.heap.size, 1, none⟩ = some (.int .i64 f1) := by rw [← hX]; exact hW1
        have hmX : IsMap X m L := by rw [← hX]; exact ⟨HMW.out.at_⟩
        have HX := Aside0.mk hX
        clear hX hcb h1W hW0 hW1 hWn hlN hrun hent
        go_quiet (fail)
        go_wp2_with fail
        have hfc := fun Y (hY : Below X.heap.size X Y) => face_calls Y w.heap.size sb m L (mn f0 f1) (mx f0 f1) (CellsKept.of_below hY _ _ hcbX) (CellsKept.of_below hY _ _ h1X) (hmX.below hY)
        have hfd := fun Y (hY : Below X.heap.size X Y) => face_calls Y w.heap.size sb m L (mx f0 f1) (mn f0 f1) (CellsKept.of_below hY _ _ hcbX) (CellsKept.of_below hY _ _ h1X) (hmX.below hY)
        have hXs : X.heap.size = w1.heap.size + 1 := by rw [← HX.out]; exact HWS.out
        refine (hfc _ (pw_below_drewN (Below.refl _ X) nq)).mono ?_
        rintro e w2 ⟨rfl, hb2⟩
        have hb2' : Below X.heap.size X w2 := below_then (pw_below_drewN (Below.refl _ X) nq) (Nat.le_refl _) hb2
        have HB2 := Aside0.mk hb2'
        clear hb2 hb2'
        go_wp2_with fail
        refine (hfd _ HB2.out).mono ?_
        rintro e w3 ⟨rfl, hb3⟩
        have hb3' : Below X.heap.size X w3 := below_then HB2.out HB2.out.size hb3
        have hbw3 : Below w.heap.size w w3 := below_then (by rw [← HX.out]; exact pw_below_drewN HBW.out _) (by have := HBW.out.size; rw [hXs]; have := HWS.out; omega) hb3'
        have hR3 : Kd.R k47 47 w3 w.heap.size (fun _ => True) u3 o := Kd.R_below (by rw [← HX.out]; exact Kd.R_drewN HOW.out _) hb3'
        have HB3 := Aside0.mk hb3'
        have HBW3 := Aside0.mk hbw3
        have HR3 := Aside0.mk hR3
        clear hb3 hb3' hbw3 hR3 hfc hfd hmX
        have hsz3 := HBW3.out.size
        have hed : Aside0 ((⟨mn f0 f1, mx f0 f1, faceOf L (mn f0 f1) (mx f0 f1), faceOf L (mx f0 f1) (mn f0 f1)⟩ : S47) = edgeOf L p) := ⟨by unfold edgeOf; rw [HF0.out, HF1.out]⟩
        generalize faceOf L (mn f0 f1) (mx f0 f1) = ff at *
        generalize faceOf L (mx f0 f1) (mn f0 f1) = fg at *
        go_wp2_with (first | (at_builtin; refine Kd.R_append k47 (w0 := w) w.heap.size rfl (.tmp 52) (.tmp 66) 33 47 (.agg #[.int .i64 0, .int .i64 0, .int .i64 0, .int .i64 0]) 32 rfl Try.underlying33 info47 rfl (by decide) (by omega) _ o ⟨mn f0 f1, mx f0 f1, ff, fg⟩ [.int .i64 (mn f0 f1), .int .i64 (mx f0 f1), .int .i64 ff, .int .i64 fg] (fun _ => True) (fun _ => False) rfl rfl ?aP (fun _ hk => hk.elim) ?aF ?aO ?aB ?aS ?aL ?_))
        case aP => exact k47_mkM _ _ _ _
        case aF => exact fun _ _ => trivial
        case aO => exact HR3.out
        case aB => exact HBW3.out
        case aS => exact hsz3
        case aL => have := HOL.out; omega
        intro v1 w4 hr4 hb4 hg4 hat4
        have hi3 : w3.heap[w.heap.size + 1]? = some (.mapIter (some m) L.length (seen ++ [i]).toArray L.length) := (HB3.out.block _ (by rw [← HX.out]; exact HIW.out.lt)).trans (by rw [← HX.out]; exact HIW.out.at_)
        have hc3 : w3.heap[w.heap.size]? = some (.cells #[.pointer (some ⟨sb, 0, none⟩)] 84 (0, 0)) := (HB3.out.block _ (by rw [← HX.out]; exact (Array.getElem?_eq_some_iff.1 HCW.out).1)).trans (by rw [← HX.out]; exact HCW.out)
        have hi4 := (hg4.block _ (Array.getElem?_eq_some_iff.1 hi3).1 (own_not HR3.out hi3 (fun _ h => by cases h))).trans hi3
        have hc4 := (hg4.block _ (Array.getElem?_eq_some_iff.1 hc3).1 (own_not HR3.out hc3 (fun _ h => by injection h with _ h; cases h))).trans hc3
        have hml4 : Aside0 (iterLeft w4 (w.heap.size + 1) < iterLeft wr (w.heap.size + 1)) := ⟨by
          have h := hml.out
          unfold iterLeft at h ⊢
          rw [hi4]
          rw [HIW.out.at_] at h
          exact h⟩
        have HI4 : Aside0 (IsIter w4 (w.heap.size + 1) m L (seen ++ [i])) := ⟨⟨hi4⟩⟩
        have HC4 := Aside0.mk hc4
        have hre : Kd.R k47 47 w4 w.heap.size (fun _ => True) v1 (o ++ [edgeOf L p]) := by rw [← hed.out]; exact hr4
        have HR4 := Aside0.mk hre
        have HB4 := Aside0.mk hb4
        clear hr4 hb4 hg4 hat4 hi3 hc3 hi4 hc4 hre
        go_wp2_with fail
        go_roundw
        case rel => exact ⟨seen ++ [i], o ++ [edgeOf L p], ⟨hnew.out.1, hnew.out.2, by rw [hea.out, HT.out]; rfl⟩, HI4, HC4, HR4, HB4⟩
        case measure => exact hml4.out
      · have hlN2 := fun n => hk ▸ hlN n
        clear hlN hk
        go_quiet (fail)
        go_wp2_with fail
        obtain ⟨X, hX⟩ : ∃ X : World, W.drewN nq = X := ⟨_, rfl⟩
        rw [hX]
        have hcbX : X.cell? ⟨w.heap.size, 0, none⟩ = some (.pointer (some ⟨sb, 0, none⟩)) := by rw [← hX]; exact hcb
        have h1X : X.cell? ⟨sb, 1, none⟩ = some (.map (some m)) := by rw [← hX]; exact h1W
        have hX0 : X.cell? ⟨w1.heap.size, 0, none⟩ = some (.int .i64 f0) := by rw [← hX]; exact hW0
        have hX1 : X.cell? ⟨w1.heap.size, 1, none⟩ = some (.int .i64 f1) := by rw [← hX]; exact hW1
        have hmX : IsMap X m L := by rw [← hX]; exact ⟨HMW.out.at_⟩
        have HX := Aside0.mk hX
        clear hX hcb h1W hW0 hW1 hWn hlN2 hrun hent
        go_quiet (fail)
        go_wp2_with fail
        have hfc := fun Y (hY : Below X.heap.size X Y) => face_calls Y w.heap.size sb m L (mn f0 f1) (mx f0 f1) (CellsKept.of_below hY _ _ hcbX) (CellsKept.of_below hY _ _ h1X) (hmX.below hY)
        have hfd := fun Y (hY : Below X.heap.size X Y) => face_calls Y w.heap.size sb m L (mx f0 f1) (mn f0 f1) (CellsKept.of_below hY _ _ hcbX) (CellsKept.of_below hY _ _ h1X) (hmX.below hY)
        have hXs : X.heap.size = w1.heap.size + 1 := by rw [← HX.out]; exact HWS.out
        refine (hfc _ (pw_below_drewN (Below.refl _ X) nq)).mono ?_
        rintro e w2 ⟨rfl, hb2⟩
        have hb2' : Below X.heap.size X w2 := below_then (pw_below_drewN (Below.refl _ X) nq) (Nat.le_refl _) hb2
        have HB2 := Aside0.mk hb2'
        clear hb2 hb2'
        go_wp2_with fail
        refine (hfd _ HB2.out).mono ?_
        rintro e w3 ⟨rfl, hb3⟩
        have hb3' : Below X.heap.size X w3 := below_then HB2.out HB2.out.size hb3
        have hbw3 : Below w.heap.size w w3 := below_then (by rw [← HX.out]; exact pw_below_drewN HBW.out _) (by have := HBW.out.size; rw [hXs]; have := HWS.out; omega) hb3'
        have hR3 : Kd.R k47 47 w3 w.heap.size (fun _ => True) u3 o := Kd.R_below (by rw [← HX.out]; exact Kd.R_drewN HOW.out _) hb3'
        have HB3 := Aside0.mk hb3'
        have HBW3 := Aside0.mk hbw3
        have HR3 := Aside0.mk hR3
        clear hb3 hb3' hbw3 hR3 hfc hfd hmX
        have hsz3 := HBW3.out.size
        have hed : Aside0 ((⟨mn f0 f1, mx f0 f1, faceOf L (mn f0 f1) (mx f0 f1), faceOf L (mx f0 f1) (mn f0 f1)⟩ : S47) = edgeOf L p) := ⟨by unfold edgeOf; rw [HF0.out, HF1.out]⟩
        generalize faceOf L (mn f0 f1) (mx f0 f1) = ff at *
        generalize faceOf L (mx f0 f1) (mn f0 f1) = fg at *
        go_wp2_with (first | (at_builtin; refine Kd.R_append k47 (w0 := w) w.heap.size rfl (.tmp 52) (.tmp 66) 33 47 (.agg #[.int .i64 0, .int .i64 0, .int .i64 0, .int .i64 0]) 32 rfl Try.underlying33 info47 rfl (by decide) (by omega) _ o ⟨mn f0 f1, mx f0 f1, ff, fg⟩ [.int .i64 (mn f0 f1), .int .i64 (mx f0 f1), .int .i64 ff, .int .i64 fg] (fun _ => True) (fun _ => False) rfl rfl ?aP (fun _ hk => hk.elim) ?aF ?aO ?aB ?aS ?aL ?_))
        case aP => exact k47_mkM _ _ _ _
        case aF => exact fun _ _ => trivial
        case aO => exact HR3.out
        case aB => exact HBW3.out
        case aS => exact hsz3
        case aL => have := HOL.out; omega
        intro v1 w4 hr4 hb4 hg4 hat4
        have hi3 : w3.heap[w.heap.size + 1]? = some (.mapIter (some m) L.length (seen ++ [i]).toArray L.length) := (HB3.out.block _ (by rw [← HX.out]; exact HIW.out.lt)).trans (by rw [← HX.out]; exact HIW.out.at_)
        have hc3 : w3.heap[w.heap.size]? = some (.cells #[.pointer (some ⟨sb, 0, none⟩)] 84 (0, 0)) := (HB3.out.block _ (by rw [← HX.out]; exact (Array.getElem?_eq_some_iff.1 HCW.out).1)).trans (by rw [← HX.out]; exact HCW.out)
        have hi4 := (hg4.block _ (Array.getElem?_eq_some_iff.1 hi3).1 (own_not HR3.out hi3 (fun _ h => by cases h))).trans hi3
        have hc4 := (hg4.block _ (Array.getElem?_eq_some_iff.1 hc3).1 (own_not HR3.out hc3 (fun _ h => by injection h with _ h; cases h))).trans hc3
        have hml4 : Aside0 (iterLeft w4 (w.heap.size + 1) < iterLeft wr (w.heap.size + 1)) := ⟨by
          have h := hml.out
          unfold iterLeft at h ⊢
          rw [hi4]
          rw [HIW.out.at_] at h
          exact h⟩
        have HI4 : Aside0 (IsIter w4 (w.heap.size + 1) m L (seen ++ [i])) := ⟨⟨hi4⟩⟩
        have HC4 := Aside0.mk hc4
        have hre : Kd.R k47 47 w4 w.heap.size (fun _ => True) v1 (o ++ [edgeOf L p]) := by rw [← hed.out]; exact hr4
        have HR4 := Aside0.mk hre
        have HB4 := Aside0.mk hb4
        clear hr4 hb4 hg4 hat4 hi3 hc3 hi4 hc4 hre
        go_wp2_with fail
        go_roundw
        case rel => exact ⟨seen ++ [i], o ++ [edgeOf L p], ⟨hnew.out.1, hnew.out.2, by rw [hea.out, HT.out]; rfl⟩, HI4, HC4, HR4, HB4⟩
        case measure => exact hml4.out
      · have hlN2 := fun n => hk ▸ hlN n
        clear hlN hk
        go_quiet (fail)
        go_wp2_with fail
        go_roundw
        case rel => exact ⟨seen ++ [i], o, ⟨hnew.out.1, hnew.out.2, by rw [hea.out, HT.out]; simp⟩, ⟨⟨HIW.out.at_⟩⟩, ⟨HCW.out⟩, ⟨Kd.R_drewN HOW.out _⟩, ⟨pw_below_drewN HBW.out _⟩⟩
        case measure => exact hml.out
    · have hall : ∀ i, i < L.length → i ∈ seen := fun i hi => by
        by_cases h : i ∈ seen
        · exact h
        · exact absurd ⟨i, hi, h⟩ hex
      have hrun := next_over (P := Try.prog) 0 hmr HI.out hall
      have HALL := Aside0.mk hall
      have hsp : seen.Perm (List.range L.length) := Relv.perm_of_nodup_subset hnd (fun x hx => List.mem_range.2 (hlt x hx)) (by
        have := Relv.len_le_of_nodup_subset (l := List.range L.length) (S := seen) List.nodup_range (fun x hx => hall x (List.mem_range.1 hx))
        exact this)
      have hop : Aside0 (o.Perm ((List.range L.length).filterMap (edgeAt L))) := ⟨by rw [ho]; exact hsp.filterMap _⟩
      have hol : o.length ≤ 1099511627776 := by
        have h1 := hop.out.length_eq
        have h2 := List.length_filterMap_le (edgeAt L) (List.range L.length)
        rw [List.length_range] at h2
        omega
      obtain ⟨A3, c3, rfl⟩ := Kd.R_slice HO.out
      by_cases hnil : o = []
      · subst hnil
        have hS := AnyF.slices_SortFunc_none (P := Try.prog) (ρ := Try.sortL_ren) { Try.sortL with } A3 c3 (.func (.func 60) #[] #[]) wr
        change Calls Try.prog 59 _ _ _ at hS
        have HS := Aside0.mk hS
        clear hall hmr hex hnd hlt ho h1a hra hsp hS hol HALL
        go_wp2_with fail
        refine HS.out.mono ?_
        rintro e w' ⟨rfl, rfl⟩
        go_wp2_with fail
        go_ret
        exact ⟨_, [], rfl, ⟨hop.out, .nil⟩, HO.out, HB.out⟩
      · obtain ⟨g, cap, he, hbg, _⟩ := Kd.R_form HO.out (by cases o with | nil => exact absurd rfl hnil | cons a l => simp)
        injection he with hA hl hc
        subst hA
        subst hc
        have hS := sort_calls wr w.heap.size g c3 o HO.out hol
        have HS := Aside0.mk hS
        have HBG := Aside0.mk hbg
        clear hall hmr hex hnd hlt ho h1a hra hsp hS hol HALL hnil hl hbg
        go_wp2_with fail
        refine HS.out.mono ?_
        rintro e w' ⟨rfl, es, hp1, hp2, hp3, hp4⟩
        have HP := Aside0.mk hp1
        have HQ := Aside0.mk hp2
        have HR := Aside0.mk hp3
        have HG := Aside0.mk hp4
        clear hp1 hp2 hp3 hp4
        go_wp2_with fail
        go_ret
        exact ⟨_, es, rfl, ⟨HP.out.trans hop.out, HQ.out⟩, HR.out, HB.out.grown HG.out HB.out.size (fun k hk => by cases hk; exact HBG.out)⟩
end Go.Proofs.Ytnjdjfengoaleaa.MSub
