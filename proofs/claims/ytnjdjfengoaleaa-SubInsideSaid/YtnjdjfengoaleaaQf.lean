/- Texts of this claim, merged by a program of this session; what the claim does not use is left out. -/
import Derived.Test.YtnjdjfengoaleaaQd
import Derived.Test.YtnjdjfengoaleaaQe
namespace Go.Proofs.Ytnjdjfengoaleaa.MSub
open Go.RowKit Go.Proofs.YtnjdjfengoaleaaW.PrintWords Go.Proofs.YtnjdjfengoaleaaW.PrintLast Go.Proofs.YtnjdjfengoaleaaW.PrintMore
set_option linter.unusedVariables false
set_option linter.unusedSimpArgs false
abbrev NV := Int × Value
def entI (i : Nat) (p : NV) : MapEntry := { key := .int .i64 p.1, val := p.2, born := i }
def entsIFrom (n : Nat) : List NV → List MapEntry
  | [] => []
  | p :: L => entI n p :: entsIFrom (n + 1) L
def entsI (L : List NV) : Array MapEntry := (entsIFrom 0 L).toArray
theorem entsIFrom_append : ∀ (L M : List NV) (n : Nat), entsIFrom n (L ++ M) = entsIFrom n L ++ entsIFrom (n + L.length) M
  | [], M, n => by simp [entsIFrom]
  | p :: L, M, n => by
    simp only [List.cons_append, entsIFrom, entsIFrom_append L M, List.length_cons]
    rw [show n + 1 + L.length = n + (L.length + 1) from by omega]
theorem entsI_push (L : List NV) (p : NV) : (entsI L).push (entI L.length p) = entsI (L ++ [p]) := by
  simp [entsI, entsIFrom_append, entsIFrom]
theorem entsIFrom_len : ∀ (L : List NV) (n : Nat), (entsIFrom n L).length = L.length
  | [], _ => rfl
  | p :: L, n => by simp [entsIFrom, entsIFrom_len L]
theorem entsIFrom_get : ∀ (L : List NV) (n i : Nat), (entsIFrom n L)[i]? = L[i]?.map (entI (n + i))
  | [], _, _ => by simp [entsIFrom]
  | q :: L, n, 0 => by simp [entsIFrom]
  | q :: L, n, i + 1 => by
    simp only [entsIFrom, List.getElem?_cons_succ, entsIFrom_get L (n + 1) i]
    rw [show n + 1 + i = n + (i + 1) from by omega]
theorem entsI_set (L : List NV) (i : Nat) (p : NV) (hi : i < L.length) : (entsI L).modify i (fun e => { e with key := .int .i64 p.1, val := p.2 }) = entsI (L.set i p) := by
  apply Array.ext'
  apply List.ext_getElem?
  intro j
  simp only [entsI, Array.toList_modify, List.getElem?_modify, entsIFrom_get, List.getElem?_set, Nat.zero_add]
  by_cases h : i = j
  · subst h
    simp [hi, entI]
  · simp [h]
def placeI (L : List NV) (v : Int) : Option Nat := L.findIdx? (fun p => p.1 == v)
def valI (L : List NV) (v : Int) : Value := match placeI L v with
  | some i => (L.getD i (0, .slice none 0 0)).2
  | none => .slice none 0 0
theorem findNow_I (v : Int) : ∀ (L : List NV) (n i : Nat), Instr.findNow (.int .i64) (.int .i64 v) (entsIFrom n L) i = some ((placeI L v).map fun j => (i + j, (L.getD j (0, .slice none 0 0)).2))
  | [], n, i => by simp [entsIFrom, Instr.findNow, placeI]
  | p :: L, n, i => by
    simp only [entsIFrom, Instr.findNow, entI, Instr.sameNow, if_true]
    by_cases h : v = p.1
    · have h1 : (v == p.1) = true := beq_iff_eq.2 h
      have h2 : (p.1 == v) = true := beq_iff_eq.2 h.symm
      simp [h1, placeI, List.findIdx?_cons, h2]
    · have h1 : (v == p.1) = false := beq_eq_false_iff_ne.2 h
      have h2 : (p.1 == v) = false := beq_eq_false_iff_ne.2 (fun e => h e.symm)
      simp only [h1]
      have ih := findNow_I v L (n + 1) (i + 1)
      rw [ih]
      simp only [placeI, List.findIdx?_cons, h2, Bool.false_eq_true, if_false, Option.map_map, Option.some.injEq]
      congr 1
      funext j
      simp
      omega
structure IsMapI (w : World) (m : Nat) (L : List NV) : Prop where
  at_ : w.heap[m]? = some (.map (entsI L) L.length)
theorem IsMapI.lt {w : World} {m : Nat} {L : List NV} (h : IsMapI w m L) : m < w.heap.size := (Array.getElem?_eq_some_iff.1 h.at_).1
theorem run_find_I (w : World) (v : Int) (L : List NV) : (Instr.findKey 3 (.int .i64 v) (entsI L).toList).run Try.prog w = .ok ((placeI L v).map fun j => (j, (L.getD j (0, .slice none 0 0)).2)) w := by
  unfold Instr.findKey
  have he : (entsI L).toList = entsIFrom 0 L := by simp [entsI]
  have hf := findNow_I v L 0 0
  simp only [Nat.zero_add] at hf
  simp [run_underlying Try.underlying3, he, hf, Result.andThen]
theorem run_check_I (w : World) (em : Bool) (v : Int) : (Instr.checkKey em 10000 3 (.int .i64 v)).run Try.prog w = .ok () w := by
  cases em <;> kernel_rfl
theorem run_lookup88 {w : World} {m : Nat} {L : List NV} (h : IsMapI w m L) (v : Int) : (Instr.lookup 88 (.map (some m)) (.int .i64 v) false).run Try.prog w = .ok (valI L v) w := by
  have hz : (zeroValue 29).run Try.prog w = .ok (.slice none 0 0) w := by kernel_rfl
  unfold Instr.lookup
  cases hp : placeI L v with
  | none => simp [run_underlying Try.underlying88, MapKept.run_getObj_map h.at_, run_check_I, run_find_I, hp, hz, Result.andThen, valI]
  | some i => simp [run_underlying Try.underlying88, MapKept.run_getObj_map h.at_, run_check_I, run_find_I, hp, Result.andThen, valI]
def putI (L : List NV) (v : Int) (x : Value) : List NV := match placeI L v with
  | some i => L.set i (v, x)
  | none => L ++ [(v, x)]
theorem placeI_some {L : List NV} {v : Int} {i : Nat} (h : placeI L v = some i) : ∃ x, L[i]? = some (v, x) := by
  obtain ⟨hi, h1, _⟩ := List.findIdx?_eq_some_iff_getElem.1 h
  exact ⟨L[i].2, by rw [List.getElem?_eq_getElem hi]; rw [beq_iff_eq] at h1; rw [← h1]⟩
theorem run_update88 {w : World} {m : Nat} {L : List NV} (h : IsMapI w m L) (v : Int) (x : Value) :
    (Instr.mapUpdate 88 (.map (some m)) (.int .i64 v) x).run Try.prog w = .ok () (putObj w m (.map (entsI (putI L v x)) (putI L v x).length)) := by
  unfold Instr.mapUpdate
  cases hp : placeI L v with
  | none =>
    have hpush := entsI_push L (v, x)
    simp only [entI] at hpush
    simp [run_underlying Try.underlying88, MapKept.run_getObj_map h.at_, run_check_I, run_find_I, hp, MapKept.run_setObj_map _ h.at_, Result.andThen, putI, hpush, putObj]
  | some i =>
    obtain ⟨y, hy⟩ := placeI_some hp
    have hi := (List.getElem?_eq_some_iff.1 hy).1
    have hg : (entsI L)[i]? = some (entI i (v, y)) := by
      have := entsIFrom_get L 0 i
      rw [hy] at this
      simpa [entsI] using this
    have hset := entsI_set L i (v, x) hi
    simp only at hset
    have hs : (Instr.keyThatStays (.int .i64 v) (.int .i64 v)).run Try.prog w = .ok (.int .i64 v) w := by
      simp [Instr.keyThatStays, Instr.sameBits]
    simp [run_underlying Try.underlying88, MapKept.run_getObj_map h.at_, run_check_I, run_find_I, hp, MapKept.run_setObj_map _ h.at_, Result.andThen, putI, hg, entI, hs, hset, putObj]
theorem putI_is {w : World} {m : Nat} {L : List NV} (h : IsMapI w m L) (v : Int) (x : Value) : IsMapI (putObj w m (.map (entsI (putI L v x)) (putI L v x).length)) m (putI L v x) := ⟨by
  have := h.lt
  simp [putObj, this]⟩
end Go.Proofs.Ytnjdjfengoaleaa.MSub
namespace Go.Proofs.Ytnjdjfengoaleaa.MSub
open Go.RowKit Go.Proofs.YtnjdjfengoaleaaW.PrintWords Go.Proofs.YtnjdjfengoaleaaW.PrintLast Go.Proofs.YtnjdjfengoaleaaW.PrintMore
set_option linter.unusedVariables false
set_option linter.unusedSimpArgs false
def evAt (E : List (Int × Int)) (v : Int) : List Int := (E.filter (fun p => p.1 == v)).map (·.2)
theorem evAt_snoc_same (E : List (Int × Int)) (v f : Int) : evAt (E ++ [(v, f)]) v = evAt E v ++ [f] := by simp [evAt]
theorem evAt_snoc_other (E : List (Int × Int)) (v f u : Int) (h : u ≠ v) : evAt (E ++ [(v, f)]) u = evAt E u := by
  have : (v == u) = false := beq_eq_false_iff_ne.2 (fun e => h e.symm)
  simp [evAt, this]
theorem evAt_none {E : List (Int × Int)} {v : Int} (h : v ∉ E.map (·.1)) : evAt E v = [] := by
  unfold evAt
  rw [List.map_eq_nil_iff, List.filter_eq_nil_iff]
  intro p hp hv
  exact h (List.mem_map.2 ⟨p, hp, beq_iff_eq.1 hv⟩)
structure IsMine (w : World) (base m : Nat) (G : List NV) (E : List (Int × Int)) : Prop where
  map : IsMapI w m G
  keys : (G.map (·.1)).Nodup
  mem : ∀ v, v ∈ G.map (·.1) ↔ v ∈ E.map (·.1)
  own : ∀ p ∈ G, w.ownsRow base 3 1 p.2 (evAt E p.1).length (nums .i64 (evAt E p.1))
  blk : ∀ p ∈ G, ∃ g, p.2.ownBlock = some g
  apart : G.Pairwise (fun p q => p.2.ownBlock ≠ q.2.ownBlock)
section
variable {w w1 : World} {base m : Nat} {G : List NV} {E : List (Int × Int)}
theorem placeI_none {L : List NV} {v : Int} (h : placeI L v = none) : v ∉ L.map (·.1) := by
  intro hm
  obtain ⟨p, hp, rfl⟩ := List.mem_map.1 hm
  have := List.findIdx?_eq_none_iff.1 h p hp
  simp at this
theorem IsMine.val (h : IsMine w base m G E) (v : Int) : w.ownsRow base 3 1 (valI G v) (evAt E v).length (nums .i64 (evAt E v)) := by
  unfold valI
  cases hp : placeI G v with
  | none =>
    have : evAt E v = [] := evAt_none (fun hm => placeI_none hp ((h.mem v).2 hm))
    rw [this]
    exact own_nil _ _ _ _
  | some i =>
    obtain ⟨x, hx⟩ := placeI_some hp
    have hg : G.getD i (0, .slice none 0 0) = (v, x) := by rw [List.getD_eq_getElem?_getD, hx]; rfl
    simp only [hg]
    exact h.own _ (List.mem_of_getElem? hx)
theorem own_row_cells {w : World} {base e size n : Nat} {v : Value} {xs : List Value} (h : w.ownsRow base e size v n xs) (g : Nat) (hg : v.ownBlock = some g) : ∃ cells, w.heap[g]? = some (.cells cells e (0, 0)) := own_typed h g hg
theorem IsMine.below (h : IsMine w base m G E) (hb : Below w.heap.size w w1) : IsMine w1 base m G E :=
  ⟨⟨(hb.block m h.map.lt).trans h.map.at_⟩, h.keys, h.mem, fun p hp => pw_own_below (h.own p hp) hb, h.blk, h.apart⟩
theorem IsMine.other (h : IsMine w base m G E) {k : Nat} {es : Array MapEntry} {cl : Nat} (hk : w.heap[k]? = some (.map es cl)) (hne : k ≠ m) (hg : w.grownBy w1 (some k)) : IsMine w1 base m G E :=
  ⟨⟨(hg.block m h.map.lt (fun e => hne (Option.some.inj e).symm)).trans h.map.at_⟩, h.keys, h.mem, fun p hp => (h.own p hp).kept hg (.inr (fun e => by
    obtain ⟨cells, hc⟩ := own_row_cells (h.own p hp) k e
    rw [hk] at hc
    cases hc)), h.blk, h.apart⟩
theorem valI_block (h : IsMine w base m G E) (v : Int) : some m ≠ (valI G v).ownBlock := fun e => by
  obtain ⟨cells, hc⟩ := own_row_cells (h.val v) m e.symm
  rw [h.map.at_] at hc
  cases hc
theorem IsMine.appended (h : IsMine w base m G E) (v : Int) (hg : w.grownBy w1 (valI G v).ownBlock) : IsMapI w1 m G := ⟨(hg.block m h.map.lt (valI_block h v)).trans h.map.at_⟩
theorem own_putObj {w : World} {base e size n : Nat} {v : Value} {xs : List Value} (h : w.ownsRow base e size v n xs) (hm : IsMapI w m G) (o : Obj) : (putObj w m o).ownsRow base e size v n xs := h.kept (putObj_grown o) (.inr (fun e => by
    obtain ⟨cells, hc⟩ := own_row_cells h m e
    rw [hm.at_] at hc
    cases hc))
theorem putI_mem {L : List NV} {v : Int} {x : Value} {p : NV} (hk : (L.map (·.1)).Nodup) (hp : p ∈ putI L v x) : p = (v, x) ∨ (p ∈ L ∧ p.1 ≠ v) := by
  unfold putI at hp
  cases hpl : placeI L v with
  | none =>
    rw [hpl] at hp
    rcases List.mem_append.1 hp with hp | hp
    · exact .inr ⟨hp, fun e => placeI_none hpl (List.mem_map.2 ⟨p, hp, e⟩)⟩
    · exact .inl (by simpa using hp)
  | some i =>
    rw [hpl] at hp
    obtain ⟨y, hy⟩ := placeI_some hpl
    obtain ⟨j, hj, rfl⟩ := List.getElem_of_mem hp
    have hj' : j < L.length := by simpa using hj
    rw [List.getElem_set]
    by_cases e : i = j
    · left; rw [if_pos e]
    · right
      rw [if_neg e]
      refine ⟨List.getElem_mem _, fun e2 => ?_⟩
      have hi := (List.getElem?_eq_some_iff.1 hy).1
      have h1 : (L.map (·.1))[i]'(by simpa using hi) = v := by
        have := (List.getElem?_eq_some_iff.1 hy).2
        simp [this]
      have h2 : (L.map (·.1))[j]'(by simpa using hj') = v := by simpa using e2
      exact e ((List.getElem_inj hk).1 (h1.trans h2.symm))
theorem putI_keys {L : List NV} {v : Int} {x : Value} (hk : (L.map (·.1)).Nodup) : ((putI L v x).map (·.1)).Nodup ∧ ∀ u, u ∈ (putI L v x).map (·.1) ↔ u = v ∨ u ∈ L.map (·.1) := by
  unfold putI
  cases hpl : placeI L v with
  | none =>
    simp only [List.map_append, List.map_cons, List.map_nil]
    refine ⟨List.nodup_append.2 ⟨hk, by simp, fun a ha b hb e => ?_⟩, fun u => ?_⟩
    · simp at hb
      subst hb
      subst e
      exact placeI_none hpl ha
    · simp only [List.mem_append, List.mem_singleton]
      exact Or.comm
  | some i =>
    obtain ⟨y, hy⟩ := placeI_some hpl
    have hi := (List.getElem?_eq_some_iff.1 hy).1
    have hm : (L.set i (v, x)).map (·.1) = L.map (·.1) := by
      apply List.ext_getElem?
      intro j
      rw [List.getElem?_map, List.getElem?_set, List.getElem?_map]
      by_cases e : i = j
      · subst e
        rw [if_pos rfl, if_pos hi, hy]
        rfl
      · rw [if_neg e]
    simp only [hm]
    refine ⟨hk, fun u => ⟨fun h => .inr h, fun h => ?_⟩⟩
    rcases h with rfl | h
    · exact List.mem_map.2 ⟨_, List.mem_of_getElem? hy, rfl⟩
    · exact h
theorem IsMine.step (h : IsMine w base m G E) (v f : Int) {v1 : Value} (hown : w1.ownsRow base 3 1 v1 (evAt E v ++ [f]).length (nums .i64 (evAt E v ++ [f]))) (hg : w.grownBy w1 (valI G v).ownBlock)
    (hat : v1.ownBlock = (valI G v).ownBlock ∨ ∃ b, v1.ownBlock = some b ∧ w.heap.size ≤ b) :
    IsMine (putObj w1 m (.map (entsI (putI G v v1)) (putI G v v1).length)) base m (putI G v v1) (E ++ [(v, f)]) := by
  have hm1 := h.appended v hg
  obtain ⟨hk1, hk2⟩ := putI_keys (x := v1) (v := v) h.keys
  have hb1 : ∃ g, v1.ownBlock = some g := by
    have hl : 0 < (evAt E v ++ [f]).length := by simp
    obtain ⟨g, cap, rfl, _⟩ := hown.form hl
    exact ⟨g, rfl⟩
  have hoth : ∀ p ∈ G, p.1 ≠ v → p.2.ownBlock ≠ (valI G v).ownBlock := by
    intro p hp hpv e
    obtain ⟨g, hg'⟩ := h.blk p hp
    cases hpl : placeI G v with
    | none =>
      have e2 : (valI G v).ownBlock = none := by simp [valI, hpl, Value.ownBlock]
      rw [hg', e2] at e
      cases e
    | some i =>
      obtain ⟨x, hx⟩ := placeI_some hpl
      have hgd : G.getD i (0, .slice none 0 0) = (v, x) := by rw [List.getD_eq_getElem?_getD, hx]; rfl
      simp only [valI, hpl, hgd] at e
      obtain ⟨j, hj, rfl⟩ := List.getElem_of_mem hp
      have hi := (List.getElem?_eq_some_iff.1 hx).1
      have hxi : G[i] = (v, x) := (List.getElem?_eq_some_iff.1 hx).2
      have hij : i ≠ j := fun e2 => hpv (by subst e2; rw [hxi])
      have hpw := List.pairwise_iff_getElem.1 h.apart
      rcases Nat.lt_or_ge i j with hlt | hge
      · exact hpw i j hi hj hlt (by rw [hxi]; exact e.symm)
      · exact hpw j i hj hi (by omega) (by rw [hxi]; exact e)
  have hlt : ∀ p ∈ G, ∀ g, p.2.ownBlock = some g → g < w.heap.size := fun p hp g hg' => own_lt (h.own p hp) g hg'
  have hne1 : ∀ p ∈ G, p.1 ≠ v → p.2.ownBlock ≠ v1.ownBlock := by
    intro p hp hpv e
    rcases hat with hat | ⟨b, hb, hle⟩
    · exact hoth p hp hpv (e.trans hat)
    · have := hlt p hp b (e.trans hb)
      omega
  refine ⟨putI_is hm1 v v1, hk1, fun u => ?_, fun p hp => ?_, fun p hp => ?_, ?_⟩
  · rw [hk2 u, h.mem u]
    simp only [List.map_append, List.map_cons, List.map_nil, List.mem_append, List.mem_singleton]
    exact Or.comm
  · refine own_putObj (G := G) ?_ hm1 _
    rcases putI_mem h.keys hp with rfl | ⟨hp, hpv⟩
    · rw [evAt_snoc_same]
      exact hown
    · rw [evAt_snoc_other _ _ _ _ hpv]
      exact (h.own p hp).kept hg (.inr (hoth p hp hpv))
  · rcases putI_mem h.keys hp with rfl | ⟨hp, _⟩
    · exact hb1
    · exact h.blk p hp
  · unfold putI
    cases hpl : placeI G v with
    | none =>
      refine List.pairwise_append.2 ⟨h.apart, by simp, fun a ha b hb => ?_⟩
      simp at hb
      subst hb
      exact hne1 a ha (fun e => placeI_none hpl (List.mem_map.2 ⟨a, ha, e⟩))
    | some i =>
      obtain ⟨x, hx⟩ := placeI_some hpl
      have hi := (List.getElem?_eq_some_iff.1 hx).1
      have hxi : G[i] = (v, x) := (List.getElem?_eq_some_iff.1 hx).2
      have hkey : ∀ j (hj : j < G.length), j ≠ i → G[j].1 ≠ v := by
        intro j hj hji e
        have h1 : (G.map (·.1))[i]'(by simpa using hi) = v := by simp [hxi]
        have h2 : (G.map (·.1))[j]'(by simpa using hj) = v := by simpa using e
        exact hji ((List.getElem_inj h.keys).1 (h2.trans h1.symm))
      have hpw := List.pairwise_iff_getElem.1 h.apart
      rw [List.pairwise_iff_getElem]
      intro a b ha hb hab
      have ha' : a < G.length := by simpa using ha
      have hb' : b < G.length := by simpa using hb
      rw [List.getElem_set, List.getElem_set]
      by_cases ea : i = a
      · subst ea
        rw [if_pos rfl, if_neg (by omega)]
        exact (hne1 _ (List.getElem_mem hb') (hkey b hb' (by omega))).symm
      · rw [if_neg ea]
        by_cases eb : i = b
        · subst eb
          rw [if_pos rfl]
          exact hne1 _ (List.getElem_mem ha') (hkey a ha' (by omega))
        · rw [if_neg eb]
          exact hpw a b ha' hb' hab
end
theorem IsMine.made (w : World) (base : Nat) : IsMine (w.alloc (.map #[] 0)) base w.heap.size [] [] :=
  { map := ⟨heap_alloc_new _ _⟩, keys := by simp, mem := fun v => by simp, own := fun p hp => (by cases hp), blk := fun p hp => (by cases hp), apart := .nil }
end Go.Proofs.Ytnjdjfengoaleaa.MSub
namespace Go.Proofs.Ytnjdjfengoaleaa.MSub
open Go.RowKit Go.Proofs.YtnjdjfengoaleaaW.PrintWords Go.Proofs.YtnjdjfengoaleaaW.PrintLast Go.Proofs.YtnjdjfengoaleaaW.PrintMore
open Go.Proofs.Ytnjdjfengoaleaa.Relv
set_option linter.unusedVariables false
set_option linter.unusedSimpArgs false
def alongF (F : List (List Int)) (k : Nat) : List WF := (List.range k).flatMap fun f : Nat => (waysS (fcAt F f)).map (·, (f : Int))
def evsF (F : List (List Int)) (k : Nat) : List (Int × Int) := (List.range k).flatMap fun f : Nat => (fcAt F f).map (·, (f : Int))
theorem alongF_succ (F : List (List Int)) (k : Nat) : alongF F (k + 1) = alongF F k ++ (waysS (fcAt F k)).map (·, (k : Int)) := by simp [alongF, List.range_succ]
theorem evsF_succ (F : List (List Int)) (k : Nat) : evsF F (k + 1) = evsF F k ++ (fcAt F k).map (·, (k : Int)) := by simp [evsF, List.range_succ]
def leE (x y : S47) : Bool := decide (¬ ltE y x)
def edgesOf (L : List WF) : List S47 := ((List.range L.length).filterMap (edgeAt L)).mergeSort leE
theorem edgeAt_inj {L : List WF} {i j : Nat} {x y : S47} (hx : edgeAt L i = some x) (hy : edgeAt L j = some y) (h0 : x.f0 = y.f0) (h1 : x.f1 = y.f1) : x = y := by
  have key : ∀ {i x}, edgeAt L i = some x → x.f2 = faceOf L x.f0 x.f1 ∧ x.f3 = faceOf L x.f1 x.f0 := by
    intro i x h
    unfold edgeAt at h
    split at h
    · split at h
      · injection h with h
        subst h
        exact ⟨rfl, rfl⟩
      · cases h
    · cases h
  obtain ⟨a, b⟩ := key hx
  obtain ⟨c, d⟩ := key hy
  obtain ⟨x0, x1, x2, x3⟩ := x
  obtain ⟨y0, y1, y2, y3⟩ := y
  simp only at *
  subst h0
  subst h1
  rw [a, b, c, d]
theorem edges_unique {L : List WF} {es : List S47} (h : IsEdges L es) : es = edgesOf L := by
  have hp : (edgesOf L).Perm ((List.range L.length).filterMap (edgeAt L)) := List.mergeSort_perm _ _
  have hs : (edgesOf L).Pairwise (fun x y => ¬ ltE y x) := by
    have := List.pairwise_mergeSort (le := leE) (fun a b c h1 h2 => by
      unfold leE at *
      rw [decide_eq_true_iff] at *
      unfold ltE at *
      omega) (fun a b => by
      unfold leE
      by_cases h1 : ltE b a
      · by_cases h2 : ltE a b
        · unfold ltE at h1 h2; omega
        · simp [h1, h2]
      · simp [h1]) ((List.range L.length).filterMap (edgeAt L))
    exact this.imp (fun h => by unfold leE at h; simpa using h)
  refine List.Perm.eq_of_pairwise (fun a b ha hb h1 h2 => ?_) h.2 hs (h.1.trans hp.symm)
  obtain ⟨i, _, hi⟩ := List.mem_filterMap.1 (h.1.mem_iff.1 ha)
  obtain ⟨j, _, hj⟩ := List.mem_filterMap.1 (hp.mem_iff.1 hb)
  refine edgeAt_inj hi hj ?_ ?_
  · unfold ltE at h1 h2; omega
  · unfold ltE at h1 h2; omega
def small (F : List (List Int)) : Bool := decide (F.length ≤ 1048576) && F.all (fun fc => decide (fc.length ≤ 1048576))
def addsOk (verts : Int) (F : List (List Int)) : Bool := (List.range F.length).all fun f : Nat => addOk verts (alongF F f) (fcAt F f) f
def mineOf (F : List (List Int)) (v : Int) : List Int := evAt (evsF F F.length) v
def once : List Int → List Int
  | [] => []
  | a :: l => if a ∈ l then once l else a :: once l
theorem mem_once : ∀ {l : List Int} {a : Int}, a ∈ once l ↔ a ∈ l
  | [], a => by simp [once]
  | b :: l, a => by
    unfold once
    split
    · rename_i h
      rw [mem_once, List.mem_cons]
      exact ⟨fun h2 => .inr h2, fun h2 => h2.elim (fun e => e ▸ h) id⟩
    · rw [List.mem_cons, List.mem_cons, mem_once]
theorem nodup_once : ∀ l : List Int, (once l).Nodup
  | [] => by simp [once]
  | b :: l => by
    unfold once
    split
    · exact nodup_once l
    · rename_i h
      exact List.nodup_cons.2 ⟨fun h2 => h (mem_once.1 h2), nodup_once l⟩
def keysLen (F : List (List Int)) : Nat := (once ((evsF F F.length).map (·.1))).length
theorem keys_len {G : List NV} {E : List (Int × Int)} (hk : (G.map (·.1)).Nodup) (hm : ∀ v, v ∈ G.map (·.1) ↔ v ∈ E.map (·.1)) : G.length = (once (E.map (·.1))).length := by
  have h1 := len_le_of_nodup_subset (l := G.map (·.1)) (S := once (E.map (·.1))) hk (fun x hx => mem_once.2 ((hm x).1 hx))
  have h2 := len_le_of_nodup_subset (l := once (E.map (·.1))) (S := G.map (·.1)) (nodup_once _) (fun x hx => (hm x).2 (mem_once.1 hx))
  rw [List.length_map] at h1 h2
  omega
def fanOkAt (F : List (List Int)) (v : Int) : Bool := fanOk (nextF (alongF F F.length) F v) (prevF (alongF F F.length) F v) (mineOf F v)
def fanAt (F : List (List Int)) (v : Int) : List Int := fanL (nextF (alongF F F.length) F v) (prevF (alongF F F.length) F v) (mineOf F v)
def roundAt (F : List (List Int)) (v : Int) : Bool := (pick (prevF (alongF F F.length) F v) (mineOf F v) ((mineOf F v).headD 0)).2
def surfOk (verts : Int) (F : List (List Int)) : Bool := addsOk verts F && decide (0 ≤ verts) && decide ((keysLen F : Int) = verts) && (List.range verts.toNat).all (fun v : Nat => fanOkAt F v)
def topo_Build.f (a0 : Int) (l1 : List (List Int)) : Option (List S47 × List (List Int) × List Bool × Int) :=
  if small l1 = true then
    if surfOk a0 l1 = true then some (edgesOf (alongF l1 l1.length), (List.range a0.toNat).map (fun v : Nat => fanAt l1 v), (List.range a0.toNat).map (fun v : Nat => roundAt l1 v), 0)
    else some ([], [], [], 14)
  else none
theorem small_len {F : List (List Int)} (h : small F = true) : F.length ≤ 1048576 := by
  unfold small at h
  simp only [Bool.and_eq_true, decide_eq_true_eq] at h
  exact h.1
theorem small_face {F : List (List Int)} (h : small F = true) (f : Int) : (fcAt F f).length ≤ 1048576 := by
  unfold small at h
  simp only [Bool.and_eq_true, decide_eq_true_eq, List.all_eq_true] at h
  unfold fcAt
  rw [List.getD_eq_getElem?_getD]
  cases hx : F[f.toNat]? with
  | none => simp
  | some fc => exact h.2 fc (List.mem_of_getElem? hx)
theorem sum_le {α : Type} (n : Nat) (g : Nat → List α) (b : Nat) (h : ∀ i, i < n → (g i).length ≤ b) : ((List.range n).flatMap g).length ≤ n * b := by
  induction n with
  | zero => simp
  | succ n ih =>
    rw [List.range_succ, List.flatMap_append, List.length_append, List.flatMap_singleton, Nat.succ_mul]
    have h1 := ih (fun i hi => h i (by omega))
    have h2 := h n (by omega)
    omega
theorem alongF_len {F : List (List Int)} (h : small F = true) (k : Nat) (hk : k ≤ F.length) : (alongF F k).length ≤ 1099511627776 := by
  have h1 := sum_le k (fun f : Nat => (waysS (fcAt F f)).map (·, (f : Int))) 1048576 (fun i _ => by rw [List.length_map, waysS_len]; exact small_face h i)
  have h2 := small_len h
  have h3 : k * 1048576 ≤ 1048576 * 1048576 := Nat.mul_le_mul_right _ (by omega)
  unfold alongF
  omega
theorem evsF_len {F : List (List Int)} (h : small F = true) (k : Nat) (hk : k ≤ F.length) : (evsF F k).length ≤ 1099511627776 := by
  have h1 := sum_le k (fun f : Nat => (fcAt F f).map (·, (f : Int))) 1048576 (fun i _ => by rw [List.length_map]; exact small_face h i)
  have h2 := small_len h
  have h3 : k * 1048576 ≤ 1048576 * 1048576 := Nat.mul_le_mul_right _ (by omega)
  unfold evsF
  omega
theorem evAt_len (E : List (Int × Int)) (v : Int) : (evAt E v).length ≤ E.length := by
  unfold evAt
  rw [List.length_map]
  exact List.length_filter_le _ _
theorem mem_mineOf {F : List (List Int)} {v f : Int} : f ∈ mineOf F v ↔ ∃ k : Nat, k < F.length ∧ f = (k : Int) ∧ v ∈ fcAt F k := by
  unfold mineOf evAt evsF
  constructor
  · intro h
    obtain ⟨p, hp, rfl⟩ := List.mem_map.1 h
    obtain ⟨hp, hv⟩ := List.mem_filter.1 hp
    obtain ⟨k, hk, hp⟩ := List.mem_flatMap.1 hp
    obtain ⟨u, hu, rfl⟩ := List.mem_map.1 hp
    refine ⟨k, List.mem_range.1 hk, rfl, ?_⟩
    rw [beq_iff_eq] at hv
    rw [← hv]
    exact hu
  · rintro ⟨k, hk, rfl, hv⟩
    refine List.mem_map.2 ⟨(v, (k : Int)), List.mem_filter.2 ⟨List.mem_flatMap.2 ⟨k, List.mem_range.2 hk, List.mem_map.2 ⟨v, hv, rfl⟩⟩, by simp⟩, rfl⟩
theorem look_mem {L : List WF} {k : S115} {f : Int} (h : look L k = some f) : (k, f) ∈ L := by
  unfold look at h
  obtain ⟨p, hp, rfl⟩ := Option.map_eq_some_iff.1 h
  have h1 := List.mem_of_find?_eq_some hp
  have h2 := List.find?_some hp
  rw [same115_iff] at h2
  rw [h2]
  exact h1
theorem mem_alongF {F : List (List Int)} {n : Nat} {k : S115} {f : Int} (h : (k, f) ∈ alongF F n) : ∃ g : Nat, g < n ∧ f = (g : Int) ∧ k ∈ waysS (fcAt F g) := by
  unfold alongF at h
  obtain ⟨g, hg, hp⟩ := List.mem_flatMap.1 h
  obtain ⟨u, hu, he⟩ := List.mem_map.1 hp
  injection he with h1 h2
  exact ⟨g, List.mem_range.1 hg, h2.symm, h1 ▸ hu⟩
theorem rd_mem {l : List Int} {i : Nat} (h : i < l.length) : rd l i ∈ l := by
  simp [rd, List.getD_eq_getElem?_getD, h]
theorem waysS_from {fc : List Int} {k : S115} (h : k ∈ waysS fc) : k.f0 ∈ fc := by
  obtain ⟨i, hi, rfl⟩ := List.mem_map.1 h
  exact rd_mem (List.mem_range.1 hi)
theorem mine_ok {F : List (List Int)} (hs : small F = true) (v : Int) : Mine (alongF F F.length) F v (mineOf F v) where
  len := Nat.le_trans (evAt_len _ v) (evsF_len hs _ (Nat.le_refl _))
  lo := fun f hf => by obtain ⟨k, _, rfl, _⟩ := mem_mineOf.1 hf; omega
  hi := fun f hf => by obtain ⟨k, hk, rfl, _⟩ := mem_mineOf.1 hf; omega
  has := fun f hf => by obtain ⟨k, _, rfl, hv⟩ := mem_mineOf.1 hf; exact hv
  side := fun f hf => by have := small_face hs f; omega
  next := fun f hf g hg => by
    obtain ⟨k, hk, rfl, hw⟩ := mem_alongF (look_mem hg)
    exact mem_mineOf.2 ⟨k, hk, rfl, waysS_from hw⟩
end Go.Proofs.Ytnjdjfengoaleaa.MSub
namespace Go.Proofs.Ytnjdjfengoaleaa.MSub
open Go.RowKit Go.Proofs.YtnjdjfengoaleaaW.PrintWords Go.Proofs.YtnjdjfengoaleaaW.PrintLast Go.Proofs.YtnjdjfengoaleaaW.PrintMore
open Go.Proofs.Ytnjdjfengoaleaa.Relv
set_option linter.unusedVariables false
set_option linter.unusedSimpArgs false
structure BW (w wr : World) (m sb m2 : Nat) (A : Option Addr) (n c : Nat) (L : List WF) (G : List NV) (E : List (Int × Int)) : Prop where
  em : m = w.heap.size + 1
  es : sb = w.heap.size + 2
  em2 : m2 = w.heap.size + 3
  res : wr.heap[w.heap.size]? = some (.cells #[.slice none 0 0, .slice none 0 0, .slice none 0 0] 36 (0, 0))
  surf : wr.heap[sb]? = some (.cells #[.slice A n c, .map (some m)] 87 (0, 0))
  along : IsMap wr m L
  mine : IsMine wr w.heap.size m2 G E
  below : Below w.heap.size w wr
section
variable {w wr w1 : World} {m sb m2 : Nat} {A : Option Addr} {n c : Nat} {L L' : List WF} {G : List NV} {E : List (Int × Int)}
theorem lt_of_block {w : World} {g : Nat} {o : Obj} (h : w.heap[g]? = some o) : g < w.heap.size := (Array.getElem?_eq_some_iff.1 h).1
theorem BW.step (h : BW w wr m sb m2 A n c L G E) (hb : Below wr.heap.size wr w1) : BW w w1 m sb m2 A n c L G E where
  em := h.em
  es := h.es
  em2 := h.em2
  res := (hb.block _ (lt_of_block h.res)).trans h.res
  surf := (hb.block _ (lt_of_block h.surf)).trans h.surf
  along := h.along.below hb
  mine := h.mine.below hb
  below := below_then h.below h.below.size hb
theorem BW.c0 (h : BW w wr m sb m2 A n c L G E) : wr.cell? ⟨sb, 0, none⟩ = some (.slice A n c) := by unfold World.cell?; rw [h.surf]; rfl
theorem BW.c1 (h : BW w wr m sb m2 A n c L G E) : wr.cell? ⟨sb, 1, none⟩ = some (.map (some m)) := by unfold World.cell?; rw [h.surf]; rfl
theorem BW.add (h : BW w wr m sb m2 A n c L G E) (hg : wr.grownBy w1 (some m)) (hm : IsMap w1 m L') : BW w w1 m sb m2 A n c L' G E where
  em := h.em
  es := h.es
  em2 := h.em2
  res := (hg.block _ (lt_of_block h.res) (fun e => by injection e with e; have := h.em; omega)).trans h.res
  surf := (hg.block _ (lt_of_block h.surf) (fun e => by injection e with e; have := h.em; have := h.es; omega)).trans h.surf
  along := hm
  mine := h.mine.other h.along.at_ (by have := h.em; have := h.em2; omega) hg
  below := h.below.grown hg h.below.size (fun k hk => by cases hk; have := h.em; omega)
theorem BW.put (h : BW w wr m sb m2 A n c L G E) (v f : Int) {v1 : Value} (hown : w1.ownsRow w.heap.size 3 1 v1 (evAt E v ++ [f]).length (nums .i64 (evAt E v ++ [f]))) (hg : wr.grownBy w1 (valI G v).ownBlock)
    (hat : v1.ownBlock = (valI G v).ownBlock ∨ ∃ b, v1.ownBlock = some b ∧ wr.heap.size ≤ b) :
    BW w (putObj w1 m2 (.map (entsI (putI G v v1)) (putI G v v1).length)) m sb m2 A n c L (putI G v v1) (E ++ [(v, f)]) := by
  have h1 := h.em
  have h2 := h.es
  have h3 := h.em2
  have hne : ∀ {g : Nat} {o : Obj}, wr.heap[g]? = some o → (∀ cells, o ≠ .cells cells 3 (0, 0)) → some g ≠ (valI G v).ownBlock := fun hb hn e => by
    obtain ⟨cells, hc⟩ := own_row_cells (h.mine.val v) _ e.symm
    rw [hb] at hc
    exact hn cells (Option.some.inj hc)
  have hkeep : ∀ {g : Nat} {o : Obj}, wr.heap[g]? = some o → (∀ cells, o ≠ .cells cells 3 (0, 0)) → g ≠ m2 → (putObj w1 m2 (.map (entsI (putI G v v1)) (putI G v v1).length)).heap[g]? = some o := fun hb hn h3 => by
    have h1 := (hg.block _ (lt_of_block hb) (hne hb hn)).trans hb
    unfold putObj
    rw [Array.getElem?_setIfInBounds_ne (fun e => h3 e.symm)]
    exact h1
  refine ⟨h1, h2, h3, hkeep h.res (fun _ e => by injection e with _ e; cases e) (by omega), hkeep h.surf (fun _ e => by injection e with _ e; cases e) (by omega), ⟨hkeep h.along.at_ (fun _ e => by cases e) (by omega)⟩, h.mine.step v f hown hg hat, ?_⟩
  have hb1 : Below w.heap.size w w1 := h.below.grown hg h.below.size (own_base (h.mine.val v))
  exact hb1.grown (putObj_grown _) hb1.size (fun k hk => by cases hk; omega)
theorem BW.made (w : World) (A : Option Addr) (n c m sb m2 : Nat) (hm : w.heap.size + 1 = m) (hs : w.heap.size + 1 + 1 = sb) (hm2 : w.heap.size + 1 + 1 + 1 = m2) :
    BW w ((((w.alloc (.cells #[.slice none 0 0, .slice none 0 0, .slice none 0 0] 36)).alloc (.map #[] 0)).alloc (.cells #[.slice A n c, .map (some m)] 87)).alloc (.map #[] 0)) m sb m2 A n c [] [] [] := by
  subst hm hs hm2
  have s1 : (w.alloc (.cells #[.slice none 0 0, .slice none 0 0, .slice none 0 0] 36)).heap.size = w.heap.size + 1 := by simp
  have s2 : ((w.alloc (.cells #[.slice none 0 0, .slice none 0 0, .slice none 0 0] 36)).alloc (.map #[] 0)).heap.size = w.heap.size + 1 + 1 := by simp
  have s3 : (((w.alloc (.cells #[.slice none 0 0, .slice none 0 0, .slice none 0 0] 36)).alloc (.map #[] 0)).alloc (.cells #[.slice A n c, .map (some (w.heap.size + 1))] 87)).heap.size = w.heap.size + 1 + 1 + 1 := by simp
  refine ⟨rfl, rfl, rfl, ?_, ?_, ⟨?_⟩, ?_, ?_⟩
  · rw [Below.heap_alloc _ _ _ (by simp; omega), Below.heap_alloc _ _ _ (by simp; omega), Below.heap_alloc _ _ _ (by simp)]
    exact heap_alloc_new _ _
  · rw [Below.heap_alloc _ _ _ (by rw [s3]; omega)]
    have := heap_alloc_new ((w.alloc (.cells #[.slice none 0 0, .slice none 0 0, .slice none 0 0] 36)).alloc (.map #[] 0)) (.cells #[.slice A n c, .map (some (w.heap.size + 1))] 87)
    rw [s2] at this
    exact this
  · rw [Below.heap_alloc _ _ _ (by rw [s3]; omega), Below.heap_alloc _ _ _ (by rw [s2]; omega)]
    have := heap_alloc_new (w.alloc (.cells #[.slice none 0 0, .slice none 0 0, .slice none 0 0] 36)) (.map #[] 0)
    rw [s1] at this
    exact this
  · have := IsMine.made (((w.alloc (.cells #[.slice none 0 0, .slice none 0 0, .slice none 0 0] 36)).alloc (.map #[] 0)).alloc (.cells #[.slice A n c, .map (some (w.heap.size + 1))] 87)) w.heap.size
    rw [s3] at this
    exact this
  · exact below_alloc (below_alloc (below_alloc (below_alloc (Below.refl _ _) _) _) _) _
theorem BW.cells (h : BW w wr m sb m2 A n c L G E) {row : Option Nat} (hg : wr.grownBy w1 row) (hrow : ∀ g, row = some g → w.heap.size + 3 < g ∧ ∃ cells t, wr.heap[g]? = some (.cells cells t (0, 0)) ∧ t ≠ 3) : BW w w1 m sb m2 A n c L G E := by
  have h1 := h.em
  have h2 := h.es
  have h3 := h.em2
  have hne : ∀ g, g ≤ w.heap.size + 3 → some g ≠ row := fun g hl e => by
    have := (hrow g e.symm).1
    omega
  refine ⟨h1, h2, h3, ?_, ?_, ⟨?_⟩, ⟨⟨?_⟩, h.mine.keys, h.mine.mem, fun p hp => own_other (h.mine.own p hp) hg ?_, h.mine.blk, h.mine.apart⟩, h.below.grown hg h.below.size (fun k hk => by have := (hrow k hk).1; omega)⟩
  · exact (hg.block _ (lt_of_block h.res) (hne _ (by omega))).trans h.res
  · exact (hg.block _ (lt_of_block h.surf) (hne _ (by omega))).trans h.surf
  · exact (hg.block _ (lt_of_block h.along.at_) (hne _ (by omega))).trans h.along.at_
  · exact (hg.block _ (lt_of_block h.mine.map.at_) (hne _ (by omega))).trans h.mine.map.at_
  · by_cases hn : p.2.ownBlock = none
    · exact .inl hn
    · refine .inr (fun e => ?_)
      obtain ⟨g, hg1⟩ := Option.ne_none_iff_exists'.1 hn
      obtain ⟨_, cells, t, hc, ht⟩ := hrow g (by rw [← e, hg1])
      obtain ⟨cells', hc'⟩ := own_typed (h.mine.own p hp) g hg1
      rw [hc] at hc'
      injection hc' with hc'
      injection hc' with _ ht'
      exact ht ht'
end
structure TW (w wr : World) (m sb m2 : Nat) (A : Option Addr) (n c : Nat) (L : List WF) (G : List NV) (E : List (Int × Int)) (g : Nat) (v0 v1 v2 : Value) (es : List S47) (fs : List (List Int)) (rs : List Bool) : Prop where
  bw : BW w wr m sb m2 A n c L G E
  far : w.heap.size + 3 < g
  at_ : wr.heap[g]? = some (.cells #[v0, v1, v2] 36 (0, 0))
  r0 : Kd.R k47 47 wr w.heap.size (fun _ => True) v0 es
  r1 : Kd.R (Kd.slice 3 (Kd.int .i64)) 29 wr (w.heap.size + 4) (fun _ => True) v1 fs
  r2 : Kd.R Kd.bool 4 wr (w.heap.size + 4) (fun _ => True) v2 rs
section
variable {w wr w1 w2 : World} {m sb m2 : Nat} {A : Option Addr} {n c : Nat} {L L' : List WF} {G : List NV} {E : List (Int × Int)} {g : Nat} {v0 v1 v2 v' : Value} {es : List S47} {fs : List (List Int)} {rs : List Bool}
theorem TW.step (h : TW w wr m sb m2 A n c L G E g v0 v1 v2 es fs rs) (hb : Below wr.heap.size wr w1) : TW w w1 m sb m2 A n c L G E g v0 v1 v2 es fs rs where
  bw := h.bw.step hb
  far := h.far
  at_ := (hb.block _ (lt_of_block h.at_)).trans h.at_
  r0 := Kd.R_below h.r0 hb
  r1 := Kd.R_below h.r1 hb
  r2 := Kd.R_below h.r2 hb
theorem R_block {α : Type} {d : Kd α} {e base : Nat} {W W1 : World} {v : Value} {xs : List α} {g t : Nat} {cells : Array Value} (h : d.R e W base (fun _ => True) v xs) (hb : W.heap[g]? = some (.cells cells t (0, 0))) (ht : ∀ q, q ∈ e :: d.E → q ≠ t) (hg : W.grownBy W1 (some g)) : d.R e W1 base (fun _ => True) v xs :=
  Kd.R_mono (Kd.R_grown (Kd.R_types h hb ht) hg (fun k hk e => hk.2 (Option.some.inj e))) (fun _ _ => trivial)
theorem TW.fan (h : TW w wr m sb m2 A n c L G E g v0 v1 v2 es fs rs) {f : List Int} (hr : Kd.R (Kd.slice 3 (Kd.int .i64)) 29 w1 (w.heap.size + 4) (fun _ => True) v' (fs ++ [f])) (hg : wr.grownBy w1 v1.ownBlock) (hg2 : w1.grownBy w2 (some g)) (hat : w2.heap[g]? = some (.cells #[v0, v', v2] 36 (0, 0))) :
    TW w w2 m sb m2 A n c L G E g v0 v' v2 es (fs ++ [f]) rs := by
  have hne : some g ≠ v1.ownBlock := Kd.R_ne h.r1 h.at_ (by decide)
  have ha1 : w1.heap[g]? = some (.cells #[v0, v1, v2] 36 (0, 0)) := (hg.block _ (lt_of_block h.at_) hne).trans h.at_
  have hty : ∀ k, v1.ownBlock = some k → ∃ cells, wr.heap[k]? = some (.cells cells 29 (0, 0)) := Kd.R_typed h.r1
  have hb1 : BW w w1 m sb m2 A n c L G E := h.bw.cells hg (fun k hk => by
    obtain ⟨cells, hc⟩ := hty k hk
    exact ⟨by have := Kd.R_base h.r1 k hk; omega, cells, 29, hc, by decide⟩)
  refine ⟨hb1.cells hg2 (fun k hk => by cases hk; exact ⟨h.far, _, 36, ha1, by decide⟩), h.far, hat, ?_, ?_, ?_⟩
  · exact R_block (Kd.R_over' h.r0 hty (by decide) hg) ha1 (by decide) hg2
  · exact R_block hr ha1 (by decide) hg2
  · exact R_block (Kd.R_over' h.r2 hty (by decide) hg) ha1 (by decide) hg2
theorem TW.round (h : TW w wr m sb m2 A n c L G E g v0 v1 v2 es fs rs) {b : Bool} (hr : Kd.R Kd.bool 4 w1 (w.heap.size + 4) (fun _ => True) v' (rs ++ [b])) (hg : wr.grownBy w1 v2.ownBlock) (hg2 : w1.grownBy w2 (some g)) (hat : w2.heap[g]? = some (.cells #[v0, v1, v'] 36 (0, 0))) :
    TW w w2 m sb m2 A n c L G E g v0 v1 v' es fs (rs ++ [b]) := by
  have hne : some g ≠ v2.ownBlock := Kd.R_ne h.r2 h.at_ (by decide)
  have ha1 : w1.heap[g]? = some (.cells #[v0, v1, v2] 36 (0, 0)) := (hg.block _ (lt_of_block h.at_) hne).trans h.at_
  have hty : ∀ k, v2.ownBlock = some k → ∃ cells, wr.heap[k]? = some (.cells cells 4 (0, 0)) := Kd.R_typed h.r2
  have hb1 : BW w w1 m sb m2 A n c L G E := h.bw.cells hg (fun k hk => by
    obtain ⟨cells, hc⟩ := hty k hk
    exact ⟨by have := Kd.R_base h.r2 k hk; omega, cells, 4, hc, by decide⟩)
  refine ⟨hb1.cells hg2 (fun k hk => by cases hk; exact ⟨h.far, _, 36, ha1, by decide⟩), h.far, hat, ?_, ?_, ?_⟩
  · exact R_block (Kd.R_over' h.r0 hty (by decide) hg) ha1 (by decide) hg2
  · exact R_block (Kd.R_over' h.r1 hty (by decide) hg) ha1 (by decide) hg2
  · exact R_block hr ha1 (by decide) hg2
theorem TW.first (h : BW w wr m sb m2 A n c L G E) (hr : Kd.R k47 47 wr w.heap.size (fun _ => True) v0 es) (hat : wr.heap[g]? = some (.cells #[v0, .slice none 0 0, .slice none 0 0] 36 (0, 0))) (hf : w.heap.size + 3 < g) :
    TW w wr m sb m2 A n c L G E g v0 (.slice none 0 0) (.slice none 0 0) es [] [] := ⟨h, hf, hat, hr, Kd.R_nil _ _ _ _ _, Kd.R_nil _ _ _ _ _⟩
theorem TW.last (h : TW w wr m sb m2 A n c L G E g v0 v1 v2 es fs rs) (hg : wr.grownBy w1 (some w.heap.size)) :
    Kd.R k47 47 w1 w.heap.size (fun _ => True) v0 es ∧ Kd.R (Kd.slice 3 (Kd.int .i64)) 29 w1 w.heap.size (fun _ => True) v1 fs ∧ Kd.R Kd.bool 4 w1 w.heap.size (fun _ => True) v2 rs ∧ Below w.heap.size w w1 :=
  ⟨R_block h.r0 h.bw.res (by decide) hg, Kd.R_lower (R_block h.r1 h.bw.res (by decide) hg) (by omega), Kd.R_lower (R_block h.r2 h.bw.res (by decide) hg) (by omega), h.bw.below.grown hg h.bw.below.size (fun k hk => by cases hk; omega)⟩
end
theorem mineLen {F : List (List Int)} (h : small F = true) : keysLen F ≤ 1099511627776 := by
  have h1 := len_le_of_nodup_subset (l := once ((evsF F F.length).map (·.1))) (S := (evsF F F.length).map (·.1)) (nodup_once _) (fun x hx => mem_once.1 hx)
  rw [List.length_map] at h1
  have h2 := evsF_len h F.length (Nat.le_refl _)
  unfold keysLen
  omega
theorem infoB29 : (Try.prog.info? 29).map (fun i => (i.zero, i.size, i.bytes)) = some (some (.slice none 0 0), 1, 24) := by kernel_rfl
theorem infoB4 : (Try.prog.info? 4).map (fun i => (i.zero, i.size, i.bytes)) = some (some (.bool false), 1, 1) := by kernel_rfl
theorem infoS23 : (Try.prog.info? 23).map (·.size) = some 1 := by kernel_rfl
theorem infoS34 : (Try.prog.info? 34).map (·.size) = some 1 := by kernel_rfl
theorem fan_none (w : World) (p v : Value) (B : Option Addr) (cb : Nat) :
    Calls Try.prog 41 #[p, v, .slice B 0 cb] w fun e w' => e = .returned (.tuple #[.slice none 0 0, .bool false, .bool false]) ∧ w' = w := by
  go_enter Try.func41, Try.ntmps41
  go_wp2_with fail
  go_ret3
  exact ⟨rfl, rfl⟩
theorem results_cell_tmp {P : Program} {fn : Func} {p q : Tmp} {ty : TypeId} (h : fn.results = #[.cell p ty, .tmp q]) (tmps : Array Value) (w : World) (g : Nat) (t : TypeId) (cs : Array Value) (fr : Nat × Nat) (d : TypeDesc)
    (hp : tmps.getD p undef = .pointer (some ⟨g, 0, none⟩)) (hg : w.heap[g]? = some (.cells cs t fr))
    (hu : P.underlying ty = some d) (hd : (match d with | .struct _ | .array _ _ => true | _ => false) = true) (hi : (P.info? ty).map (·.size) = some cs.size) :
    (results fn tmps).run P w = .ok (.tuple #[.agg cs, tmps.getD q undef]) w := by
  have hp' : tmps[p]?.getD undef = .pointer (some ⟨g, 0, none⟩) := by simpa using hp
  simp [results, h, hp', asAddr, run_loadVar_row w g t ty cs fr d hg hu hd hi]
theorem info36 : (Try.prog.info? 36).map (·.size) = some 3 := by kernel_rfl
theorem store_own {P : Program} {ops : Array Oper} {rest : List Oper} {o : Oper} {a : Act} {Q : Exit → Act → World → Prop} {W : World} {g j : Nat} {e : TypeId} {cur : Array Value} (t : TypeId) (p x : Operand) (hN : o.dst = none) (hgd : o.guard = none) (ho : o.op = .store t p x)
    (u : Value) (seg : List Value) (haddr : a.eval p = .pointer (some ⟨g, j, none⟩)) (hx : a.eval x = u) (hu : u.cells.toList = seg) (ht : (P.info? t).map (·.size) = some seg.length) (h1 : ∀ q ∈ seg, q.oneCell' = true)
    (hh : W.heap[g]? = some (.cells cur e (0, 0))) (hfit : j + seg.length ≤ cur.size)
    (h : ∀ w1, W.grownBy w1 (some g) → (∃ cur' : Array Value, w1.heap[g]? = some (.cells cur' e (0, 0)) ∧ cur'.toList = cur.toList.take j ++ seg ++ cur.toList.drop (j + seg.length)) → w1.heap.size = W.heap.size → wpList P ops Q rest a w1) : wpList P ops Q (o :: rest) a W := by
  have hrun := run_store_run (P := P) (w := W) t u seg hh hu ht hfit h1
  obtain ⟨s1, s2, s3, s4⟩ := setCells_same g seg j W
  have hrow := setCells_row seg j W cur hh hfit
  refine wpList_plain hgd fun K hK => ?_
  unfold Oper.wp execOp
  simp only [ho, haddr, hx, Sem.run_bind, Sem.run_pure, Result.andThen_ok, hrun]
  show K (a.put o.dst undef) _
  rw [hN]
  obtain ⟨cur', h3, _, h5⟩ := hrow
  exact hK _ _ (h _ ⟨s1, s2, s3, by omega, fun k hk hne => setCells_far seg j k (fun e => hne (by rw [e]))⟩ ⟨cur', h3, h5⟩ s4)
set_option maxHeartbeats 4000000 in
set_option maxRecDepth 100000 in
theorem build_calls0 (A : Option Addr) (c : Nat) (verts : Int) (F : List (List Int)) (w : World) (hF : Kd.C (Kd.slice 3 (Kd.int .i64)) w A F.length F) (hs : small F = true) :
    Calls Try.prog 15 #[.int .i64 verts, .slice A F.length c] w fun e w' => ∃ v0 v1 v2 : Value, ∃ r1 r2 r3 r4, topo_Build.f verts F = some (r1, r2, r3, r4) ∧
      e = .returned (.tuple #[.agg #[v0, v1, v2], .int .i64 r4]) ∧ Kd.R k47 47 w' w.heap.size (fun _ => True) v0 r1 ∧ Kd.R (Kd.slice 3 (Kd.int .i64)) 29 w' w.heap.size (fun _ => True) v1 r2 ∧ Kd.R Kd.bool 4 w' w.heap.size (fun _ => True) v2 r3 ∧ Below w.heap.size w w' := by
  have hmm := @run_makeMap Try.prog
  have HF := Aside0.mk hF
  have HS := Aside0.mk hs
  have hFl := small_len hs
  clear hF hs
  go_enter Try.func15, Try.ntmps15
  go_wp2_with fail
  have HBW := Aside0.mk (BW.made w A F.length c _ _ _ rfl rfl rfl)
  generalize hm2 : w.heap.size + 1 + 1 + 1 = m2 at *
  generalize hsb : w.heap.size + 1 + 1 = sb at *
  generalize hm : w.heap.size + 1 = m at *
  clear hm2 hsb hm
  go_loopw [24] (fun v24 wr => ∃ (k : Nat) (G : List NV), k ≤ F.length ∧ v24 = .int .i64 k ∧ Aside0 (∀ f : Nat, f < k → addOk verts (alongF F f) (fcAt F f) f = true) ∧ Aside0 (BW w wr m sb m2 A F.length c (alongF F k) G (evsF F k)))
    (fun v24 _ => F.length - (intOf v24).toNat)
  case atStart => exact ⟨0, [], Nat.zero_le _, rfl, ⟨fun f hf => by omega⟩, HBW⟩
  case round =>
    obtain ⟨k, G, hk, rfl, HA, HB⟩ := hrel
    by_cases hlt : k < F.length
    · obtain ⟨ad, A0, c0, e', hcell', hl0, hC⟩ := at_face HF.out (k : Int) (by omega) (by omega)
      cases e'
      rw [Int.toNat_natCast] at hcell'
      have hcell := pw_cell_below HB.out.below hcell'
      clear hcell'
      have hside : (fcAt F (k : Int)).length ≤ 1048576 := small_face HS.out _
      have hadd := add_calls wr sb m (some ad) c F (alongF F k) (k : Int) verts HB.out.c0 HB.out.c1 HB.out.along (Kd.C_below HF.out HB.out.below) (by omega) (by omega) (by omega)
      have hal := alongF_succ F k
      have hev := evsF_succ F k
      obtain ⟨ar, har⟩ : ∃ ar, addOk verts (alongF F k) (fcAt F (k : Int)) (k : Int) = ar := ⟨_, rfl⟩
      rw [har] at hadd
      rw [← hal] at hadd
      have HAR := Aside0.mk har
      have HADD := Aside0.mk hadd
      have HAL := Aside0.mk hal
      have HEV := Aside0.mk hev
      have hFC := Aside0.mk (rfl : fcAt F (k : Int) = fcAt F (k : Int))
      clear hadd har hal hev
      generalize hfc : fcAt F (k : Int) = fc at hcell hl0 hC hside hFC
      have HFCE := Aside0.mk hfc
      have HC := Aside0.mk hC
      clear hC hfc hFC
      go_wp2_with fail
      refine HADD.out.mono ?_
      rintro e w2 ⟨rfl, hg2, hm2⟩
      cases ar with
      | false =>
        have hres := (hg2.block _ (lt_of_block HB.out.res) (fun e => by injection e with e; have := HB.out.em; omega)).trans HB.out.res
        have hbw : Below w.heap.size w w2 := HB.out.below.grown hg2 HB.out.below.size (fun k hk => by cases hk; have := HB.out.em; omega)
        have HBW := Aside0.mk hbw
        clear hg2 hm2 hbw
        go_wp2_with (first | (refine gate_ (.store 36 (.tmp 4) (.tmp 34)) rfl ?_; refine store_own (g := w.heap.size) (j := 0) 36 (.tmp 4) (.tmp 34) rfl rfl rfl (.agg #[.slice none 0 0, .slice none 0 0, .slice none 0 0]) [.slice none 0 0, .slice none 0 0, .slice none 0 0] rfl rfl rfl info36 (by decide) hres (by simp) ?_))
        intro w3 hg3 cur3 hb3 hl3 hs3
        obtain rfl : cur3 = #[.slice none 0 0, .slice none 0 0, .slice none 0 0] := by rw [← Array.toList_inj, hl3]
        have hb3' : Below w.heap.size w w3 := HBW.out.grown hg3 HBW.out.size (fun k hk => by cases hk; omega)
        have HB3 := Aside0.mk hb3'
        have hbad : addsOk verts F = false := range_all_false hlt HAR.out
        have hmod : topo_Build.f verts F = some ([], [], [], 14) := by
          unfold topo_Build.f surfOk
          rw [HS.out, hbad]
          rfl
        have HM := Aside0.mk hmod
        clear hg3 hl3 hb3' hbad hmod hs3 hcell hres
        go_wp2_with fail
        refine bodyPost_ret (results_cell_tmp rfl _ _ w.heap.size 36 #[.slice none 0 0, .slice none 0 0, .slice none 0 0] (0, 0) _ rfl hb3 Try.underlying36 rfl info36) rfl ?_
        exact ⟨_, _, _, [], [], [], 14, HM.out, rfl, Kd.R_nil _ _ _ _ _, Kd.R_nil _ _ _ _ _, Kd.R_nil _ _ _ _ _, HB3.out⟩
      | true =>
        have hb2 := HB.out.add hg2 (hm2 rfl)
        have HB2 := Aside0.mk hb2
        have HF2 := Aside0.mk (Kd.C_below HF.out hb2.below)
        clear hb2 hm2 hg2 hcell
        have HEVF := Aside0.mk (rfl : evsF F k = evsF F k)
        have hevl := evsF_len HS.out k hk
        generalize hE0 : evsF F k = E0 at HB2 hevl HEVF
        have HE0 := Aside0.mk hE0
        generalize hL1 : alongF F (k + 1) = L1 at HB2
        have HL1 := Aside0.mk hL1
        clear hE0 hL1 HEVF
        have HB2' : Aside0 (BW w w2 m sb m2 (some ad) F.length c L1 G (E0 ++ (fc.take 0).map (·, (k : Int)))) := ⟨by simpa using HB2.out⟩
        go_wp2_with fail
        obtain ⟨wo, rfl⟩ : ∃ wo : World, wo = wr := ⟨_, rfl⟩
        go_loopw [37] (fun v37 wr => ∃ (j : Nat) (G : List NV), j ≤ fc.length ∧ v37 = .int .i64 j ∧ Aside0 (BW w wr m sb m2 (some ad) F.length c L1 G (E0 ++ (fc.take j).map (·, (k : Int)))))
          (fun v37 _ => fc.length - (intOf v37).toNat)
        case atStart => exact ⟨0, G, Nat.zero_le _, rfl, HB2'⟩
        case round =>
          obtain ⟨j, G', hj, rfl, HBj⟩ := hrel
          by_cases hjl : j < fc.length
          · obtain ⟨vj, hvj⟩ : ∃ vj, rd fc j = vj := ⟨_, rfl⟩
            obtain ⟨ad0, e', hcj⟩ := Kd.at_int (Kd.C_below HC.out HBj.out.below) j (by omega) (by omega)
            cases e'
            rw [hvj, Int.toNat_natCast] at hcj
            have hlk := run_lookup88 HBj.out.mine.map vj
            have hval := HBj.out.mine.val vj
            have htk : fc.take (j + 1) = fc.take j ++ [vj] := by
              rw [List.take_succ_eq_append_getElem hjl]
              congr 2
              rw [← hvj]
              simp [rd, List.getD_eq_getElem?_getD, hjl]
            have HTK := Aside0.mk htk
            have hvl := evAt_len (E0 ++ (fc.take j).map (·, (k : Int))) vj
            rw [List.length_append, List.length_map, List.length_take] at hvl
            generalize hEj : E0 ++ (fc.take j).map (·, (k : Int)) = Ej at HBj hval hvl
            have HEJ := Aside0.mk hEj
            have HVAL := Aside0.mk hval
            have hbz := HBj.out.below.size
            have hvl2 : (evAt Ej vj).length ≤ 2199023255552 := by omega
            clear hval htk hvj hEj hvl
            obtain ⟨xv, hxv⟩ : ∃ xv, valI G' vj = xv := ⟨_, rfl⟩
            rw [hxv] at hlk HVAL
            have HXV := Aside0.mk hxv
            clear hxv
            go_wp2_with (first | (at_builtin; refine print_append_num (w0 := w) w.heap.size rfl (.tmp 45) (.tmp 47) 29 3 .i64 8 rfl Try.underlying29 info3 (by decide) _ (evAt Ej vj) (k : Int) rfl rfl ?aO ?aB ?aS ?aL ?_))
            case aO => exact HVAL.out
            case aB => exact HBj.out.below
            case aS => exact hbz
            case aL => omega
            intro v1 w3 ho3 hb3 hg3 hat3
            have hx := HXV.out
            subst hx
            have hput := HBj.out.put vj (k : Int) (by rw [List.length_append]; exact ho3) hg3 hat3
            have hup := run_update88 (HBj.out.mine.appended vj hg3) vj v1
            obtain ⟨X, hX⟩ : ∃ X : World, putObj w3 m2 (.map (entsI (putI G' vj v1)) (putI G' vj v1).length) = X := ⟨_, rfl⟩
            rw [hX] at hput hup
            have HPUT := Aside0.mk hput
            clear hput hX ho3 hb3 hg3 hat3 hlk
            go_wp2_with fail
            go_roundw
            case rel =>
              have h := HPUT.out
              rw [← HEJ.out, List.append_assoc] at h
              have h2 : (fc.take (j + 1)).map (·, (k : Int)) = (fc.take j).map (·, (k : Int)) ++ [(vj, (k : Int))] := by
                rw [HTK.out, List.map_append]
                rfl
              rw [← h2] at h
              exact ⟨j + 1, _, by omega, by go_num, ⟨h⟩⟩
            case measure => simp [intOf]; omega
          · go_wp2_with fail
            have HJ : Aside0 (j = fc.length) := ⟨by omega⟩
            go_roundw
            case rel =>
              refine ⟨k + 1, G', by omega, by go_num, ⟨fun f hf => ?_⟩, ⟨?_⟩⟩
              · rcases Nat.lt_or_ge f k with h | h
                · exact HA.out f h
                · obtain rfl : f = k := by omega
                  exact HAR.out
              · rw [HL1.out, HEV.out, HE0.out, HFCE.out]
                have h := HBj.out
                rw [HJ.out, List.take_length] at h
                exact h
            case measure => simp [intOf]; omega
    · obtain rfl : k = F.length := by omega
      have hkl := keys_len HB.out.mine.keys HB.out.mine.mem
      obtain ⟨kl, hkl2⟩ : ∃ kl : Nat, keysLen F = kl := ⟨_, rfl⟩
      have hlm : ∀ ty, (Builtin.len_ #[88] ty #[.map (some m2)]).run Try.prog wr = .ok (.int .i64 (kl : Int)) wr := fun ty => by
        rw [run_len_map wr 88 ty m2 _ _ Try.underlying88 HB.out.mine.map.at_]
        unfold goInt entsI
        rw [List.size_toArray, entsIFrom_len, hkl, ← hkl2]
        rfl
      have HKL := Aside0.mk hkl2
      have HADDS : Aside0 (addsOk verts F = true) := ⟨by
        unfold addsOk
        rw [List.all_eq_true]
        exact fun f hf => HA.out f (List.mem_range.1 hf)⟩
      clear hkl hkl2 HBW
      have hres := HB.out.res
      by_cases hv0 : verts < 0
      · have HBAD : Aside0 (surfOk verts F = false) := ⟨by
          unfold surfOk
          rw [decide_eq_false (by omega : ¬ 0 ≤ verts)]
          simp⟩
        go_wp2_with (first | (refine gate_ (.store 36 (.tmp 4) (.tmp 59)) rfl ?_; refine store_own (g := w.heap.size) (j := 0) 36 (.tmp 4) (.tmp 59) rfl rfl rfl (.agg #[.slice none 0 0, .slice none 0 0, .slice none 0 0]) [.slice none 0 0, .slice none 0 0, .slice none 0 0] rfl rfl rfl info36 (by decide) hres (by simp) ?_))
        intro w3 hg3 cur3 hb3 hl3 hs3
        obtain rfl : cur3 = #[.slice none 0 0, .slice none 0 0, .slice none 0 0] := by
          rw [← Array.toList_inj]
          simpa using hl3
        have HB3 : Aside0 (Below w.heap.size w w3) := ⟨HB.out.below.grown hg3 HB.out.below.size (fun k hk => by cases hk; omega)⟩
        have HM : Aside0 (topo_Build.f verts F = some ([], [], [], 14)) := ⟨by
          unfold topo_Build.f
          rw [HS.out, HBAD.out]
          rfl⟩
        clear hg3 hl3 hs3
        go_wp2_with fail
        refine bodyPost_ret (results_cell_tmp rfl _ _ w.heap.size 36 #[.slice none 0 0, .slice none 0 0, .slice none 0 0] (0, 0) _ rfl hb3 Try.underlying36 rfl info36) rfl ?_
        exact ⟨_, _, _, [], [], [], 14, HM.out, rfl, Kd.R_nil _ _ _ _ _, Kd.R_nil _ _ _ _ _, Kd.R_nil _ _ _ _ _, HB3.out⟩
      · by_cases hkv : (kl : Int) = verts
        · have HED := Aside0.mk (edges_calls wr sb m (alongF F F.length) HB.out.c1 HB.out.along (alongF_len HS.out _ (Nat.le_refl _)))
          have hkb : ((kl : Int) != verts) = false := by simp [hkv]
          have hkb2 : ((kl : Int) == verts) = true := by simp [hkv]
          clear hres
          go_wp2_with fail
          refine HED.out.mono ?_
          rintro e w2 ⟨v0, es, rfl, hes, hr2, hb2⟩
          have hes2 := edges_unique hes
          subst hes2
          obtain ⟨A3, c3, rfl⟩ := Kd.R_slice hr2
          have HB2 := Aside0.mk (HB.out.step hb2)
          have HR2 := Aside0.mk (Kd.R_lower hr2 HB.out.below.size)
          clear hes hr2 hb2 HED
          have HF2 := Aside0.mk HB2.out.below.size
          obtain ⟨ne, hne⟩ : ∃ ne, (edgesOf (alongF F F.length)).length = ne := ⟨_, rfl⟩
          rw [hne]
          have HNE := Aside0.mk hne
          have hnv : w.heap.size + 3 < w2.heap.size := by
            have h1 := lt_of_block HB2.out.mine.map.at_
            have h2 := HB2.out.em2
            omega
          obtain ⟨vn, rfl⟩ : ∃ vn : Nat, (vn : Int) = verts := ⟨verts.toNat, by omega⟩
          have HTW : Aside0 (TW w (w2.alloc (.cells #[.slice A3 ne c3, .slice none 0 0, .slice none 0 0] 36)) m sb m2 A F.length c (alongF F F.length) G (evsF F F.length) w2.heap.size (.slice A3 ne c3) (.slice none 0 0) (.slice none 0 0) (edgesOf (alongF F F.length)) [] []) := by
            have hb2a := HB2.out.step (below_alloc (Below.refl _ _) (.cells #[.slice A3 ne c3, .slice none 0 0, .slice none 0 0] 36))
            have hra := HNE.out ▸ Kd.R_alloc HR2.out (.cells #[.slice A3 ne c3, .slice none 0 0, .slice none 0 0] 36)
            exact ⟨TW.first hb2a hra (heap_alloc_new _ _) hnv⟩
          clear hne HB2 HR2
          have hvn : vn ≤ 1099511627776 := by
            have h1 := mineLen HS.out
            rw [HKL.out] at h1
            omega
          go_wp2_with fail
          obtain ⟨g12, hg12⟩ : ∃ g12, w2.heap.size = g12 := ⟨_, rfl⟩
          rw [hg12] at HTW hnv ⊢
          go_loopw [64] (fun v64 wr => ∃ (k : Nat) (v0 v1 v2 : Value), k ≤ vn ∧ v64 = .int .i64 k ∧ Aside0 (∀ f : Nat, f < k → fanOkAt F f = true) ∧
              Aside0 (TW w wr m sb m2 A F.length c (alongF F F.length) G (evsF F F.length) g12 v0 v1 v2 (edgesOf (alongF F F.length)) ((List.range k).map (fun v : Nat => fanAt F v)) ((List.range k).map (fun v : Nat => roundAt F v))))
            (fun v64 _ => vn - (intOf v64).toNat)
          case atStart => exact ⟨0, _, _, _, Nat.zero_le _, rfl, ⟨fun f hf => by omega⟩, HTW⟩
          case round =>
            obtain ⟨k, v0, v1, v2, hk, rfl, HA2, HT⟩ := hrel
            have hT0 : wr.cell? ⟨g12, 0, none⟩ = some v0 := by unfold World.cell?; rw [HT.out.at_]; rfl
            have hT1 : wr.cell? ⟨g12, 1, none⟩ = some v1 := by unfold World.cell?; rw [HT.out.at_]; rfl
            have hT2 : wr.cell? ⟨g12, 2, none⟩ = some v2 := by unfold World.cell?; rw [HT.out.at_]; rfl
            by_cases hlt : k < vn
            · have hlk := run_lookup88 HT.out.bw.mine.map (k : Int)
              have hown := HT.out.bw.mine.val (k : Int)
              obtain ⟨B, cb, hv, hcb, hCb⟩ := Kd.R_reads (Kd.R_of_own (enc := Value.int .i64) (h1 := fun _ => rfl) (ok := fun _ => True) (by unfold nums at hown; exact hown) (fun _ _ => trivial))
              rw [hv] at hlk
              have hmine : evAt (evsF F F.length) (k : Int) = mineOf F (k : Int) := rfl
              rw [hmine] at hlk hCb
              have HM := Aside0.mk (mine_ok HS.out (k : Int))
              by_cases hnil : mineOf F (k : Int) = []
              · have HBAD : Aside0 (surfOk (vn : Int) F = false) := ⟨by
                  have h1 : (List.range ((vn : Int).toNat)).all (fun v : Nat => fanOkAt F v) = false := range_all_false (i := k) (by omega) (by unfold fanOkAt fanOk; rw [hnil]; rfl)
                  unfold surfOk
                  rw [h1]
                  simp⟩
                rw [hnil] at hlk
                have HFN := Aside0.mk (fan_none wr (.pointer (some ⟨sb, 0, none⟩)) (.int .i64 (k : Int)) B cb)
                have hres := HT.out.bw.res
                clear hv hCb hmine hown hcb hnil HM
                go_wp2_with fail
                refine HFN.out.mono ?_
                rintro e w9 ⟨rfl, rfl⟩
                go_wp2_with (first | (refine gate_ (.store 36 (.tmp 4) (.tmp 79)) rfl ?_; refine store_own (g := w.heap.size) (j := 0) 36 (.tmp 4) (.tmp 79) rfl rfl rfl (.agg #[.slice none 0 0, .slice none 0 0, .slice none 0 0]) [.slice none 0 0, .slice none 0 0, .slice none 0 0] rfl rfl rfl info36 (by decide) hres (by simp) ?_))
                intro w3 hg3 cur3 hb3 hl3 hs3
                obtain rfl : cur3 = #[.slice none 0 0, .slice none 0 0, .slice none 0 0] := by
                  rw [← Array.toList_inj]
                  simpa using hl3
                have HB3 : Aside0 (Below w.heap.size w w3) := ⟨HT.out.bw.below.grown hg3 HT.out.bw.below.size (fun k hk => by cases hk; omega)⟩
                have HM : Aside0 (topo_Build.f (vn : Int) F = some ([], [], [], 14)) := ⟨by
                  unfold topo_Build.f
                  rw [HS.out, HBAD.out]
                  rfl⟩
                clear hg3 hl3 hs3
                go_wp2_with fail
                refine bodyPost_ret (results_cell_tmp rfl _ _ w.heap.size 36 #[.slice none 0 0, .slice none 0 0, .slice none 0 0] (0, 0) _ rfl hb3 Try.underlying36 rfl info36) rfl ?_
                exact ⟨_, _, _, [], [], [], 14, HM.out, rfl, Kd.R_nil _ _ _ _ _, Kd.R_nil _ _ _ _ _, Kd.R_nil _ _ _ _ _, HB3.out⟩
              · have HFC := Aside0.mk (fan_calls wr sb m A B c cb F (alongF F F.length) (k : Int) (mineOf F (k : Int)) HT.out.bw.c0 HT.out.bw.c1 HT.out.bw.along (Kd.C_below HF.out HT.out.bw.below) hCb HM.out hnil)
                have hfr : fanOkAt F k = fanOk (nextF (alongF F F.length) F (k : Int)) (prevF (alongF F F.length) F (k : Int)) (mineOf F (k : Int)) := rfl
                have hrr : roundAt F k = (pick (prevF (alongF F F.length) F (k : Int)) (mineOf F (k : Int)) ((mineOf F (k : Int)).headD 0)).2 := rfl
                have hff : fanAt F k = fanL (nextF (alongF F F.length) F (k : Int)) (prevF (alongF F F.length) F (k : Int)) (mineOf F (k : Int)) := rfl
                rw [← hfr, ← hrr, ← hff] at HFC
                obtain ⟨nm, hnm⟩ : ∃ nm, (mineOf F (k : Int)).length = nm := ⟨_, rfl⟩
                rw [hnm] at hlk HFC
                have hlk2 : (Instr.lookup 88 (.map (some m2)) (.int .i64 (k : Int)) false).run Try.prog wr = .ok (.slice B nm cb) wr := hlk
                have HTO := HT
                clear hv hCb hmine hown hcb hnil HM hfr hrr hff hnm hlk
                obtain ⟨fo, hfo⟩ : ∃ fo, fanOkAt F k = fo := ⟨_, rfl⟩
                obtain ⟨ro, hro⟩ : ∃ ro, roundAt F k = ro := ⟨_, rfl⟩
                rw [hfo, hro] at HFC
                have HFO := Aside0.mk hfo
                have HRO := Aside0.mk hro
                clear hfo hro
                cases fo with
                | false =>
                  have HBAD : Aside0 (surfOk (vn : Int) F = false) := ⟨by
                    have h1 : (List.range ((vn : Int).toNat)).all (fun v : Nat => fanOkAt F v) = false := range_all_false (i := k) (by omega) HFO.out
                    unfold surfOk
                    rw [h1]
                    simp⟩
                  go_wp2_with fail
                  refine HFC.out.mono ?_
                  rintro e w9 ⟨vf, rfl, hrf, hb9⟩
                  obtain ⟨Af, cf, rfl⟩ := Kd.R_slice hrf
                  have HT9 := Aside0.mk (HT.out.step hb9)
                  have hres := HT9.out.bw.res
                  clear hrf hb9
                  go_wp2_with (first | (refine gate_ (.store 36 (.tmp 4) (.tmp 79)) rfl ?_; refine store_own (g := w.heap.size) (j := 0) 36 (.tmp 4) (.tmp 79) rfl rfl rfl (.agg #[.slice none 0 0, .slice none 0 0, .slice none 0 0]) [.slice none 0 0, .slice none 0 0, .slice none 0 0] rfl rfl rfl info36 (by decide) hres (by simp) ?_))
                  intro w3 hg3 cur3 hb3 hl3 hs3
                  obtain rfl : cur3 = #[.slice none 0 0, .slice none 0 0, .slice none 0 0] := by
                    rw [← Array.toList_inj]
                    simpa using hl3
                  have HB3 : Aside0 (Below w.heap.size w w3) := ⟨HT9.out.bw.below.grown hg3 HT9.out.bw.below.size (fun k hk => by cases hk; omega)⟩
                  have HM : Aside0 (topo_Build.f (vn : Int) F = some ([], [], [], 14)) := ⟨by
                    unfold topo_Build.f
                    rw [HS.out, HBAD.out]
                    rfl⟩
                  clear hg3 hl3 hs3
                  go_wp2_with fail
                  refine bodyPost_ret (results_cell_tmp rfl _ _ w.heap.size 36 #[.slice none 0 0, .slice none 0 0, .slice none 0 0] (0, 0) _ rfl hb3 Try.underlying36 rfl info36) rfl ?_
                  exact ⟨_, _, _, [], [], [], 14, HM.out, rfl, Kd.R_nil _ _ _ _ _, Kd.R_nil _ _ _ _ _, Kd.R_nil _ _ _ _ _, HB3.out⟩
                | true =>
                  go_wp2_with fail
                  refine HFC.out.mono ?_
                  rintro e w9 ⟨vf, rfl, hrf, hb9⟩
                  obtain ⟨Af, cf, rfl⟩ := Kd.R_slice hrf
                  have HRF := Aside0.mk (Kd.R_lower (base' := w.heap.size + 4) hrf (by have h1 := lt_of_block HT.out.at_; have h2 := HT.out.far; omega))
                  have HT9 := Aside0.mk (HT.out.step hb9)
                  have hx0 := pw_cell_below hb9 hT0
                  have hx1 := pw_cell_below hb9 hT1
                  have hx2 := pw_cell_below hb9 hT2
                  obtain ⟨nf, hnf⟩ : ∃ nf, (fanAt F k).length = nf := ⟨_, rfl⟩
                  rw [hnf] at HRF ⊢
                  have hMk : (Kd.slice 3 (Kd.int .i64)).M w9 (w.heap.size + 4) (fun q => some q ≠ v1.ownBlock) (fanAt F k) [.slice Af nf cf] := ⟨_, rfl, Kd.R_mono (Kd.R_bound HRF.out) (fun q hq e => by
                    obtain ⟨_, _, _, q', hq', cells, hc⟩ := hq
                    obtain ⟨cells', hc'⟩ := Kd.R_typed HT9.out.r1 q e.symm
                    rw [hc] at hc'
                    injection hc' with hc'
                    injection hc' with _ ht'
                    have h1 : q' = 3 := by simpa [Kd.int, Kd.scalar] using hq'
                    rw [h1] at ht'
                    exact absurd ht' (by decide))⟩
                  have HMK := Aside0.mk hMk
                  have hfs : ((List.range k).map (fun v : Nat => fanAt F v)).length = k := by simp
                  have hrs : ((List.range k).map (fun v : Nat => roundAt F v)).length = k := by simp
                  have hz9 : w.heap.size + 4 ≤ w9.heap.size := by have h1 := lt_of_block HT9.out.at_; have h2 := HT9.out.far; omega
                  have HSF : Aside0 ((List.range (k + 1)).map (fun v : Nat => fanAt F v) = (List.range k).map (fun v : Nat => fanAt F v) ++ [fanAt F k]) := ⟨by rw [List.range_succ, List.map_append]; rfl⟩
                  have HSR : Aside0 ((List.range (k + 1)).map (fun v : Nat => roundAt F v) = (List.range k).map (fun v : Nat => roundAt F v) ++ [ro]) := ⟨by rw [List.range_succ, List.map_append, ← HRO.out]; rfl⟩
                  have HA3 : Aside0 (∀ f : Nat, f < k + 1 → fanOkAt F f = true) := ⟨fun f hf => by
                    rcases Nat.lt_or_ge f k with h | h
                    · exact HA2.out f h
                    · obtain rfl : f = k := by omega
                      exact HFO.out⟩
                  generalize (List.range k).map (fun v : Nat => fanAt F v) = fs at *
                  generalize (List.range k).map (fun v : Nat => roundAt F v) = rs at *
                  generalize fanAt F k = fv at *
                  clear hrf hb9 hT0 hT1 hT2 HTO HFC hMk hnf HT
                  go_wp2_with (first | (at_builtin; refine Kd.R_append (Kd.slice 3 (Kd.int .i64)) (w0 := w9) (w.heap.size + 4) rfl (.tmp 81) (.tmp 83) 23 29 (.slice none 0 0) 24 rfl Try.underlying23 infoB29 rfl (by decide) (by omega) v1 fs fv [.slice Af nf cf] (fun _ => True) (fun q => some q ≠ v1.ownBlock) rfl rfl HMK.out (fun _ hk => ⟨trivial, hk⟩) (fun _ _ => trivial) HT9.out.r1 (Below.refl _ _) hz9 (by rw [hfs]; omega) ?_))
                  intro v1' w10 hr10 hb10 hg10 hat10
                  have hne10 : some g12 ≠ v1.ownBlock := Kd.R_ne HT9.out.r1 HT9.out.at_ (by decide)
                  have hb12 : w10.heap[g12]? = some (.cells #[v0, v1, v2] 36 (0, 0)) := (hg10.block _ (lt_of_block HT9.out.at_) hne10).trans HT9.out.at_
                  obtain ⟨hvc, hvo⟩ := Kd.R_val hr10
                  have HVO : Aside0 (∀ q ∈ [v1'], q.oneCell' = true) := ⟨fun q hq => by rw [List.mem_singleton.1 hq]; exact hvo⟩
                  have HVC := Aside0.mk hvc
                  have HR10 := Aside0.mk hr10
                  have HG10 := Aside0.mk hg10
                  clear hr10 hb10 hg10 hat10 hvc hvo hne10 hx0 hx1 hx2
                  go_wp2_with (first | (refine gate_ (.store 23 (.tmp 85) (.tmp 84)) rfl ?_; refine store_own (g := g12) (j := 1) 23 (.tmp 85) (.tmp 84) rfl rfl rfl v1' [v1'] rfl rfl HVC.out infoS23 HVO.out hb12 (by simp) ?_))
                  intro w11 hg11 cur11 hb11 hl11 hs11
                  obtain rfl : cur11 = #[v0, v1', v2] := by
                    rw [← Array.toList_inj]
                    simpa using hl11
                  have HT11 := Aside0.mk (HT9.out.fan HR10.out HG10.out hg11 hb11)
                  have hz11 : w.heap.size + 4 ≤ w11.heap.size := by have h1 := lt_of_block HT11.out.at_; have h2 := HT11.out.far; omega
                  have hx2 : w11.cell? ⟨g12, 2, none⟩ = some v2 := by unfold World.cell?; rw [hb11]; rfl
                  clear hg11 hl11 hs11 hb11 hb12 HVC HVO HR10 HG10
                  go_wp2_with (first | (at_builtin; refine Kd.R_append Kd.bool (w0 := w11) (w.heap.size + 4) rfl (.tmp 87) (.tmp 89) 34 4 (.bool false) 1 rfl Try.underlying34 infoB4 rfl (by decide) (by omega) v2 rs ro [.bool ro] (fun _ => True) (fun _ => False) rfl rfl rfl (fun _ hk => hk.elim) (fun _ _ => trivial) HT11.out.r2 (Below.refl _ _) hz11 (by rw [hrs]; omega) ?_))
                  intro v2' w12 hr12 hb12 hg12' hat12
                  have hne12 : some g12 ≠ v2.ownBlock := Kd.R_ne HT11.out.r2 HT11.out.at_ (by decide)
                  have hbb : w12.heap[g12]? = some (.cells #[v0, v1', v2] 36 (0, 0)) := (hg12'.block _ (lt_of_block HT11.out.at_) hne12).trans HT11.out.at_
                  obtain ⟨hvc, hvo⟩ := Kd.R_val hr12
                  have HVO : Aside0 (∀ q ∈ [v2'], q.oneCell' = true) := ⟨fun q hq => by rw [List.mem_singleton.1 hq]; exact hvo⟩
                  have HVC := Aside0.mk hvc
                  have HR12 := Aside0.mk hr12
                  have HG12 := Aside0.mk hg12'
                  clear hr12 hb12 hg12' hat12 hvc hvo hne12 hx2
                  go_wp2_with (first | (refine gate_ (.store 34 (.tmp 91) (.tmp 90)) rfl ?_; refine store_own (g := g12) (j := 2) 34 (.tmp 91) (.tmp 90) rfl rfl rfl v2' [v2'] rfl rfl HVC.out infoS34 HVO.out hbb (by simp) ?_))
                  intro w13 hg13 cur13 hb13 hl13 hs13
                  obtain rfl : cur13 = #[v0, v1', v2'] := by
                    rw [← Array.toList_inj]
                    simpa using hl13
                  have HT13 := Aside0.mk (HT11.out.round HR12.out HG12.out hg13 hb13)
                  clear hg13 hl13 hs13 hb13 hbb HVC HVO HR12 HG12
                  go_wp2_with fail
                  go_roundw
                  case rel => exact ⟨k + 1, v0, v1', v2', by omega, by go_num, HA3, ⟨by rw [HSF.out, HSR.out]; exact HT13.out⟩⟩
                  case measure => simp [intOf]; omega
            · obtain rfl : k = vn := by omega
              have hres := HT.out.bw.res
              have HV0 := Aside0.mk (Kd.R_val HT.out.r0)
              have HV1 := Aside0.mk (Kd.R_val HT.out.r1)
              have HV2 := Aside0.mk (Kd.R_val HT.out.r2)
              have hcl : (Value.agg #[v0, v1, v2]).cells.toList = [v0, v1, v2] := by
                rfl
              have HCL := Aside0.mk hcl
              have hone : ∀ q ∈ [v0, v1, v2], q.oneCell' = true := by
                intro q hq
                simp only [List.mem_cons, List.not_mem_nil, or_false] at hq
                rcases hq with rfl | rfl | rfl
                · exact HV0.out.2
                · exact HV1.out.2
                · exact HV2.out.2
              have HONE := Aside0.mk hone
              have HSURF : Aside0 (surfOk (k : Int) F = true) := ⟨by
                unfold surfOk
                rw [HADDS.out, HKL.out, decide_eq_true (by omega : (0 : Int) ≤ k), decide_eq_true hkv]
                simp only [Bool.true_and]
                rw [List.all_eq_true]
                exact fun f hf => HA2.out f (by have := List.mem_range.1 hf; omega)⟩
              clear hcl hone
              go_wp2_with (first | (refine gate_ (.store 36 (.tmp 4) (.tmp 93)) rfl ?_; refine store_own (g := w.heap.size) (j := 0) 36 (.tmp 4) (.tmp 93) rfl rfl rfl (.agg #[v0, v1, v2]) [v0, v1, v2] rfl rfl HCL.out info36 HONE.out hres (by simp) ?_))
              intro w3 hg3 cur3 hb3 hl3 hs3
              obtain rfl : cur3 = #[v0, v1, v2] := by
                rw [← Array.toList_inj]
                simpa using hl3
              have HL := Aside0.mk (HT.out.last hg3)
              have HM : Aside0 (topo_Build.f (k : Int) F = some (edgesOf (alongF F F.length), (List.range k).map (fun v : Nat => fanAt F v), (List.range k).map (fun v : Nat => roundAt F v), 0)) := ⟨by
                unfold topo_Build.f
                rw [HS.out, HSURF.out]
                rfl⟩
              clear hg3 hl3 hs3
              go_wp2_with fail
              refine bodyPost_ret (results_cell_tmp rfl _ _ w.heap.size 36 #[v0, v1, v2] (0, 0) _ rfl hb3 Try.underlying36 rfl info36) rfl ?_
              exact ⟨_, _, _, _, _, _, 0, HM.out, rfl, HL.out.1, HL.out.2.1, HL.out.2.2.1, HL.out.2.2.2⟩
        · have HBAD : Aside0 (surfOk verts F = false) := ⟨by
            unfold surfOk
            rw [HKL.out, decide_eq_false hkv]
            simp⟩
          have hkb : ((kl : Int) != verts) = true := by simp [hkv]
          have hkb2 : ((kl : Int) == verts) = false := by simp [hkv]
          go_wp2_with (first | (refine gate_ (.store 36 (.tmp 4) (.tmp 59)) rfl ?_; refine store_own (g := w.heap.size) (j := 0) 36 (.tmp 4) (.tmp 59) rfl rfl rfl (.agg #[.slice none 0 0, .slice none 0 0, .slice none 0 0]) [.slice none 0 0, .slice none 0 0, .slice none 0 0] rfl rfl rfl info36 (by decide) hres (by simp) ?_))
          intro w3 hg3 cur3 hb3 hl3 hs3
          obtain rfl : cur3 = #[.slice none 0 0, .slice none 0 0, .slice none 0 0] := by
            rw [← Array.toList_inj]
            simpa using hl3
          have HB3 : Aside0 (Below w.heap.size w w3) := ⟨HB.out.below.grown hg3 HB.out.below.size (fun k hk => by cases hk; omega)⟩
          have HM : Aside0 (topo_Build.f verts F = some ([], [], [], 14)) := ⟨by
            unfold topo_Build.f
            rw [HS.out, HBAD.out]
            rfl⟩
          clear hg3 hl3 hs3
          go_wp2_with fail
          refine bodyPost_ret (results_cell_tmp rfl _ _ w.heap.size 36 #[.slice none 0 0, .slice none 0 0, .slice none 0 0] (0, 0) _ rfl hb3 Try.underlying36 rfl info36) rfl ?_
          exact ⟨_, _, _, [], [], [], 14, HM.out, rfl, Kd.R_nil _ _ _ _ _, Kd.R_nil _ _ _ _ _, Kd.R_nil _ _ _ _ _, HB3.out⟩
end Go.Proofs.Ytnjdjfengoaleaa.MSub
