/- Texts of this claim, merged by a program of this session; what the claim does not use is left out. -/
import Derived.Test.YtnjdjfengoaleaaQg
import Derived.Test.YtnjdjfengoaleaaQh
import Derived.Test.YtnjdjfengoaleaaQi
namespace Go.Proofs.Ytnjdjfengoaleaa.MSub
open Go.RowKit Go.Proofs.YtnjdjfengoaleaaW.PrintWords Go.Proofs.YtnjdjfengoaleaaW.PrintLast Go.Proofs.YtnjdjfengoaleaaW.PrintMore
open Go.Proofs.Ytnjdjfengoaleaa.Relv
set_option linter.unusedVariables false
set_option linter.unusedSimpArgs false
def starsTo (n : Nat) (ES : List S47) (k : Nat) : List (List Int) :=
  (List.range n).map fun v : Nat => (List.range k).filterMap fun i : Nat => if (rd_T47 ES i).f0 = v ∨ (rd_T47 ES i).f1 = v then some (i : Int) else none
def finOf (V : List S42) (F : List (List Int)) (X : List S53) (ES : List S47) (FN : List (List Int)) (RD : List Bool) (SH : List Int) : Fin_ where
  V := V
  F := F
  X := X
  ES := ES
  FN := FN
  RD := RD
  SH := SH
  EV := starsTo V.length ES ES.length
  FV := F.map (facePt V)
  A0 := none
  A1 := none
  A2 := none
  A3 := none
  A4 := none
  A5 := none
  A6 := none
  A7 := none
  A8 := none
  c0 := 0
  c1 := 0
  c2 := 0
  c3 := 0
  c4 := 0
  c5 := 0
  c6 := 0
  c7 := 0
  c8 := 0
def levelV (D : Fin_) : List S42 := (List.range D.V.length).map (fun v : Nat => vertexPt D v) ++ (List.range D.ES.length).map (fun i : Nat => edgePt D.V D.FV (rd_T47 D.ES i) (rd D.SH i)) ++ D.FV
def levelX (D : Fin_) : List S53 := (List.range D.ES.length).flatMap (fun i : Nat => creasesOf D.V.length (rd_T47 D.ES i) (rd D.SH i) i)
def levelF (D : Fin_) : List (List Int) := (List.range D.F.length).flatMap (fun k : Nat => partsOf D.V.length D.ES.length k D.ES (fcAt D.F k))
def sub_Level.f (V : List S42) (F : List (List Int)) (X : List S53) : Option (List S42 × List (List Int) × List S53 × Int) :=
  if small F && decide (V.length ≤ 1048576) then
    match topo_Build.f V.length F with
    | some (ES, FN, RD, e) =>
      if e = 0 then
        match sharpM ES X with
        | some SH => if V.any (fun p => !nearP p) then some ([], [], [], 21) else some (levelV (finOf V F X ES FN RD SH), levelF (finOf V F X ES FN RD SH), levelX (finOf V F X ES FN RD SH), 0)
        | none => some ([], [], [], 14)
      else some ([], [], [], e)
    | none => none
  else none
end Go.Proofs.Ytnjdjfengoaleaa.MSub
namespace Go.Proofs.Ytnjdjfengoaleaa.MSub
open Go.RowKit Go.Proofs.YtnjdjfengoaleaaW.PrintWords Go.Proofs.YtnjdjfengoaleaaW.PrintLast Go.Proofs.YtnjdjfengoaleaaW.PrintMore
open Go.Proofs.Ytnjdjfengoaleaa.Relv
set_option linter.unusedVariables false
set_option linter.unusedSimpArgs false
structure FaceOk (n : Int) (fc : List Int) : Prop where
  three : 3 ≤ fc.length
  lo : ∀ v ∈ fc, 0 ≤ v
  hi : ∀ v ∈ fc, v < n
  nd : fc.Nodup
theorem nodup_take {l : List Int} (h : ∀ i, i < l.length → rd l i ∉ l.take i) : l.Nodup := by
  rw [List.nodup_iff_pairwise_ne, List.pairwise_iff_getElem]
  intro i j hi hj hij he
  apply h j hj
  have e1 : rd l (j : Int) = l[i] := by
    rw [he]
    simp [rd, List.getD_eq_getElem?_getD, hj]
  rw [e1, List.mem_take_iff_getElem]
  exact ⟨i, by omega, rfl⟩
theorem faceOk_of {n : Int} {L : List WF} {fc : List Int} {f : Int} (h : addOk n L fc f = true) : FaceOk n fc := by
  unfold addOk cornsOk at h
  simp only [Bool.and_eq_true, decide_eq_true_eq, List.all_eq_true, List.mem_range] at h
  obtain ⟨⟨h1, h2⟩, _⟩ := h
  have hc : ∀ i, i < fc.length → 0 ≤ rd fc i ∧ rd fc i < n ∧ rd fc i ∉ fc.take i := fun i hi => by
    have := h2 i hi
    unfold cornOk at this
    simp only [Bool.and_eq_true, decide_eq_true_eq, Bool.not_eq_true', decide_eq_false_iff_not] at this
    exact ⟨this.1.1, this.1.2, this.2⟩
  refine ⟨h1, fun v hv => ?_, fun v hv => ?_, nodup_take (fun i hi => (hc i hi).2.2)⟩
  · obtain ⟨i, hi, rfl⟩ := List.getElem_of_mem hv
    have := (hc i hi).1
    simpa [rd, List.getD_eq_getElem?_getD, hi] using this
  · obtain ⟨i, hi, rfl⟩ := List.getElem_of_mem hv
    have := (hc i hi).2.1
    simpa [rd, List.getD_eq_getElem?_getD, hi] using this
theorem facesOk {n : Int} {F : List (List Int)} (h : surfOk n F = true) (k : Nat) (hk : k < F.length) : FaceOk n (fcAt F k) := by
  unfold surfOk addsOk at h
  simp only [Bool.and_eq_true, List.all_eq_true, List.mem_range] at h
  exact faceOk_of (h.1.1.1 k hk)
theorem sorted_edgesOf (L : List WF) : Sorted47 (edgesOf L) := by
  have := List.pairwise_mergeSort (le := leE) (fun a b c h1 h2 => by
    unfold leE at *
    rw [decide_eq_true_iff] at *
    unfold ltE at *
    omega) (fun a b => by
    unfold leE
    by_cases h1 : ltE b a
    · by_cases h2 : ltE a b
      · unfold ltE at h1 h2; omega
      · simp [h1, h2]
    · simp [h1]) ((List.range L.length).filterMap (edgeAt L))
  exact this.imp (fun h => by unfold leE at h; simpa using h)
theorem way_ok {n : Int} {fc : List Int} (h : FaceOk n fc) {k : S115} (hk : k ∈ waysS fc) : 0 ≤ k.f0 ∧ k.f0 < n ∧ 0 ≤ k.f1 ∧ k.f1 < n ∧ k.f0 ≠ k.f1 := by
  obtain ⟨i, hi, rfl⟩ := List.mem_map.1 hk
  have hi := List.mem_range.1 hi
  have h3 := h.three
  have hj : (i + 1) % fc.length < fc.length := Nat.mod_lt _ (by omega)
  have m1 := rd_mem hi
  have m2 := rd_mem hj
  refine ⟨h.lo _ m1, h.hi _ m1, h.lo _ m2, h.hi _ m2, fun e => ?_⟩
  have e1 : rd fc (i : Int) = fc[i] := by simp [rd, List.getD_eq_getElem?_getD, hi]
  have e2 : rd fc (((i + 1) % fc.length : Nat) : Int) = fc[(i + 1) % fc.length] := by
    unfold rd
    rw [Int.toNat_natCast, List.getD_eq_getElem?_getD, List.getElem?_eq_getElem hj]
    rfl
  have hne : i ≠ (i + 1) % fc.length := by
    rcases Nat.lt_or_ge (i + 1) fc.length with h | h
    · rw [Nat.mod_eq_of_lt h]; omega
    · have : i + 1 = fc.length := by omega
      rw [this, Nat.mod_self]
      omega
  have e' : rd fc (i : Int) = rd fc (((i + 1) % fc.length : Nat) : Int) := e
  rw [e1, e2] at e'
  exact hne ((List.getElem_inj h.nd).1 e')
structure EdgeOk (n m : Int) (e : S47) : Prop where
  lo : 0 ≤ e.f0
  lt : e.f0 < e.f1
  hi : e.f1 < n
  f2 : -1 ≤ e.f2 ∧ e.f2 < m
  f3 : -1 ≤ e.f3 ∧ e.f3 < m
theorem look_in {F : List (List Int)} {k : Nat} {w : S115} {f : Int} (h : look (alongF F k) w = some f) : 0 ≤ f ∧ f < k := by
  obtain ⟨g, hg, rfl, _⟩ := mem_alongF (look_mem h)
  omega
theorem faceOf_in {F : List (List Int)} (a b : Int) : -1 ≤ faceOf (alongF F F.length) a b ∧ faceOf (alongF F F.length) a b < max 0 F.length := by
  unfold faceOf
  cases h : look (alongF F F.length) ⟨a, b⟩ with
  | none => simp; omega
  | some f => have := look_in h; simp; omega
theorem edge_ok {n : Int} {F : List (List Int)} (h : surfOk n F = true) {e : S47} (he : e ∈ edgesOf (alongF F F.length)) : EdgeOk n F.length e := by
  have he' := ((List.mergeSort_perm _ _).mem_iff).1 he
  obtain ⟨i, _, hi⟩ := List.mem_filterMap.1 he'
  unfold edgeAt at hi
  split at hi
  · rename_i p hp
    split at hi
    · cases hi
      obtain ⟨g, hg, hf, hw⟩ := mem_alongF (k := p.1) (f := p.2) (List.mem_of_getElem? hp)
      obtain ⟨h1, h2, h3, h4, h5⟩ := way_ok (facesOk h g hg) hw
      have hF : (0 : Int) < F.length := by omega
      refine ⟨?_, ?_, ?_, ?_, ?_⟩
      · simp only [edgeOf]; unfold mn; omega
      · simp only [edgeOf]; unfold mn mx; omega
      · simp only [edgeOf]; unfold mx; omega
      · have := faceOf_in (F := F) (mn p.1.f0 p.1.f1) (mx p.1.f0 p.1.f1); simp only [edgeOf]; omega
      · have := faceOf_in (F := F) (mx p.1.f0 p.1.f1) (mn p.1.f0 p.1.f1); simp only [edgeOf]; omega
    · cases hi
  · cases hi
theorem fan_mem_ok {n : Int} {F : List (List Int)} (hs : small F = true) (v : Int) (hne : mineOf F v ≠ []) : ∀ g ∈ fanAt F v, 0 ≤ g ∧ g < F.length := by
  intro g hg
  have hm : g ∈ mineOf F v := walk_mem (fun x hx y hy => by
    have := (mine_ok hs v).next x hx y hy
    exact this) _ _ (pick_mem hne) g hg
  obtain ⟨k, hk, rfl, _⟩ := mem_mineOf.1 hm
  omega
end Go.Proofs.Ytnjdjfengoaleaa.MSub
namespace Go.Proofs.Ytnjdjfengoaleaa.MSub
open Go.RowKit Go.Proofs.YtnjdjfengoaleaaW.PrintWords Go.Proofs.YtnjdjfengoaleaaW.PrintLast Go.Proofs.YtnjdjfengoaleaaW.PrintMore
open Go.Proofs.Ytnjdjfengoaleaa.Relv
set_option linter.unusedVariables false
set_option linter.unusedSimpArgs false
theorem evAt_append (E E' : List (Int × Int)) (v : Int) : evAt (E ++ E') v = evAt E v ++ evAt E' v := by simp [evAt]
theorem evAt_face (fc : List Int) (f v : Int) (h : fc.Nodup) : (evAt (fc.map (·, f)) v).length ≤ 1 := by
  unfold evAt
  rw [List.length_map]
  induction fc with
  | nil => simp
  | cons a l ih =>
    obtain ⟨h1, h2⟩ := List.nodup_cons.1 h
    rw [List.map_cons, List.filter_cons]
    by_cases ha : a = v
    · subst ha
      have h0 : (l.map (·, f)).filter (fun p => p.1 == a) = [] := by
        rw [List.filter_eq_nil_iff]
        intro p hp
        obtain ⟨b, hb, rfl⟩ := List.mem_map.1 hp
        simp only [beq_iff_eq]
        exact fun e => h1 (e ▸ hb)
      simp [h0]
    · have : ((a, f).1 == v) = false := by simpa using ha
      rw [this]
      simpa using ih h2
theorem mine_len {n : Int} {F : List (List Int)} (h : surfOk n F = true) (v : Int) : (mineOf F v).length ≤ F.length := by
  have key : ∀ k, k ≤ F.length → (evAt (evsF F k) v).length ≤ k := by
    intro k
    induction k with
    | zero => intro _; simp [evsF, evAt]
    | succ k ih =>
      intro hk
      rw [evsF_succ, evAt_append, List.length_append]
      have h1 := ih (by omega)
      have h2 := evAt_face (fcAt F k) k v (facesOk h k (by omega)).nd
      omega
  exact key _ (Nat.le_refl _)
theorem fan_ok_at {n : Int} {F : List (List Int)} (h : surfOk n F = true) (v : Nat) (hv : (v : Int) < n) : fanOkAt F v = true := by
  unfold surfOk at h
  simp only [Bool.and_eq_true, decide_eq_true_eq, List.all_eq_true, List.mem_range] at h
  exact h.2 v (by omega)
theorem mine_ne {F : List (List Int)} {v : Int} (h : fanOkAt F v = true) : mineOf F v ≠ [] := fun e => by
  unfold fanOkAt fanOk at h
  rw [e] at h
  simp at h
theorem fan_len {F : List (List Int)} {v : Int} (h : fanOkAt F v = true) : (fanAt F v).length = (mineOf F v).length := by
  unfold fanOkAt fanOk at h
  simp only [Bool.and_eq_true, beq_iff_eq] at h
  exact h.2
theorem sharpX_len {ES : List S47} : ∀ (X : List S53) (l r : List Int), sharpX ES l X = some r → r.length = l.length
  | [], l, r, h => by cases h; rfl
  | x :: X, l, r, h => by
    unfold sharpX at h
    split at h
    · have := sharpX_len X _ r h
      rw [this, List.length_set]
    · cases h
theorem sharpM_len {ES : List S47} {X : List S53} {r : List Int} (h : sharpM ES X = some r) : r.length = ES.length := by
  rw [sharpX_len _ _ _ h, markTo_len]
theorem star_at {n : Nat} {ES : List S47} {k v : Nat} (hv : v < n) : fcAt (starsTo n ES k) v = (List.range k).filterMap fun i : Nat => if (rd_T47 ES i).f0 = v ∨ (rd_T47 ES i).f1 = v then some (i : Int) else none := by
  unfold fcAt starsTo
  simp [List.getD_eq_getElem?_getD, hv]
theorem mem_star {n : Nat} {ES : List S47} {k v : Nat} (hv : v < n) {i : Int} (h : i ∈ fcAt (starsTo n ES k) v) : ∃ j : Nat, j < k ∧ i = (j : Int) ∧ ((rd_T47 ES j).f0 = v ∨ (rd_T47 ES j).f1 = v) := by
  rw [star_at hv] at h
  obtain ⟨j, hj, he⟩ := List.mem_filterMap.1 h
  split at he
  · rename_i hc
    cases he
    exact ⟨j, List.mem_range.1 hj, rfl, hc⟩
  · cases he
theorem rd_set (l : List Int) (m i : Nat) (x : Int) (hm : m < l.length) : rd (l.set m x) (i : Int) = if m = i then x else rd l (i : Int) := by
  unfold rd
  rw [Int.toNat_natCast, List.getD_eq_getElem?_getD, List.getD_eq_getElem?_getD, List.getElem?_set]
  by_cases h : m = i
  · subst h
    rw [if_pos rfl, if_pos rfl, if_pos hm]
    rfl
  · rw [if_neg h, if_neg h]
theorem sharpX_ge {ES : List S47} : ∀ (X : List S53) (l r : List Int), l.length = ES.length → sharpX ES l X = some r → ∀ i : Nat, rd l (i : Int) ≤ rd r (i : Int)
  | [], l, r, hl, h => by cases h; exact fun i => Int.le_refl _
  | x :: X, l, r, hl, h => by
    unfold sharpX at h
    split at h
    · rename_i hf
      obtain ⟨h0, h1⟩ := found_lt hf
      have hq : (findE ES x.f0 x.f1).1.toNat < l.length := by omega
      have ih := sharpX_ge X _ r (by rw [List.length_set]; exact hl) h
      intro i
      refine Int.le_trans ?_ (ih i)
      rw [rd_set _ _ _ _ hq]
      split
      · rename_i e
        have : (findE ES x.f0 x.f1).1 = (i : Int) := by omega
        rw [this]
        unfold mx
        omega
      · exact Int.le_refl _
    · cases h
theorem mark_at {ES : List S47} {i : Nat} (hi : i < ES.length) : rd (markTo ES ES.length) (i : Int) = if edgedM (rd_T47 ES i) = true then 255 else 0 := by
  unfold markTo rd
  rw [Int.toNat_natCast, List.getD_eq_getElem?_getD, List.getElem?_map, List.getElem?_range hi]
  simp [hi]
theorem sharp_soft {ES : List S47} {X : List S53} {SH : List Int} (h : sharpM ES X = some SH) {i : Nat} (hi : i < ES.length) (hz : rd SH (i : Int) = 0) : 0 ≤ (rd_T47 ES i).f2 ∧ 0 ≤ (rd_T47 ES i).f3 := by
  have h1 := sharpX_ge X _ _ (markTo_len ES ES.length) h i
  rw [mark_at hi, hz] at h1
  have he : ¬ edgedM (rd_T47 ES i) = true := fun e => by rw [if_pos e] at h1; omega
  unfold edgedM at he
  rw [decide_eq_true_iff] at he
  unfold mn at he
  omega
end Go.Proofs.Ytnjdjfengoaleaa.MSub
namespace Go.Proofs.Ytnjdjfengoaleaa.MSub
open Go.RowKit Go.Proofs.YtnjdjfengoaleaaW.PrintWords Go.Proofs.YtnjdjfengoaleaaW.PrintLast Go.Proofs.YtnjdjfengoaleaaW.PrintMore
open Go.Proofs.Ytnjdjfengoaleaa.Relv
set_option linter.unusedVariables false
set_option linter.unusedSimpArgs false
structure Built (D : Fin_) (F : List (List Int)) : Prop where
  small : small F = true
  surf : surfOk D.V.length F = true
  nV : D.V.length ≤ 1048576
  es : D.ES = edgesOf (alongF F F.length)
  fn : D.FN = (List.range D.V.length).map (fun v : Nat => fanAt F v)
  sh : ∃ X, sharpM D.ES X = some D.SH
  ev : D.EV = starsTo D.V.length D.ES D.ES.length
  fv : D.FV.length = F.length
theorem rd_edge {D : Fin_} {F : List (List Int)} (h : Built D F) {j : Nat} (hj : j < D.ES.length) : EdgeOk D.V.length F.length (rd_T47 D.ES j) := by
  have : rd_T47 D.ES (j : Int) = D.ES[j] := by simp [rd_T47, List.getD_eq_getElem?_getD, hj]
  rw [this]
  exact edge_ok h.surf (by rw [← h.es]; exact List.getElem_mem hj)
theorem edges_len {F : List (List Int)} (hs : small F = true) : (edgesOf (alongF F F.length)).length ≤ 1099511627776 := by
  have h1 : (edgesOf (alongF F F.length)).length = ((List.range (alongF F F.length).length).filterMap (edgeAt (alongF F F.length))).length := (List.mergeSort_perm _ _).length_eq
  have h2 := List.length_filterMap_le (edgeAt (alongF F F.length)) (List.range (alongF F F.length).length)
  rw [List.length_range] at h2
  have h3 := alongF_len hs _ (Nat.le_refl F.length)
  omega
theorem vtx_ok {D : Fin_} {F : List (List Int)} (h : Built D F) (v : Nat) (hv : v < D.V.length) : VtxOk D v := by
  obtain ⟨X, hX⟩ := h.sh
  have hsl := sharpM_len hX
  have hev : fcAt D.EV (v : Int) = fcAt (starsTo D.V.length D.ES D.ES.length) (v : Int) := by rw [h.ev]
  have hfn : fcAt D.FN (v : Int) = fanAt F v := by
    rw [h.fn]
    unfold fcAt
    simp [List.getD_eq_getElem?_getD, hv]
  have hok := fan_ok_at h.surf v (by omega)
  have hml := mine_len h.surf v
  have hFl := small_len h.small
  refine ⟨by omega, by omega, ?_, ?_, ?_, ?_, ?_, ?_, ?_⟩
  · rw [h.ev]; simp [starsTo]; omega
  · rw [h.fn]; simp; omega
  · rw [hfn, fan_len hok]; omega
  · rw [hev, star_at hv]
    have h1 := List.length_filterMap_le (fun i : Nat => if (rd_T47 D.ES i).f0 = v ∨ (rd_T47 D.ES i).f1 = v then some (i : Int) else none) (List.range D.ES.length)
    rw [List.length_range] at h1
    have h2 := edges_len h.small
    rw [← h.es] at h2
    omega
  · have := h.nV; omega
  · intro i hi
    rw [hev] at hi
    obtain ⟨j, hj, rfl, hc⟩ := mem_star hv hi
    have he := rd_edge h hj
    have h1 := he.lo
    have h2 := he.lt
    have h3 := he.hi
    refine ⟨by omega, by omega, by omega, ?_, ?_⟩ <;> omega
  · intro g hg
    rw [hfn] at hg
    have := fan_mem_ok (n := D.V.length) h.small v (mine_ne hok) g hg
    rw [h.fv]
    exact this
end Go.Proofs.Ytnjdjfengoaleaa.MSub
namespace Go.Proofs.Ytnjdjfengoaleaa.MSub
open Go.RowKit Go.Proofs.YtnjdjfengoaleaaW.PrintWords Go.Proofs.YtnjdjfengoaleaaW.PrintLast Go.Proofs.YtnjdjfengoaleaaW.PrintMore
open Go.Proofs.Ytnjdjfengoaleaa.Relv
set_option linter.unusedVariables false
set_option linter.unusedSimpArgs false
instance : DecidableEq S115 := fun a b => decidable_of_iff (a.f0 = b.f0 ∧ a.f1 = b.f1) ⟨fun h => by cases a; cases b; simp at h; simp [h], fun h => by subst h; exact ⟨rfl, rfl⟩⟩
def revK (k : S115) : S115 := ⟨k.f1, k.f0⟩
theorem revK_revK (k : S115) : revK (revK k) = k := rfl
theorem look_none {L : List WF} {k : S115} : look L k = none ↔ k ∉ L.map (·.1) := by
  unfold look
  rw [Option.map_eq_none_iff, List.find?_eq_none]
  constructor
  · intro h hk
    obtain ⟨p, hp, rfl⟩ := List.mem_map.1 hk
    exact h p hp (same115_iff.2 rfl)
  · intro h p hp he
    exact h (List.mem_map.2 ⟨p, hp, (same115_iff.1 he).symm⟩)
theorem keys_snoc (L : List WF) (ks : List S115) (f : Int) : (L ++ ks.map (·, f)).map (·.1) = L.map (·.1) ++ ks := by
  rw [List.map_append, List.map_map]
  congr 1
  exact List.map_id ks
theorem waysOk_iff (f : Int) : ∀ (ks : List S115) (L : List WF), (L.map (·.1)).Nodup → (waysOk_ f L ks = true ↔ (L.map (·.1) ++ ks).Nodup)
  | [], L, hn => by simp [waysOk_, hn]
  | k :: ks, L, hn => by
    unfold waysOk_
    rw [Bool.and_eq_true, Option.isNone_iff_eq_none, look_none]
    have hk : (L ++ [(k, f)]).map (·.1) = L.map (·.1) ++ [k] := by simp
    constructor
    · rintro ⟨h1, h2⟩
      have hn' : ((L ++ [(k, f)]).map (·.1)).Nodup := by
        rw [hk, List.nodup_append]
        exact ⟨hn, by simp, fun a ha b hb => by rw [List.mem_singleton.1 hb]; exact fun e => h1 (e ▸ ha)⟩
      have := (waysOk_iff f ks _ hn').1 h2
      rwa [hk, List.append_assoc] at this
    · intro h
      have h' : ((L ++ [(k, f)]).map (·.1) ++ ks).Nodup := by rwa [hk, List.append_assoc]
      have hn' : ((L ++ [(k, f)]).map (·.1)).Nodup := (List.nodup_append.1 h').1
      refine ⟨fun hm => ?_, (waysOk_iff f ks _ hn').2 h'⟩
      exact (List.nodup_append.1 h).2.2 k hm k (by simp) rfl
theorem keys_succ (F : List (List Int)) (k : Nat) : (alongF F (k + 1)).map (·.1) = (alongF F k).map (·.1) ++ waysS (fcAt F k) := by
  rw [alongF_succ, keys_snoc]
theorem keys_nodup {n : Int} {F : List (List Int)} (h : addsOk n F = true) : ∀ k, k ≤ F.length → ((alongF F k).map (·.1)).Nodup := by
  intro k
  induction k with
  | zero => intro _; simp [alongF]
  | succ k ih =>
    intro hk
    have hi := ih (by omega)
    unfold addsOk at h
    rw [List.all_eq_true] at h
    have h1 := h k (List.mem_range.2 (by omega))
    unfold addOk at h1
    rw [Bool.and_eq_true] at h1
    rw [keys_succ]
    exact (waysOk_iff _ _ _ hi).1 h1.2
theorem waysS_f0 (fc : List Int) : (waysS fc).map (·.f0) = fc := by
  refine List.ext_getElem (by simp [waysS]) (fun i h1 h2 => ?_)
  simp only [waysS, wayAt, List.getElem_map, List.getElem_range]
  simp [rd, List.getD_eq_getElem?_getD, h2]
theorem waysS_f1 (fc : List Int) : ((waysS fc).map (·.f1)).Perm fc := by
  cases fc with
  | nil => simp [waysS]
  | cons a l =>
    have : (waysS (a :: l)).map (·.f1) = l ++ [a] := by
      refine List.ext_getElem (by simp [waysS]) (fun i h1 h2 => ?_)
      have hi : i < l.length + 1 := by simpa [waysS] using h1
      simp only [waysS, wayAt, List.getElem_map, List.getElem_range, List.length_cons]
      rcases Nat.lt_or_ge (i + 1) (l.length + 1) with h | h
      · rw [Nat.mod_eq_of_lt h, List.getElem_append_left (by omega)]
        simp [rd, List.getD_eq_getElem?_getD, show i < l.length by omega]
      · have : i = l.length := by omega
        subst this
        rw [Nat.mod_self, List.getElem_append_right (by omega)]
        simp [rd]
    rw [this]
    exact List.perm_append_singleton a l
theorem out_map (F : List (List Int)) (k : Nat) : (alongF F k).map (fun p => (p.1.f0, p.2)) = evsF F k := by
  induction k with
  | zero => simp [alongF, evsF]
  | succ k ih =>
    rw [alongF_succ, evsF_succ, List.map_append, ih, List.map_map]
    congr 1
    have h := waysS_f0 (fcAt F k)
    conv => rhs; rw [← h]
    rw [List.map_map]
    rfl
theorem in_map (F : List (List Int)) (k : Nat) : ((alongF F k).map (fun p => (p.1.f1, p.2))).Perm (evsF F k) := by
  induction k with
  | zero => simp [alongF, evsF]
  | succ k ih =>
    rw [alongF_succ, evsF_succ, List.map_append, List.map_map]
    refine ih.append ?_
    have h := (waysS_f1 (fcAt F k)).map (·, (k : Int))
    rw [List.map_map] at h
    exact h
theorem mine_count (F : List (List Int)) (v : Int) : (mineOf F v).length = (evsF F F.length).countP (fun p => p.1 == v) := by
  unfold mineOf evAt
  rw [List.length_map, List.countP_eq_length_filter]
theorem out_count (F : List (List Int)) (v : Int) : ((alongF F F.length).map (·.1)).countP (fun k => k.f0 == v) = (mineOf F v).length := by
  rw [mine_count, ← out_map, List.countP_map, List.countP_map]
  rfl
theorem in_count (F : List (List Int)) (v : Int) : ((alongF F F.length).map (·.1)).countP (fun k => k.f1 == v) = (mineOf F v).length := by
  rw [mine_count, ← (in_map F F.length).countP_eq, List.countP_map, List.countP_map]
  rfl
theorem rev_count {K : List S115} (hn : K.Nodup) (q : S115 → Bool) : K.countP (fun k => decide (revK k ∈ K) && q (revK k)) = K.countP (fun k => decide (revK k ∈ K) && q k) := by
  rw [List.countP_eq_length_filter, List.countP_eq_length_filter]
  have hp : ((K.filter (fun k => decide (revK k ∈ K) && q (revK k))).map revK).Perm (K.filter (fun k => decide (revK k ∈ K) && q k)) := by
    refine (List.perm_ext_iff_of_nodup ?_ (hn.filter _)).2 (fun a => ?_)
    · rw [List.nodup_iff_pairwise_ne, List.pairwise_map]
      exact (List.nodup_iff_pairwise_ne.1 (hn.filter _)).imp (fun hne e => hne (by have := congrArg revK e; simpa [revK_revK] using this))
    · rw [List.mem_map, List.mem_filter]
      constructor
      · rintro ⟨b, hb, rfl⟩
        obtain ⟨h1, h2⟩ := List.mem_filter.1 hb
        rw [Bool.and_eq_true, decide_eq_true_iff] at h2
        refine ⟨h2.1, ?_⟩
        rw [Bool.and_eq_true, decide_eq_true_iff]
        exact ⟨h1, h2.2⟩
      · rintro ⟨h1, h2⟩
        rw [Bool.and_eq_true, decide_eq_true_iff] at h2
        refine ⟨revK a, List.mem_filter.2 ⟨h2.1, ?_⟩, rfl⟩
        rw [Bool.and_eq_true, decide_eq_true_iff]
        exact ⟨h1, h2.2⟩
  rw [← hp.length_eq, List.length_map]
theorem countP_or {α : Type} (l : List α) (p q : α → Bool) (h : ∀ a ∈ l, p a = true → q a = true → False) : l.countP (fun a => p a || q a) = l.countP p + l.countP q := by
  induction l with
  | nil => rfl
  | cons a l ih =>
    rw [List.countP_cons, List.countP_cons, List.countP_cons, ih (fun b hb => h b (by simp [hb]))]
    have ha := h a (by simp)
    cases h1 : p a <;> cases h2 : q a
    · simp
    · simp; omega
    · simp; omega
    · exact (ha h1 h2).elim
theorem countP_split {α : Type} (l : List α) (p q : α → Bool) : l.countP p = l.countP (fun a => q a && p a) + l.countP (fun a => !q a && p a) := by
  induction l with
  | nil => rfl
  | cons a l ih =>
    rw [List.countP_cons, List.countP_cons, List.countP_cons, ih]
    cases h1 : p a <;> cases h2 : q a <;> simp <;> omega
theorem countP_le {α : Type} (l : List α) (p q : α → Bool) (h : ∀ a ∈ l, p a = true → q a = true) : l.countP p ≤ l.countP q := by
  induction l with
  | nil => simp
  | cons a l ih =>
    rw [List.countP_cons, List.countP_cons]
    have h1 := ih (fun b hb => h b (by simp [hb]))
    have h2 := h a (by simp)
    cases hp : p a
    · simp; omega
    · simp [h2 hp]; omega
def tellsK (K : List S115) (k : S115) : Bool := decide (k.f0 < k.f1) || !decide (revK k ∈ K)
def atK (v : Int) (k : S115) : Bool := k.f0 == v || k.f1 == v
def lone (K : List S115) (k : S115) : Bool := !decide (revK k ∈ K)
theorem told_count {K : List S115} (hn : K.Nodup) (hne : ∀ k ∈ K, k.f0 ≠ k.f1) (v : Int) (n : Nat) (ho : K.countP (fun k => k.f0 == v) = n) (hi : K.countP (fun k => k.f1 == v) = n) :
    ∃ b, K.countP (fun k => tellsK K k && atK v k) = n + b ∧ K.countP (fun k => lone K k && atK v k) = 2 * b := by
  have h1 := rev_count hn (fun k => k.f0 == v)
  have h2 := rev_count hn (fun k => decide (k.f1 < k.f0) && (k.f0 == v))
  have e1 : (fun k : S115 => decide (revK k ∈ K) && ((revK k).f0 == v)) = (fun k => decide (revK k ∈ K) && (k.f1 == v)) := rfl
  have e2 : (fun k : S115 => decide (revK k ∈ K) && (decide ((revK k).f1 < (revK k).f0) && ((revK k).f0 == v))) = (fun k => decide (revK k ∈ K) && (decide (k.f0 < k.f1) && (k.f1 == v))) := rfl
  rw [e1] at h1
  rw [e2] at h2
  have s0 := countP_split K (fun k => k.f0 == v) (fun k => decide (revK k ∈ K))
  have s1 := countP_split K (fun k => k.f1 == v) (fun k => decide (revK k ∈ K))
  have l0 : K.countP (fun k => lone K k && atK v k) = K.countP (fun k => !decide (revK k ∈ K) && (k.f0 == v)) + K.countP (fun k => !decide (revK k ∈ K) && (k.f1 == v)) := by
    rw [← countP_or]
    · refine List.countP_congr (fun k _ => ?_)
      unfold lone atK
      rw [Bool.and_or_distrib_left]
    · intro k hk a b
      simp only [Bool.and_eq_true, beq_iff_eq] at a b
      exact hne k hk (a.2.trans b.2.symm)
  have t0 : K.countP (fun k => tellsK K k && atK v k) = K.countP (fun k => lone K k && atK v k) + (K.countP (fun k => decide (revK k ∈ K) && (decide (k.f0 < k.f1) && (k.f0 == v))) + K.countP (fun k => decide (revK k ∈ K) && (decide (k.f0 < k.f1) && (k.f1 == v)))) := by
    rw [← countP_or, ← countP_or]
    · refine List.countP_congr (fun k _ => ?_)
      unfold tellsK lone atK
      cases decide (revK k ∈ K) <;> cases decide (k.f0 < k.f1) <;> cases k.f0 == v <;> cases k.f1 == v <;> simp
    · intro k _ a b
      unfold lone at a
      cases hd : decide (revK k ∈ K) <;> simp [hd] at a b
    · intro k hk a b
      simp only [Bool.and_eq_true, beq_iff_eq] at a b
      exact hne k hk (a.2.2.trans b.2.2.symm)
  have c0 : K.countP (fun k => decide (revK k ∈ K) && (k.f0 == v)) = K.countP (fun k => decide (revK k ∈ K) && (decide (k.f0 < k.f1) && (k.f0 == v))) + K.countP (fun k => decide (revK k ∈ K) && (decide (k.f1 < k.f0) && (k.f0 == v))) := by
    rw [← countP_or]
    · refine List.countP_congr (fun k hk => ?_)
      have := hne k hk
      by_cases hl : k.f0 < k.f1
      · have hl2 : ¬ k.f1 < k.f0 := by omega
        simp [hl, hl2]
      · have hl2 : k.f1 < k.f0 := by omega
        simp [hl, hl2]
    · intro k _ a b
      simp only [Bool.and_eq_true, decide_eq_true_eq] at a b
      omega
  refine ⟨K.countP (fun k => !decide (revK k ∈ K) && (k.f0 == v)), by omega, by omega⟩
theorem edgesAll (L : List WF) : (List.range L.length).filterMap (edgeAt L) = (L.filter (tells L)).map (edgeOf L) := by
  have key : ∀ k, k ≤ L.length → (List.range k).filterMap (edgeAt L) = ((L.take k).filter (tells L)).map (edgeOf L) := by
    intro k
    induction k with
    | zero => intro _; simp
    | succ k ih =>
      intro hk
      rw [List.range_succ, List.filterMap_append, ih (by omega), List.take_succ_eq_append_getElem (by omega), List.filter_append, List.map_append]
      congr 1
      have hg : L[k]? = some L[k] := List.getElem?_eq_getElem (by omega)
      simp only [List.filterMap_cons, List.filterMap_nil, edgeAt, hg]
      by_cases ht : tells L L[k] = true
      · simp [ht]
      · simp [ht]
  have := key L.length (Nat.le_refl _)
  rwa [List.take_length] at this
theorem edges_perm (L : List WF) : (edgesOf L).Perm ((L.filter (tells L)).map (edgeOf L)) := by
  rw [← edgesAll]
  exact List.mergeSort_perm _ _
theorem tells_K (L : List WF) (p : WF) : tells L p = tellsK (L.map (·.1)) p.1 := by
  unfold tells tellsK
  congr 1
  rw [Bool.eq_iff_iff, Option.isNone_iff_eq_none, look_none, Bool.not_eq_true', decide_eq_false_iff_not]
  exact Iff.rfl
theorem edges_count (L : List WF) (q : S47 → Bool) (r : S115 → Bool) (h : ∀ p ∈ L, q (edgeOf L p) = r p.1) : (edgesOf L).countP q = (L.map (·.1)).countP (fun k => tellsK (L.map (·.1)) k && r k) := by
  rw [(edges_perm L).countP_eq, List.countP_map, List.countP_filter, List.countP_map]
  refine List.countP_congr (fun p hp => ?_)
  simp only [Function.comp]
  rw [h p hp, tells_K, Bool.and_comm]
def atE (v : Int) (e : S47) : Bool := e.f0 == v || e.f1 == v
theorem atE_edgeOf (L : List WF) (p : WF) (v : Int) : atE v (edgeOf L p) = atK v p.1 := by
  unfold atE atK edgeOf mn mx
  rw [Bool.eq_iff_iff]
  simp only [Bool.or_eq_true, beq_iff_eq]
  split <;> split <;> omega
theorem faceOf_neg {F : List (List Int)} (k : S115) : faceOf (alongF F F.length) k.f0 k.f1 < 0 ↔ k ∉ (alongF F F.length).map (·.1) := by
  rw [← look_none]
  unfold faceOf
  cases h : look (alongF F F.length) ⟨k.f0, k.f1⟩ with
  | none => simp [h]
  | some f =>
    have := look_in h
    have hk : look (alongF F F.length) k = some f := h
    simp [hk]
    omega
theorem edged_edgeOf {F : List (List Int)} (p : WF) (hp : p ∈ alongF F F.length) (hne : p.1.f0 ≠ p.1.f1) : edgedM (edgeOf (alongF F F.length) p) = lone ((alongF F F.length).map (·.1)) p.1 := by
  have h1 : p.1 ∈ (alongF F F.length).map (·.1) := List.mem_map_of_mem hp
  have a := faceOf_neg (F := F) p.1
  have b := faceOf_neg (F := F) (revK p.1)
  unfold edgedM lone edgeOf
  rw [Bool.eq_iff_iff, decide_eq_true_iff, Bool.not_eq_true', decide_eq_false_iff_not, ← b]
  have ha : ¬ faceOf (alongF F F.length) p.1.f0 p.1.f1 < 0 := fun h => a.1 h h1
  simp only [revK]
  rcases Int.lt_or_lt_of_ne hne with h | h
  · have e1 : mn p.1.f0 p.1.f1 = p.1.f0 := by unfold mn; rw [if_neg (by omega)]
    have e2 : mx p.1.f0 p.1.f1 = p.1.f1 := by unfold mx; rw [if_pos h]
    simp only [e1, e2]
    generalize faceOf (alongF F F.length) p.1.f0 p.1.f1 = x at *
    generalize faceOf (alongF F F.length) p.1.f1 p.1.f0 = y at *
    unfold mn
    split <;> omega
  · have e1 : mn p.1.f0 p.1.f1 = p.1.f1 := by unfold mn; rw [if_pos h]
    have e2 : mx p.1.f0 p.1.f1 = p.1.f0 := by unfold mx; rw [if_neg (by omega)]
    simp only [e1, e2]
    generalize faceOf (alongF F F.length) p.1.f0 p.1.f1 = x at *
    generalize faceOf (alongF F F.length) p.1.f1 p.1.f0 = y at *
    unfold mn
    split <;> omega
theorem along_ne {n : Int} {F : List (List Int)} (h : surfOk n F = true) : ∀ p ∈ alongF F F.length, p.1.f0 ≠ p.1.f1 := by
  intro p hp
  obtain ⟨g, hg, _, hw⟩ := mem_alongF (k := p.1) (f := p.2) hp
  exact (way_ok (facesOk h g hg) hw).2.2.2.2
theorem star_count {n : Int} {F : List (List Int)} (h : surfOk n F = true) (v : Int) :
    ∃ b, (edgesOf (alongF F F.length)).countP (atE v) = (mineOf F v).length + b ∧ (edgesOf (alongF F F.length)).countP (fun e => edgedM e && atE v e) = 2 * b := by
  have ha : addsOk n F = true := by
    unfold surfOk at h
    simp only [Bool.and_eq_true] at h
    exact h.1.1.1
  have hn := keys_nodup ha F.length (Nat.le_refl _)
  have hne : ∀ k ∈ (alongF F F.length).map (·.1), k.f0 ≠ k.f1 := by
    intro k hk
    obtain ⟨p, hp, rfl⟩ := List.mem_map.1 hk
    exact along_ne h p hp
  obtain ⟨b, h1, h2⟩ := told_count hn hne v _ (out_count F v) (in_count F v)
  refine ⟨b, ?_, ?_⟩
  · rw [edges_count _ _ (atK v) (fun p _ => atE_edgeOf _ p v)]
    exact h1
  · rw [edges_count _ _ (fun k => lone ((alongF F F.length).map (·.1)) k && atK v k) (fun p hp => by rw [edged_edgeOf p hp (along_ne h p hp), atE_edgeOf]), ← h2]
    refine List.countP_congr (fun k _ => ?_)
    unfold tellsK lone
    cases decide (revK k ∈ (alongF F F.length).map (·.1)) <;> simp
theorem star_countP {n : Nat} {ES : List S47} {v : Nat} (hv : v < n) (q : Int → Bool) (r : S47 → Bool) (hq : ∀ i : Nat, i < ES.length → r (rd_T47 ES i) = q i) :
    (fcAt (starsTo n ES ES.length) v).countP q = ES.countP (fun e => r e && atE v e) := by
  rw [star_at hv]
  have key : ∀ k, k ≤ ES.length → ((List.range k).filterMap fun i : Nat => if (rd_T47 ES i).f0 = v ∨ (rd_T47 ES i).f1 = v then some (i : Int) else none).countP q = (ES.take k).countP (fun e => r e && atE v e) := by
    intro k
    induction k with
    | zero => intro _; simp
    | succ k ih =>
      intro hk
      have he := rd47 (ES := ES) (i := k) (by omega)
      rw [List.range_succ, List.filterMap_append, List.countP_append, ih (by omega), List.take_succ_eq_append_getElem (by omega), List.countP_append]
      congr 1
      have hqk := hq k (by omega)
      rw [he] at hqk
      simp only [List.filterMap_cons, List.filterMap_nil, he]
      by_cases hc : (ES[k]).f0 = (v : Int) ∨ (ES[k]).f1 = (v : Int)
      · have ha : atE v ES[k] = true := by unfold atE; simpa using hc
        rw [if_pos hc]
        simp [ha, hqk]
      · have ha : atE v ES[k] = false := by
          unfold atE
          simp at hc
          simp [hc]
        rw [if_neg hc]
        simp [ha]
  have := key ES.length (Nat.le_refl _)
  rwa [List.take_length] at this
theorem star_fan {D : Fin_} {F : List (List Int)} (h : Built D F) (v : Nat) (hv : v < D.V.length) (hh : hardNo D (fcAt D.EV v) < 2) :
    (fcAt D.EV v).length = (fcAt D.FN v).length := by
  obtain ⟨X, hX⟩ := h.sh
  have hfn : fcAt D.FN (v : Int) = fanAt F v := by
    rw [h.fn]
    unfold fcAt
    simp [List.getD_eq_getElem?_getD, hv]
  have hok := fan_ok_at h.surf v (by omega)
  rw [hfn, fan_len hok]
  obtain ⟨b, h1, h2⟩ := star_count h.surf v
  rw [← h.es] at h1 h2
  have hall : (fcAt D.EV (v : Int)).length = D.ES.countP (atE v) := by
    have := star_countP (n := D.V.length) (ES := D.ES) hv (fun _ => true) (fun _ => true) (fun _ _ => rfl)
    rw [← h.ev] at this
    simpa using this
  have hsome : D.ES.countP (fun e => edgedM e && atE v e) ≤ hardNo D (fcAt D.EV v) := by
    have := star_countP (n := D.V.length) (ES := D.ES) hv (fun i => edgedM (rd_T47 D.ES i)) edgedM (fun _ _ => rfl)
    rw [← this, ← h.ev]
    unfold hardNo
    rw [← List.countP_eq_length_filter]
    refine countP_le _ _ _ (fun i hi he => ?_)
    rw [h.ev] at hi
    obtain ⟨j, hj, rfl, _⟩ := mem_star hv hi
    have hs := sharp_soft hX hj
    unfold isHard
    rw [Bool.not_eq_true', beq_eq_false_iff_ne]
    intro hz
    have := hs hz
    unfold edgedM at he
    rw [decide_eq_true_iff] at he
    unfold mn at he
    split at he <;> omega
  rw [hall, h1]
  omega
theorem rd_inj {fc : List Int} (hn : fc.Nodup) {i j : Nat} (hi : i < fc.length) (hj : j < fc.length) (h : rd fc (i : Int) = rd fc (j : Int)) : i = j := by
  have e1 : ∀ {m : Nat} (hm : m < fc.length), rd fc (m : Int) = fc[m] := fun {m} hm => by
    unfold rd
    rw [Int.toNat_natCast, List.getD_eq_getElem?_getD, List.getElem?_eq_getElem hm]
    rfl
  rw [e1 hi, e1 hj] at h
  exact (List.getElem_inj hn).1 h
theorem way_back {n : Int} {fc : List Int} (h : FaceOk n fc) {k : S115} (h1 : k ∈ waysS fc) (h2 : revK k ∈ waysS fc) : False := by
  have h3 := h.three
  obtain ⟨i, hi, e1⟩ := List.mem_map.1 h1
  obtain ⟨j, hj, e2⟩ := List.mem_map.1 h2
  have hi := List.mem_range.1 hi
  have hj := List.mem_range.1 hj
  have a1 : rd fc (i : Int) = k.f0 := by rw [← e1]; rfl
  have a2 : rd fc (((i + 1) % fc.length : Nat) : Int) = k.f1 := by rw [← e1]; rfl
  have b1 : rd fc (j : Int) = k.f1 := by
    have := congrArg S115.f0 e2
    exact this
  have b2 : rd fc (((j + 1) % fc.length : Nat) : Int) = k.f0 := by
    have := congrArg S115.f1 e2
    exact this
  have c1 := rd_inj h.nd hj (Nat.mod_lt (i + 1) (by omega)) (b1.trans a2.symm)
  have c2 := rd_inj h.nd hi (Nat.mod_lt (j + 1) (by omega)) (a1.trans b2.symm)
  rcases Nat.lt_or_ge (i + 1) fc.length with hlt | hge
  · rw [Nat.mod_eq_of_lt hlt] at c1
    rcases Nat.lt_or_ge (j + 1) fc.length with hlt2 | hge2
    · rw [Nat.mod_eq_of_lt hlt2] at c2
      omega
    · have : j + 1 = fc.length := by omega
      rw [this, Nat.mod_self] at c2
      omega
  · have : i + 1 = fc.length := by omega
    rw [this, Nat.mod_self] at c1
    subst c1
    rw [Nat.mod_eq_of_lt (by omega)] at c2
    omega
theorem waysS_to {fc : List Int} {k : S115} (h : k ∈ waysS fc) : k.f1 ∈ fc := (waysS_f1 fc).mem_iff.1 (List.mem_map_of_mem h)
theorem star_two {D : Fin_} {F : List (List Int)} (h : Built D F) (v : Nat) (hv : v < D.V.length) (hh : hardNo D (fcAt D.EV v) < 2) :
    2 ≤ (fcAt D.FN v).length := by
  have hsf := star_fan h v hv hh
  have hfn : fcAt D.FN (v : Int) = fanAt F v := by
    rw [h.fn]
    unfold fcAt
    simp [List.getD_eq_getElem?_getD, hv]
  have hok := fan_ok_at h.surf v (by omega)
  have hne := mine_ne hok
  rw [hfn, fan_len hok] at hsf ⊢
  rcases Nat.lt_or_ge (mineOf F v).length 2 with hlt | hge
  · exfalso
    have h1 : (mineOf F v).length = 1 := by
      have := List.length_pos_iff.2 hne
      omega
    have ha : addsOk D.V.length F = true := by
      have := h.surf
      unfold surfOk at this
      simp only [Bool.and_eq_true] at this
      exact this.1.1.1
    have hn := keys_nodup ha F.length (Nat.le_refl _)
    have hnk : ∀ k ∈ (alongF F F.length).map (·.1), k.f0 ≠ k.f1 := by
      intro k hk
      obtain ⟨p, hp, rfl⟩ := List.mem_map.1 hk
      exact along_ne h.surf p hp
    obtain ⟨b, c1, c2⟩ := told_count hn hnk v _ (out_count F v) (in_count F v)
    have hall : (fcAt D.EV (v : Int)).length = D.ES.countP (atE v) := by
      have := star_countP (n := D.V.length) (ES := D.ES) hv (fun _ => true) (fun _ => true) (fun _ _ => rfl)
      rw [← h.ev] at this
      simpa using this
    rw [h.es, edges_count _ _ (atK v) (fun p _ => atE_edgeOf _ p v), c1] at hall
    have hb : b = 0 := by omega
    subst hb
    have ho := out_count F v
    rw [h1] at ho
    obtain ⟨k, hk, hk0⟩ := List.countP_pos_iff.1 (by rw [ho]; omega : 0 < ((alongF F F.length).map (·.1)).countP (fun k => k.f0 == (v : Int)))
    have hr : revK k ∈ (alongF F F.length).map (·.1) := by
      have hz : ((alongF F F.length).map (·.1)).countP (fun k => lone ((alongF F F.length).map (·.1)) k && atK v k) = 0 := by omega
      have := List.countP_eq_zero.1 hz k hk
      unfold lone atK at this
      simp only [Bool.and_eq_true, Bool.not_eq_true', decide_eq_false_iff_not, Bool.or_eq_true, not_and] at this
      by_cases hm : revK k ∈ (alongF F F.length).map (·.1)
      · exact hm
      · exact absurd (Or.inl hk0) (this hm)
    obtain ⟨p, hp, e1⟩ := List.mem_map.1 hk
    obtain ⟨q, hq, e2⟩ := List.mem_map.1 hr
    obtain ⟨g1, hg1, _, hw1⟩ := mem_alongF (k := p.1) (f := p.2) hp
    obtain ⟨g2, hg2, _, hw2⟩ := mem_alongF (k := q.1) (f := q.2) hq
    rw [e1] at hw1
    rw [e2] at hw2
    have hkv : k.f0 = (v : Int) := by simpa using hk0
    have m1 : (g1 : Int) ∈ mineOf F v := mem_mineOf.2 ⟨g1, hg1, rfl, by rw [← hkv]; exact waysS_from hw1⟩
    have m2 : (g2 : Int) ∈ mineOf F v := mem_mineOf.2 ⟨g2, hg2, rfl, by rw [← hkv]; exact waysS_to hw2⟩
    obtain ⟨x, hx⟩ := List.length_eq_one_iff.1 h1
    rw [hx, List.mem_singleton] at m1 m2
    have hg : g1 = g2 := by omega
    subst hg
    exact way_back (facesOk h.surf g1 hg1) hw1 hw2
  · exact hge
end Go.Proofs.Ytnjdjfengoaleaa.MSub
namespace Go.Proofs.Ytnjdjfengoaleaa.Relv
def tot {α : Type} (f : α → Int) : List α → Int
  | [] => 0
  | a :: l => f a + tot f l
section
variable {α β : Type}
theorem tot_cons (f : α → Int) (a : α) (l : List α) : tot f (a :: l) = f a + tot f l := rfl
theorem tot_map (f : β → Int) (g : α → β) : ∀ l : List α, tot f (l.map g) = tot (fun a => f (g a)) l
  | [] => rfl
  | a :: l => by rw [List.map_cons, tot_cons, tot_cons, tot_map f g l]
theorem tot_congr {f g : α → Int} : ∀ {l : List α}, (∀ a ∈ l, f a = g a) → tot f l = tot g l
  | [], _ => rfl
  | a :: l, h => by rw [tot_cons, tot_cons, h a (by simp), tot_congr (fun b hb => h b (by simp [hb]))]
theorem tot_move (f : α → Int) (b : Int) : ∀ l : List α, tot (fun a => f a + b) l = tot f l + l.length * b
  | [] => by simp [tot]
  | a :: l => by
    rw [tot_cons, tot_cons, tot_move f b l, List.length_cons]
    have : ((l.length + 1 : Nat) : Int) * b = l.length * b + b := by rw [Int.natCast_add, Int.add_mul]; omega
    omega
theorem tot_le {f : α → Int} {hi : Int} : ∀ {l : List α}, (∀ a ∈ l, f a ≤ hi) → tot f l ≤ l.length * hi
  | [], _ => by simp [tot]
  | a :: l, h => by
    have h1 := h a (by simp)
    have h2 := tot_le (fun b hb => h b (List.mem_cons_of_mem a hb))
    rw [tot_cons, List.length_cons]
    have : ((l.length + 1 : Nat) : Int) * hi = l.length * hi + hi := by rw [Int.natCast_add, Int.add_mul]; omega
    omega
theorem le_tot {f : α → Int} {lo : Int} : ∀ {l : List α}, (∀ a ∈ l, lo ≤ f a) → l.length * lo ≤ tot f l
  | [], _ => by simp [tot]
  | a :: l, h => by
    have h1 := h a (by simp)
    have h2 := le_tot (fun b hb => h b (List.mem_cons_of_mem a hb))
    rw [tot_cons, List.length_cons]
    have : ((l.length + 1 : Nat) : Int) * lo = l.length * lo + lo := by rw [Int.natCast_add, Int.add_mul]; omega
    omega
end
def faceZ (x : Int → Int) (fc : List Int) : Int := rnd (tot x fc) fc.length
section
variable {x y : Int → Int} {fc : List Int}
theorem faceZ_move (b : Int) (h : 0 < fc.length) : faceZ (fun v => x v + b) fc = faceZ x fc + b := by
  unfold faceZ
  rw [tot_move]
  exact rnd_add _ _ _ (by omega)
theorem faceZ_congr (h : ∀ v ∈ fc, x v = y v) : faceZ x fc = faceZ y fc := by unfold faceZ; rw [tot_congr h]
theorem faceZ_le {hi : Int} (h : 0 < fc.length) (hx : ∀ v ∈ fc, x v ≤ hi) : faceZ x fc ≤ hi := rnd_le _ _ _ (by omega) (tot_le hx)
theorem le_faceZ {lo : Int} (h : 0 < fc.length) (hx : ∀ v ∈ fc, lo ≤ x v) : lo ≤ faceZ x fc := le_rnd _ _ _ (by omega) (le_tot hx)
end
def edgeZ (a b f g : Int) (soft : Bool) : Int := if soft then rnd (a + b + f + g) 4 else rnd (a + b) 2
theorem edgeZ_move (a b f g k : Int) (soft : Bool) : edgeZ (a + k) (b + k) (f + k) (g + k) soft = edgeZ a b f g soft + k := by
  unfold edgeZ
  cases soft
  · have := rnd_add (a + b) 2 k (by omega)
    simp only [Bool.false_eq_true, if_false]
    rw [← this]
    congr 1
    omega
  · have := rnd_add (a + b + f + g) 4 k (by omega)
    simp only [if_true]
    rw [← this]
    congr 1
    omega
theorem edgeZ_le {a b f g hi : Int} {soft : Bool} (ha : a ≤ hi) (hb : b ≤ hi) (hf : soft = true → f ≤ hi) (hg : soft = true → g ≤ hi) : edgeZ a b f g soft ≤ hi := by
  unfold edgeZ
  cases soft
  · exact rnd_le _ _ _ (by omega) (by omega)
  · have := hf rfl
    have := hg rfl
    exact rnd_le _ _ _ (by omega) (by omega)
theorem le_edgeZ {a b f g lo : Int} {soft : Bool} (ha : lo ≤ a) (hb : lo ≤ b) (hf : soft = true → lo ≤ f) (hg : soft = true → lo ≤ g) : lo ≤ edgeZ a b f g soft := by
  unfold edgeZ
  cases soft
  · exact le_rnd _ _ _ (by omega) (by omega)
  · have := hf rfl
    have := hg rfl
    exact le_rnd _ _ _ (by omega) (by omega)
def vertZ (n x s t : Int) : Int := rnd (n * (n - 2) * x + s + t) (n * n)
theorem sq_split (n x : Int) : n * (n - 2) * x = n * n * x - 2 * (n * x) := by
  rw [Int.mul_sub, Int.sub_mul, Int.mul_assoc n 2 x, Int.mul_left_comm n 2 x]
theorem sq_pos {n : Int} (h : 2 ≤ n) : 2 * n ≤ n * n ∧ 0 < n * n := by
  have := Int.mul_le_mul_of_nonneg_right h (show 0 ≤ n by omega)
  omega
theorem vertZ_move {n x s t k : Int} (h : 2 ≤ n) : vertZ n (x + k) (s + n * k) (t + n * k) = vertZ n x s t + k := by
  unfold vertZ
  rw [← rnd_add _ _ _ (sq_pos h).2]
  congr 1
  rw [sq_split, sq_split, Int.mul_add, Int.mul_add]
  omega
theorem vertZ_le {n x s t hi : Int} (h : 2 ≤ n) (hx : x ≤ hi) (hs : s ≤ n * hi) (ht : t ≤ n * hi) : vertZ n x s t ≤ hi := by
  unfold vertZ
  refine rnd_le _ _ _ (sq_pos h).2 ?_
  have h1 : n * (n - 2) * x ≤ n * (n - 2) * hi := Int.mul_le_mul_of_nonneg_left hx (Int.mul_nonneg (by omega) (by omega))
  rw [sq_split n hi] at h1
  omega
theorem le_vertZ {n x s t lo : Int} (h : 2 ≤ n) (hx : lo ≤ x) (hs : n * lo ≤ s) (ht : n * lo ≤ t) : lo ≤ vertZ n x s t := by
  unfold vertZ
  refine le_rnd _ _ _ (sq_pos h).2 ?_
  have h1 : n * (n - 2) * lo ≤ n * (n - 2) * x := Int.mul_le_mul_of_nonneg_left hx (Int.mul_nonneg (by omega) (by omega))
  rw [sq_split n lo] at h1
  omega
def bendZ (x s : Int) : Int := rnd (s + 6 * x) 8
theorem bendZ_move (x s k : Int) : bendZ (x + k) (s + 2 * k) = bendZ x s + k := by
  unfold bendZ
  rw [← rnd_add _ _ _ (by omega)]
  congr 1
  omega
theorem bendZ_le {x s hi : Int} (hx : x ≤ hi) (hs : s ≤ 2 * hi) : bendZ x s ≤ hi := rnd_le _ _ _ (by omega) (by omega)
theorem le_bendZ {x s lo : Int} (hx : lo ≤ x) (hs : 2 * lo ≤ s) : lo ≤ bendZ x s := le_rnd _ _ _ (by omega) (by omega)
end Go.Proofs.Ytnjdjfengoaleaa.Relv
namespace Go.Proofs.Ytnjdjfengoaleaa.MSub
open Go.RowKit Go.Proofs.YtnjdjfengoaleaaW.PrintWords Go.Proofs.YtnjdjfengoaleaaW.PrintLast Go.Proofs.YtnjdjfengoaleaaW.PrintMore
open Go.Proofs.Ytnjdjfengoaleaa.Relv
set_option linter.unusedVariables false
set_option linter.unusedSimpArgs false
structure Part (c : S42 → Int) : Prop where
  plus : ∀ k s p, c (plus k s p) = wrap64 (c s + wrap64 (c p * k))
  of : ∀ s d, c (ofV s d) = rndM (c s) d
  z : c z42 = 0
  near : ∀ p, nearP p = true → -65536 ≤ c p ∧ c p ≤ 65536
theorem near_parts {p : S42} (h : nearP p = true) : -65536 ≤ p.f0 ∧ p.f0 ≤ 65536 ∧ -65536 ≤ p.f1 ∧ p.f1 ≤ 65536 ∧ -65536 ≤ p.f2 ∧ p.f2 ≤ 65536 := by
  unfold nearP at h
  rwa [decide_eq_true_iff] at h
theorem part0 : Part S42.f0 := ⟨fun _ _ _ => rfl, fun _ _ => rfl, rfl, fun p h => by have := near_parts h; omega⟩
theorem part1 : Part S42.f1 := ⟨fun _ _ _ => rfl, fun _ _ => rfl, rfl, fun p h => by have := near_parts h; omega⟩
theorem part2 : Part S42.f2 := ⟨fun _ _ _ => rfl, fun _ _ => rfl, rfl, fun p h => by have := near_parts h; omega⟩
theorem nearP_of {p : S42} (h : ∀ c, Part c → -65536 ≤ c p ∧ c p ≤ 65536) : nearP p = true := by
  have h0 := h _ part0
  have h1 := h _ part1
  have h2 := h _ part2
  unfold nearP
  rw [decide_eq_true_iff]
  omega
theorem abs_mul {a b A B : Int} (ha : -A ≤ a ∧ a ≤ A) (hb : -B ≤ b ∧ b ≤ B) : -(A * B) ≤ a * b ∧ a * b ≤ A * B := by
  have key : ∀ b : Int, 0 ≤ b → b ≤ B → -(A * B) ≤ a * b ∧ a * b ≤ A * B := by
    intro b h0 h1
    have c1 := Int.mul_le_mul_of_nonneg_right ha.2 h0
    have c2 := Int.mul_le_mul_of_nonneg_right ha.1 h0
    have c3 := Int.mul_le_mul_of_nonneg_left h1 (show 0 ≤ A by omega)
    rw [Int.neg_mul] at c2
    omega
  rcases Int.le_total 0 b with h | h
  · exact key b h hb.2
  · have := key (-b) (by omega) (by omega)
    rw [Int.mul_neg] at this
    omega
section
variable {c : S42 → Int}
theorem Part.plus_in (hc : Part c) {k : Int} {s p : S42} (h1 : -1152921504606846976 ≤ c p * k) (h2 : c p * k ≤ 1152921504606846976) (h3 : -1152921504606846976 ≤ c s) (h4 : c s ≤ 1152921504606846976) : c (MSub.plus k s p) = c s + c p * k := by
  rw [hc.plus, w64_in (c p * k) (by omega) (by omega), w64_in _ (by omega) (by omega)]
theorem Part.sum (hc : Part c) : ∀ (L : List S42) (s : S42), (∀ p ∈ L, -65536 ≤ c p ∧ c p ≤ 65536) → -576460752303423488 ≤ c s - 65536 * L.length → c s + 65536 * L.length ≤ 576460752303423488 → c (sumV 1 s L) = c s + tot c L
  | [], s, _, _, _ => by simp [sumV, tot]
  | p :: L, s, h, h1, h2 => by
    have hp := h p (by simp)
    rw [List.length_cons] at h1 h2
    have e := hc.plus_in (k := 1) (s := s) (p := p) (by omega) (by omega) (by omega) (by omega)
    rw [Int.mul_one] at e
    have := hc.sum L (MSub.plus 1 s p) (fun q hq => h q (List.mem_cons_of_mem p hq)) (by rw [e]; omega) (by rw [e]; omega)
    rw [tot_cons, show sumV 1 s (p :: L) = sumV 1 (MSub.plus 1 s p) L from rfl, this, e]
    omega
def NearAll (V : List S42) : Prop := ∀ p ∈ V, nearP p = true
theorem NearAll.rd {V : List S42} (h : NearAll V) (v : Int) : nearP (rd_T42 V v) = true := by
  unfold rd_T42
  rw [List.getD_eq_getElem?_getD]
  cases hg : V[v.toNat]? with
  | none => simp [z42, nearP]
  | some p => exact h p (List.mem_of_getElem? hg)
theorem facePt_part (hc : Part c) {V : List S42} (hV : NearAll V) {fc : List Int} (hl : fc.length ≤ 1048576) (h0 : 0 < fc.length) : c (facePt V fc) = faceZ (fun v => c (rd_T42 V v)) fc := by
  unfold facePt ptsOf faceZ
  have hp : ∀ p ∈ fc.map (rd_T42 V), -65536 ≤ c p ∧ c p ≤ 65536 := by
    intro p hp
    obtain ⟨v, _, rfl⟩ := List.mem_map.1 hp
    exact hc.near _ (hV.rd v)
  have hs := hc.sum (fc.map (rd_T42 V)) z42 hp (by rw [hc.z, List.length_map]; omega) (by rw [hc.z, List.length_map]; omega)
  have a := tot_le (fun p h => (hp p h).2)
  have b := le_tot (fun p h => (hp p h).1)
  rw [List.length_map] at a b
  rw [hc.of, hs, hc.z, Int.zero_add, rndM_eq _ _ (by omega) (by omega) (by omega) (by omega), tot_map]
theorem facePt_near {V : List S42} (hV : NearAll V) {fc : List Int} (hl : fc.length ≤ 1048576) (h0 : 0 < fc.length) : nearP (facePt V fc) = true := by
  refine nearP_of (fun c hc => ?_)
  rw [facePt_part hc hV hl h0]
  exact ⟨le_faceZ h0 (fun v _ => (hc.near _ (hV.rd v)).1), faceZ_le h0 (fun v _ => (hc.near _ (hV.rd v)).2)⟩
theorem rd_facePt {V : List S42} {F : List (List Int)} {g : Int} (h0 : 0 ≤ g) (h1 : g < F.length) : rd_T42 (F.map (facePt V)) g = facePt V (fcAt F g) := by
  have hg : g.toNat < F.length := by omega
  unfold rd_T42 fcAt
  simp [List.getD_eq_getElem?_getD, hg]
theorem edgePt_part (hc : Part c) {V FV : List S42} (hV : NearAll V) (hF : NearAll FV) (e : S47) (sh : Int) :
    c (edgePt V FV e sh) = edgeZ (c (rd_T42 V e.f0)) (c (rd_T42 V e.f1)) (c (rd_T42 FV e.f2)) (c (rd_T42 FV e.f3)) (sh == 0) := by
  have a := hc.near _ (hV.rd e.f0)
  have b := hc.near _ (hV.rd e.f1)
  have f := hc.near _ (hF.rd e.f2)
  have g := hc.near _ (hF.rd e.f3)
  have e1 := hc.plus_in (k := 1) (s := z42) (p := rd_T42 V e.f0) (by omega) (by omega) (by rw [hc.z]; omega) (by rw [hc.z]; omega)
  rw [hc.z] at e1
  have e2 := hc.plus_in (k := 1) (s := MSub.plus 1 z42 (rd_T42 V e.f0)) (p := rd_T42 V e.f1) (by omega) (by omega) (by omega) (by omega)
  have e3 := hc.plus_in (k := 1) (s := MSub.plus 1 (MSub.plus 1 z42 (rd_T42 V e.f0)) (rd_T42 V e.f1)) (p := rd_T42 FV e.f2) (by omega) (by omega) (by omega) (by omega)
  have e4 := hc.plus_in (k := 1) (s := MSub.plus 1 (MSub.plus 1 (MSub.plus 1 z42 (rd_T42 V e.f0)) (rd_T42 V e.f1)) (rd_T42 FV e.f2)) (p := rd_T42 FV e.f3) (by omega) (by omega) (by omega) (by omega)
  unfold edgePt edgeZ
  by_cases h : sh = 0
  · subst h
    rw [if_pos rfl, hc.of, rndM_eq _ _ (by omega) (by omega) (by omega) (by omega)]
    simp only [beq_self_eq_true, if_true]
    congr 1
    omega
  · have hb : (sh == 0) = false := by simpa using h
    rw [if_neg h, hc.of, rndM_eq _ _ (by omega) (by omega) (by omega) (by omega), hb]
    simp only [Bool.false_eq_true, if_false]
    congr 1
    omega
def vZ (D : Fin_) (x f : Int → Int) (v : Int) : Int :=
  if 2 < hardNo D (fcAt D.EV v) then x v
  else if hardNo D (fcAt D.EV v) = 2 then bendZ (x v) (tot (fun i => x ((rd_T47 D.ES i).f0 + (rd_T47 D.ES i).f1 - v)) ((fcAt D.EV v).filter (isHard D.SH)))
  else vertZ (fcAt D.FN v).length (x v) (tot (fun i => x ((rd_T47 D.ES i).f0 + (rd_T47 D.ES i).f1 - v)) (fcAt D.EV v)) (tot f (fcAt D.FN v))
theorem vertexPt_part (hc : Part c) {D : Fin_} (hV : NearAll D.V) (hF : NearAll D.FV) {v : Int} (hn : (fcAt D.FN v).length ≤ 1048576) (he : (fcAt D.EV v).length ≤ 1099511627776) (h1 : 1 ≤ (fcAt D.FN v).length) :
    c (vertexPt D v) = vZ D (fun u => c (rd_T42 D.V u)) (fun g => c (rd_T42 D.FV g)) v := by
  have hv := hc.near _ (hV.rd v)
  have hp : ∀ (l : List Int), ∀ p ∈ l.map (otherPt D.V D.ES v), -65536 ≤ c p ∧ c p ≤ 65536 := by
    intro l p hp
    obtain ⟨i, _, rfl⟩ := List.mem_map.1 hp
    exact hc.near _ (hV.rd _)
  have hq : ∀ (l : List Int), ∀ p ∈ l.map (rd_T42 D.FV), -65536 ≤ c p ∧ c p ≤ 65536 := by
    intro l p hp
    obtain ⟨i, _, rfl⟩ := List.mem_map.1 hp
    exact hc.near _ (hF.rd _)
  unfold vertexPt vZ
  by_cases h2 : 2 < hardNo D (fcAt D.EV v)
  · rw [if_pos h2, if_pos h2]
  · rw [if_neg h2, if_neg h2]
    by_cases h3 : hardNo D (fcAt D.EV v) = 2
    · rw [if_pos h3, if_pos h3]
      have hl : ((fcAt D.EV v).filter (isHard D.SH)).length = 2 := h3
      have hs := hc.sum _ z42 (hp ((fcAt D.EV v).filter (isHard D.SH))) (by rw [hc.z, List.length_map, hl]; omega) (by rw [hc.z, List.length_map, hl]; omega)
      have a := tot_le (fun p h => (hp ((fcAt D.EV v).filter (isHard D.SH)) p h).2)
      have b := le_tot (fun p h => (hp ((fcAt D.EV v).filter (isHard D.SH)) p h).1)
      rw [List.length_map, hl] at a b
      rw [hc.z, Int.zero_add] at hs
      have e := hc.plus_in (k := 6) (s := hardSum D v (fcAt D.EV v)) (p := rd_T42 D.V v) (by omega) (by omega) (by unfold hardSum; rw [hs]; omega) (by unfold hardSum; rw [hs]; omega)
      have e' : c (hardSum D v (fcAt D.EV v)) = tot c (((fcAt D.EV v).filter (isHard D.SH)).map (otherPt D.V D.ES v)) := hs
      rw [hc.of, e, e', rndM_eq _ _ (by omega) (by omega) (by omega) (by omega), tot_map]
      unfold bendZ otherPt
      rw [Int.mul_comm]
    · rw [if_neg h3, if_neg h3]
      generalize hnn : (fcAt D.FN v).length = n at *
      have hs := hc.sum _ z42 (hp (fcAt D.EV v)) (by rw [hc.z, List.length_map]; omega) (by rw [hc.z, List.length_map]; omega)
      have a := tot_le (fun p h => (hp (fcAt D.EV v) p h).2)
      have b := le_tot (fun p h => (hp (fcAt D.EV v) p h).1)
      rw [List.length_map] at a b
      rw [hc.z, Int.zero_add] at hs
      have e' : c (allSum D v (fcAt D.EV v)) = tot c ((fcAt D.EV v).map (otherPt D.V D.ES v)) := hs
      have hn0 : (n : Int) * ((n : Int) - 2) ≤ 1048576 * 1048576 := by
        rcases Nat.lt_or_ge n 2 with h | h
        · obtain rfl : n = 1 := by omega
          omega
        · exact Int.mul_le_mul (by omega) (by omega) (by omega) (by omega)
      have hn1 : -1048576 ≤ (n : Int) * ((n : Int) - 2) := by
        rcases Nat.lt_or_ge n 2 with h | h
        · obtain rfl : n = 1 := by omega
          omega
        · have := Int.mul_nonneg (show (0 : Int) ≤ n by omega) (show (0 : Int) ≤ (n : Int) - 2 by omega)
          omega
      have hm := abs_mul (A := 65536) (B := 1099511627776) hv (b := (n : Int) * ((n : Int) - 2)) ⟨by omega, by omega⟩
      have e := hc.plus_in (k := (n : Int) * ((n : Int) - 2)) (s := allSum D v (fcAt D.EV v)) (p := rd_T42 D.V v) (by omega) (by omega) (by rw [e']; omega) (by rw [e']; omega)
      have hs2 := hc.sum _ (MSub.plus ((n : Int) * ((n : Int) - 2)) (allSum D v (fcAt D.EV v)) (rd_T42 D.V v)) (hq (fcAt D.FN v)) (by rw [e, e', List.length_map, hnn]; omega) (by rw [e, e', List.length_map, hnn]; omega)
      have a2 := tot_le (fun p h => (hq (fcAt D.FN v) p h).2)
      have b2 := le_tot (fun p h => (hq (fcAt D.FN v) p h).1)
      rw [List.length_map, hnn] at a2 b2
      have hnn1 : (n : Int) * n ≤ 1048576 * 1048576 := Int.mul_le_mul (by omega) (by omega) (by omega) (by omega)
      have hnn2 : 1 * 1 ≤ (n : Int) * n := Int.mul_le_mul (by omega) (by omega) (by omega) (by omega)
      rw [hc.of, hs2, e, e', rndM_eq _ _ (by omega) (by omega) (by omega) (by omega), tot_map, tot_map]
      unfold vertZ otherPt
      congr 1
      rw [Int.mul_comm (c (rd_T42 D.V v))]
      dsimp only
      omega
end
end Go.Proofs.Ytnjdjfengoaleaa.MSub
namespace Go.Proofs.Ytnjdjfengoaleaa.MSub
open Go.RowKit Go.Proofs.YtnjdjfengoaleaaW.PrintWords Go.Proofs.YtnjdjfengoaleaaW.PrintLast Go.Proofs.YtnjdjfengoaleaaW.PrintMore
open Go.Proofs.Ytnjdjfengoaleaa.Relv
set_option linter.unusedVariables false
set_option linter.unusedSimpArgs false
def All2 {α β : Type} (R : α → β → Prop) : List α → List β → Prop
  | [], [] => True
  | a :: l, b :: m => R a b ∧ All2 R l m
  | _, _ => False
section
variable {α β γ : Type} {R : α → β → Prop}
theorem All2.append : ∀ {l l' : List α} {m m' : List β}, All2 R l m → All2 R l' m' → All2 R (l ++ l') (m ++ m')
  | [], _, [], _, _, h => h
  | a :: l, l', b :: m, m', h, h' => ⟨h.1, All2.append h.2 h'⟩
  | [], _, _ :: _, _, h, _ => h.elim
  | _ :: _, _, [], _, h, _ => h.elim
theorem All2.map {f : γ → α} {g : γ → β} : ∀ {l : List γ}, (∀ c ∈ l, R (f c) (g c)) → All2 R (l.map f) (l.map g)
  | [], _ => trivial
  | c :: l, h => ⟨h c (by simp), All2.map (fun d hd => h d (by simp [hd]))⟩
theorem All2.get : ∀ {l : List α} {m : List β}, All2 R l m → ∀ (i : Nat) (h1 : i < l.length) (h2 : i < m.length), R l[i] m[i]
  | a :: l, b :: m, h, 0, _, _ => h.1
  | a :: l, b :: m, h, i + 1, h1, h2 => h.2.get i (by simpa using h1) (by simpa using h2)
  | [], [], _, i, h1, _ => absurd h1 (by simp)
end
def eZ (D : Fin_) (x f : Int → Int) (i : Int) : Int := edgeZ (x (rd_T47 D.ES i).f0) (x (rd_T47 D.ES i).f1) (f (rd_T47 D.ES i).f2) (f (rd_T47 D.ES i).f3) (rd D.SH i == 0)
def fZ (F : List (List Int)) (x : Int → Int) (g : Int) : Int := faceZ x (fcAt F g)
def levZ (D : Fin_) (F : List (List Int)) (x : Int → Int) : List Int :=
  (List.range D.V.length).map (fun v : Nat => vZ D x (fZ F x) v) ++ (List.range D.ES.length).map (fun i : Nat => eZ D x (fZ F x) i) ++ (List.range F.length).map (fun g : Nat => fZ F x g)
theorem tot_in {α : Type} {f g : α → Int} {l : List α} (h : ∀ a ∈ l, f a = g a) : tot f l = tot g l := tot_congr h
section
variable {D : Fin_} {F : List (List Int)}
theorem face_ok (h : Built D F) {g : Int} (h0 : 0 ≤ g) (h1 : g < F.length) : FaceOk D.V.length (fcAt F g) ∧ (fcAt F g).length ≤ 1048576 := by
  obtain ⟨k, rfl⟩ : ∃ k : Nat, g = k := ⟨g.toNat, by omega⟩
  exact ⟨facesOk h.surf k (by omega), small_face h.small _⟩
theorem fn_at (h : Built D F) {v : Nat} (hv : v < D.V.length) : fcAt D.FN (v : Int) = fanAt F v := by
  rw [h.fn]
  unfold fcAt
  simp [List.getD_eq_getElem?_getD, hv]
theorem fan_pos (h : Built D F) {v : Nat} (hv : v < D.V.length) : 1 ≤ (fcAt D.FN (v : Int)).length ∧ (fcAt D.FN (v : Int)).length ≤ 1048576 := by
  have hok := fan_ok_at h.surf v (by omega)
  have hml := mine_len h.surf v
  have hFl := small_len h.small
  have := List.length_pos_iff.2 (mine_ne hok)
  rw [fn_at h hv, fan_len hok]
  omega
theorem fan_in (h : Built D F) {v : Nat} (hv : v < D.V.length) : ∀ g ∈ fcAt D.FN (v : Int), 0 ≤ g ∧ g < F.length := by
  intro g hg
  rw [fn_at h hv] at hg
  exact fan_mem_ok (n := D.V.length) h.small v (mine_ne (fan_ok_at h.surf v (by omega))) g hg
theorem oth_in (h : Built D F) {v : Nat} (hv : v < D.V.length) : ∀ i ∈ fcAt D.EV (v : Int), 0 ≤ (rd_T47 D.ES i).f0 + (rd_T47 D.ES i).f1 - v ∧ (rd_T47 D.ES i).f0 + (rd_T47 D.ES i).f1 - v < D.V.length := by
  intro i hi
  obtain ⟨_, _, _, h1, h2⟩ := (vtx_ok h v hv).edge i hi
  exact ⟨h1, h2⟩
theorem soft_faces (h : Built D F) {i : Nat} (hi : i < D.ES.length) (hs : rd D.SH (i : Int) = 0) : (0 ≤ (rd_T47 D.ES i).f2 ∧ (rd_T47 D.ES i).f2 < F.length) ∧ (0 ≤ (rd_T47 D.ES i).f3 ∧ (rd_T47 D.ES i).f3 < F.length) := by
  obtain ⟨X, hX⟩ := h.sh
  have := sharp_soft hX hi hs
  have he := rd_edge h hi
  have := he.f2
  have := he.f3
  omega
theorem levelV_part {c : S42 → Int} (hc : Part c) (h : Built D F) (hV : NearAll D.V) (hFV : D.FV = F.map (facePt D.V)) : (levelV D).map c = levZ D F (fun v => c (rd_T42 D.V v)) := by
  have hnear : NearAll D.FV := by
    intro p hp
    rw [hFV] at hp
    obtain ⟨fc, hfc, rfl⟩ := List.mem_map.1 hp
    obtain ⟨k, hk, rfl⟩ := List.getElem_of_mem hfc
    have hf := face_ok h (g := k) (by omega) (by omega)
    have e : fcAt F (k : Int) = F[k] := by simp [fcAt, List.getD_eq_getElem?_getD, hk]
    rw [e] at hf
    exact facePt_near hV hf.2 (by have := hf.1.three; omega)
  have hface : ∀ g : Int, 0 ≤ g → g < F.length → c (rd_T42 D.FV g) = fZ F (fun v => c (rd_T42 D.V v)) g := by
    intro g h0 h1
    obtain ⟨hf1, hf2⟩ := face_ok h h0 h1
    rw [hFV, rd_facePt h0 h1, facePt_part hc hV hf2 (by have := hf1.three; omega)]
    rfl
  unfold levelV levZ
  rw [List.map_append, List.map_append]
  congr 1
  congr 1
  · rw [List.map_map]
    refine List.map_congr_left (fun v hv => ?_)
    have hv := List.mem_range.1 hv
    have hok := vtx_ok h v hv
    obtain ⟨hp1, hp2⟩ := fan_pos h hv
    show c (vertexPt D v) = _
    have hel : (fcAt D.EV (v : Int)).length ≤ 1099511627776 := by
      rw [h.ev, star_at hv]
      have h1 := List.length_filterMap_le (fun i : Nat => if (rd_T47 D.ES i).f0 = v ∨ (rd_T47 D.ES i).f1 = v then some (i : Int) else none) (List.range D.ES.length)
      rw [List.length_range] at h1
      have h2 := edges_len h.small
      rw [← h.es] at h2
      omega
    rw [vertexPt_part hc hV hnear hp2 hel hp1]
    unfold vZ
    rw [tot_in (l := fcAt D.FN (v : Int)) (fun g hg => hface g (fan_in h hv g hg).1 (fan_in h hv g hg).2)]
  · rw [List.map_map]
    refine List.map_congr_left (fun i hi => ?_)
    have hi := List.mem_range.1 hi
    show c (edgePt D.V D.FV (rd_T47 D.ES i) (rd D.SH i)) = _
    rw [edgePt_part hc hV hnear]
    unfold eZ
    by_cases hs : rd D.SH (i : Int) = 0
    · obtain ⟨a, b⟩ := soft_faces h hi hs
      rw [hface _ a.1 a.2, hface _ b.1 b.2]
    · have hb : (rd D.SH (i : Int) == 0) = false := by simpa using hs
      rw [hb]
      rfl
  · rw [hFV, List.map_map]
    refine List.ext_getElem (by simp) (fun k h1 h2 => ?_)
    have hk : k < F.length := by simpa using h1
    obtain ⟨hf1, hf2⟩ := face_ok h (g := (k : Int)) (by omega) (by omega)
    have e : fcAt F (k : Int) = F[k] := by simp [fcAt, List.getD_eq_getElem?_getD, hk]
    simp only [List.getElem_map, List.getElem_range, Function.comp]
    unfold fZ
    rw [e] at hf1 hf2 ⊢
    exact facePt_part hc hV hf2 (by have := hf1.three; omega)
theorem levZ_all {x y : Int → Int} (h : Built D F) (R : Int → Int → Prop)
    (hf : ∀ g : Int, 0 ≤ g → g < F.length → R (fZ F x g) (fZ F y g))
    (he : ∀ i : Nat, i < D.ES.length → R (eZ D x (fZ F x) i) (eZ D y (fZ F y) i))
    (hv : ∀ v : Nat, v < D.V.length → R (vZ D x (fZ F x) v) (vZ D y (fZ F y) v)) : All2 R (levZ D F x) (levZ D F y) :=
  ((All2.map (fun v hv' => hv v (List.mem_range.1 hv'))).append (All2.map (fun i hi => he i (List.mem_range.1 hi)))).append (All2.map (fun g hg => hf g (by omega) (by have := List.mem_range.1 hg; omega)))
theorem levZ_move (h : Built D F) {x y : Int → Int} {b : Int} (hxy : ∀ v : Int, 0 ≤ v → v < D.V.length → y v = x v + b) : All2 (fun p q => q = p + b) (levZ D F x) (levZ D F y) := by
  have hf : ∀ g : Int, 0 ≤ g → g < F.length → fZ F y g = fZ F x g + b := by
    intro g h0 h1
    have hfo := (face_ok h h0 h1).1
    unfold fZ
    rw [faceZ_congr (fun v hv => hxy v (hfo.lo v hv) (hfo.hi v hv)), faceZ_move b (by have := hfo.three; omega)]
  refine levZ_all h _ hf ?_ ?_
  · intro i hi
    have ho := rd_edge h hi
    have a := hxy (rd_T47 D.ES i).f0 ho.lo (by have := ho.lt; have := ho.hi; omega)
    have c := hxy (rd_T47 D.ES i).f1 (by have := ho.lo; have := ho.lt; omega) ho.hi
    unfold eZ
    rw [a, c]
    by_cases hs : rd D.SH (i : Int) = 0
    · obtain ⟨p, q⟩ := soft_faces h hi hs
      rw [hf _ p.1 p.2, hf _ q.1 q.2, edgeZ_move]
    · have hb : (rd D.SH (i : Int) == 0) = false := by simpa using hs
      rw [hb]
      exact edgeZ_move _ _ (fZ F x (rd_T47 D.ES i).f2) (fZ F x (rd_T47 D.ES i).f3) b false
  · intro v hv
    have e : ∀ l : List Int, (∀ i ∈ l, i ∈ fcAt D.EV (v : Int)) → tot (fun i => y ((rd_T47 D.ES i).f0 + (rd_T47 D.ES i).f1 - v)) l = tot (fun i => x ((rd_T47 D.ES i).f0 + (rd_T47 D.ES i).f1 - v)) l + l.length * b := by
      intro l hl
      rw [← tot_move]
      exact tot_congr (fun i hi => by
        obtain ⟨p, q⟩ := oth_in h hv i (hl i hi)
        exact hxy _ p q)
    have hvv := hxy v (by omega) (by omega)
    unfold vZ
    by_cases h2 : 2 < hardNo D (fcAt D.EV (v : Int))
    · rw [if_pos h2, if_pos h2]
      exact hvv
    · rw [if_neg h2, if_neg h2]
      by_cases h3 : hardNo D (fcAt D.EV (v : Int)) = 2
      · rw [if_pos h3, if_pos h3, hvv, e _ (fun i hi => (List.mem_filter.1 hi).1), show ((fcAt D.EV (v : Int)).filter (isHard D.SH)).length = 2 from h3]
        exact bendZ_move _ _ _
      · rw [if_neg h3, if_neg h3, hvv, e _ (fun i hi => hi)]
        have hs := star_fan h v hv (by omega)
        have ht := star_two h v hv (by omega)
        have ef : tot (fZ F y) (fcAt D.FN (v : Int)) = tot (fZ F x) (fcAt D.FN (v : Int)) + (fcAt D.FN (v : Int)).length * b := by
          rw [← tot_move]
          exact tot_congr (fun g hg => hf g (fan_in h hv g hg).1 (fan_in h hv g hg).2)
        rw [ef, hs]
        exact vertZ_move (by omega)
theorem levZ_box (h : Built D F) {x : Int → Int} {lo hi : Int} (hx : ∀ v : Int, 0 ≤ v → v < D.V.length → lo ≤ x v ∧ x v ≤ hi) : All2 (fun p _ => lo ≤ p ∧ p ≤ hi) (levZ D F x) (levZ D F x) := by
  have hf : ∀ g : Int, 0 ≤ g → g < F.length → lo ≤ fZ F x g ∧ fZ F x g ≤ hi := by
    intro g h0 h1
    have hfo := (face_ok h h0 h1).1
    have h3 := hfo.three
    exact ⟨le_faceZ (by omega) (fun v hv => (hx v (hfo.lo v hv) (hfo.hi v hv)).1), faceZ_le (by omega) (fun v hv => (hx v (hfo.lo v hv) (hfo.hi v hv)).2)⟩
  refine levZ_all h _ hf ?_ ?_
  · intro i hi'
    have ho := rd_edge h hi'
    have a := hx (rd_T47 D.ES i).f0 ho.lo (by have := ho.lt; have := ho.hi; omega)
    have c := hx (rd_T47 D.ES i).f1 (by have := ho.lo; have := ho.lt; omega) ho.hi
    have s : (rd D.SH (i : Int) == 0) = true → (lo ≤ fZ F x (rd_T47 D.ES i).f2 ∧ fZ F x (rd_T47 D.ES i).f2 ≤ hi) ∧ (lo ≤ fZ F x (rd_T47 D.ES i).f3 ∧ fZ F x (rd_T47 D.ES i).f3 ≤ hi) := by
      intro hs
      obtain ⟨p, q⟩ := soft_faces h hi' (by simpa using hs)
      exact ⟨hf _ p.1 p.2, hf _ q.1 q.2⟩
    exact ⟨le_edgeZ a.1 c.1 (fun hs => (s hs).1.1) (fun hs => (s hs).2.1), edgeZ_le a.2 c.2 (fun hs => (s hs).1.2) (fun hs => (s hs).2.2)⟩
  · intro v hv
    have hvv := hx v (by omega) (by omega)
    have e1 : ∀ l : List Int, (∀ i ∈ l, i ∈ fcAt D.EV (v : Int)) → l.length * lo ≤ tot (fun i => x ((rd_T47 D.ES i).f0 + (rd_T47 D.ES i).f1 - v)) l := fun l hl => le_tot (fun i hi' => by
      obtain ⟨p, q⟩ := oth_in h hv i (hl i hi')
      exact (hx _ p q).1)
    have e2 : ∀ l : List Int, (∀ i ∈ l, i ∈ fcAt D.EV (v : Int)) → tot (fun i => x ((rd_T47 D.ES i).f0 + (rd_T47 D.ES i).f1 - v)) l ≤ l.length * hi := fun l hl => tot_le (fun i hi' => by
      obtain ⟨p, q⟩ := oth_in h hv i (hl i hi')
      exact (hx _ p q).2)
    unfold vZ
    by_cases h2 : 2 < hardNo D (fcAt D.EV (v : Int))
    · rw [if_pos h2]
      exact hvv
    · rw [if_neg h2]
      by_cases h3 : hardNo D (fcAt D.EV (v : Int)) = 2
      · rw [if_pos h3]
        have a := e1 ((fcAt D.EV (v : Int)).filter (isHard D.SH)) (fun i hi' => (List.mem_filter.1 hi').1)
        have b := e2 ((fcAt D.EV (v : Int)).filter (isHard D.SH)) (fun i hi' => (List.mem_filter.1 hi').1)
        rw [show ((fcAt D.EV (v : Int)).filter (isHard D.SH)).length = 2 from h3] at a b
        exact ⟨le_bendZ hvv.1 (by simpa using a), bendZ_le hvv.2 (by simpa using b)⟩
      · rw [if_neg h3]
        have hs := star_fan h v hv (by omega)
        have ht := star_two h v hv (by omega)
        have a := e1 _ (fun i hi' => hi')
        have b := e2 _ (fun i hi' => hi')
        rw [hs] at a b
        exact ⟨le_vertZ (by omega) hvv.1 a (le_tot (fun g hg => (hf g (fan_in h hv g hg).1 (fan_in h hv g hg).2).1)), vertZ_le (by omega) hvv.2 b (tot_le (fun g hg => (hf g (fan_in h hv g hg).1 (fan_in h hv g hg).2).2))⟩
end
end Go.Proofs.Ytnjdjfengoaleaa.MSub
namespace Go.Proofs.Ytnjdjfengoaleaa.MSub
open Go.RowKit Go.Proofs.YtnjdjfengoaleaaW.PrintWords Go.Proofs.YtnjdjfengoaleaaW.PrintLast Go.Proofs.YtnjdjfengoaleaaW.PrintMore
open Go.Proofs.Ytnjdjfengoaleaa.Relv
set_option linter.unusedVariables false
set_option linter.unusedSimpArgs false
structure LvR (w W : World) (g2 g4 : Nat) (cg tp : Array Value) (Ae Af Ar A6 : Option Addr) (ES : List S47) (FN : List (List Int)) (RD : List Bool) (SH : List Int) : Prop where
  b : Below w.heap.size w W
  cage : W.heap[w.heap.size]? = some (.cells cg 26 (0, 0))
  res : W.heap[g2]? = some (.cells #[.slice none 0 0, .slice none 0 0, .slice none 0 0] 26 (0, 0))
  topo : W.heap[g4]? = some (.cells tp 36 (0, 0))
  hi : w.heap.size ≤ g2
  es : Kd.C k47 W Ae ES.length ES
  fn : Kd.C (Kd.slice 3 (Kd.int .i64)) W Af FN.length FN
  rd : Kd.C Kd.bool W Ar RD.length RD
  sh : Kd.C (Kd.int .i64) W A6 SH.length SH
section
variable {w W W' : World} {g2 g4 : Nat} {cg tp : Array Value} {Ae Af Ar A6 : Option Addr} {ES : List S47} {FN : List (List Int)} {RD : List Bool} {SH : List Int}
theorem LvR.step (h : LvR w W g2 g4 cg tp Ae Af Ar A6 ES FN RD SH) (hb : Below W.heap.size W W') : LvR w W' g2 g4 cg tp Ae Af Ar A6 ES FN RD SH :=
  ⟨below_then h.b h.b.size hb, (hb.block _ (lt_of_block h.cage)).trans h.cage, (hb.block _ (lt_of_block h.res)).trans h.res, (hb.block _ (lt_of_block h.topo)).trans h.topo, h.hi, Kd.C_below h.es hb, Kd.C_below h.fn hb, Kd.C_below h.rd hb, Kd.C_below h.sh hb⟩
end
theorem stars_zero (n : Nat) (ES : List S47) : starsTo n ES 0 = List.replicate n [] := by
  unfold starsTo
  rw [List.eq_replicate_iff]
  exact ⟨by simp, fun b hb => by obtain ⟨i, _, rfl⟩ := List.mem_map.1 hb; simp⟩
theorem star_len {n : Nat} {ES : List S47} {k v : Nat} (hv : v < n) : (fcAt (starsTo n ES k) (v : Int)).length ≤ k := by
  rw [star_at hv]
  have := List.length_filterMap_le (fun i : Nat => if (rd_T47 ES i).f0 = v ∨ (rd_T47 ES i).f1 = v then some (i : Int) else none) (List.range k)
  rwa [List.length_range] at this
theorem fcAt_set (xs : List (List Int)) (a b : Nat) (x : List Int) (hb : b < xs.length) : fcAt (xs.set b x) (a : Int) = if b = a then x else fcAt xs (a : Int) := by
  unfold fcAt
  rw [Int.toNat_natCast, List.getD_eq_getElem?_getD, List.getD_eq_getElem?_getD, List.getElem?_set]
  by_cases h : b = a
  · subst h
    rw [if_pos rfl, if_pos rfl, if_pos hb]
    rfl
  · rw [if_neg h, if_neg h]
theorem star_step {n : Nat} {ES : List S47} {i a0 a1 : Nat} {x2 x3 : Int} (he : rd_T47 ES (i : Int) = ⟨a0, a1, x2, x3⟩) (h0 : a0 < a1) (h1 : a1 < n) :
    ((starsTo n ES i).set a0 (fcAt (starsTo n ES i) (a0 : Int) ++ [(i : Int)])).set a1 (fcAt ((starsTo n ES i).set a0 (fcAt (starsTo n ES i) (a0 : Int) ++ [(i : Int)])) (a1 : Int) ++ [(i : Int)]) = starsTo n ES (i + 1) := by
  have hl : (starsTo n ES i).length = n := by simp [starsTo]
  rw [fcAt_set _ _ _ _ (by omega), if_neg (by omega)]
  refine List.ext_getElem (by simp [starsTo]) (fun v hv1 hv2 => ?_)
  have hv : v < n := by simpa [starsTo] using hv2
  have key : ∀ k, (hk : v < (starsTo n ES k).length) → (starsTo n ES k)[v] = fcAt (starsTo n ES k) (v : Int) := by
    intro k hk
    unfold fcAt
    rw [Int.toNat_natCast, List.getD_eq_getElem?_getD, List.getElem?_eq_getElem hk]
    rfl
  have hs : fcAt (starsTo n ES (i + 1)) (v : Int) = if a0 = v ∨ a1 = v then fcAt (starsTo n ES i) (v : Int) ++ [(i : Int)] else fcAt (starsTo n ES i) (v : Int) := by
    rw [star_at hv, star_at hv, List.range_succ, List.filterMap_append]
    have hc : ((rd_T47 ES i).f0 = (v : Int) ∨ (rd_T47 ES i).f1 = (v : Int)) ↔ (a0 = v ∨ a1 = v) := by
      rw [he]
      simp only
      omega
    by_cases h : a0 = v ∨ a1 = v
    · rw [if_pos h]
      simp [hc.2 h]
    · rw [if_neg h]
      simp only [List.filterMap_cons, List.filterMap_nil]
      rw [if_neg (fun e => h (hc.1 e))]
      simp
  rw [key (i + 1) (by omega), hs, List.getElem_set, List.getElem_set]
  by_cases e1 : a1 = v
  · subst e1
    rw [if_pos rfl, if_pos (Or.inr rfl)]
  · rw [if_neg e1]
    by_cases e0 : a0 = v
    · subst e0
      rw [if_pos rfl, if_pos (Or.inl rfl)]
    · rw [if_neg e0, if_neg (by omega), key i (by omega)]
theorem infoS29 : (Try.prog.info? 29).map (·.size) = some 1 := by kernel_rfl
theorem put_dst {K : Act → World → Prop} {o : Oper} {a : Act} {v : Value} {w : World} (N : Option Tmp) (hN : o.dst = N) (h : K (a.put N v) w) : K (a.put o.dst v) w := by
  subst hN
  exact h
theorem infoS22 : (Try.prog.info? 22).map (·.size) = some 1 := by kernel_rfl
theorem infoS24 : (Try.prog.info? 24).map (·.size) = some 1 := by kernel_rfl
theorem take_map_succ {α β : Type} (f : α → β) (l : List α) (k : Nat) (h : k < l.length) : (l.take (k + 1)).map f = (l.take k).map f ++ [f l[k]] := by
  rw [List.take_succ_eq_append_getElem h, List.map_append]
  rfl
theorem creases_len (n : Nat) (e : S47) (s i : Int) : (creasesOf n e s i).length ≤ 2 := by
  unfold creasesOf
  split <;> simp
abbrev kRow := Kd.slice 3 (Kd.int .i64)
structure St1 (W wr : World) (g7 : Nat) (D : Fin_) : Prop where
  b : Below W.heap.size W wr
  at_ : wr.heap[g7]? = some D.obj
  hi : W.heap.size ≤ g7
  s : Kd.S kRow 29 wr W.heap.size (fun k => k ≠ g7) (.slice D.A7 D.EV.length D.c7) D.EV
def lvFin (V : List S42) (F : List (List Int)) (X : List S53) (ES : List S47) (FN : List (List Int)) (RD : List Bool) (SH : List Int) (A0 A1 A2 A3 A4 A5 A6 A7 A8 : Option Addr) (c0 c1 c2 c3 c4 c5 c6 c7 c8 : Nat) (EV : List (List Int)) (FV : List S42) : Fin_ :=
  ⟨V, F, X, ES, FN, RD, SH, EV, FV, A0, A1, A2, A3, A4, A5, A6, A7, A8, c0, c1, c2, c3, c4, c5, c6, c7, c8⟩
def Fin_.withEV (D : Fin_) (EV : List (List Int)) : Fin_ := { D with EV := EV }
theorem withEV_obj (D : Fin_) (EV : List (List Int)) (h : EV.length = D.EV.length) : (D.withEV EV).obj = D.obj := by
  unfold Fin_.obj Fin_.withEV
  simp only [h]
theorem cell_after {W W' : World} {row : Option Nat} (hg : W.grownBy W' row) {b o : Nat} (hb : b < W.heap.size) (hne : some b ≠ row) : W'.cell? ⟨b, o, none⟩ = W.cell? ⟨b, o, none⟩ := by
  unfold World.cell?
  rw [hg.block b hb hne]
section
variable {W wr w1 w2 : World} {g7 : Nat} {D : Fin_}
theorem St1.step (h : St1 W wr g7 D) (hb : Below wr.heap.size wr w1) : St1 W w1 g7 D :=
  ⟨below_then h.b h.b.size hb, (hb.block _ (lt_of_block h.at_)).trans h.at_, h.hi, Kd.S_below h.s hb⟩
theorem St1.lend (h : St1 W wr g7 D) (a : Int) (h0 : 0 ≤ a) (h1 : a < D.EV.length) :
    ∃ (gE : Nat) (oki : Nat → Prop) (v : Value), D.A7 = some ⟨gE, 0, none⟩ ∧ gE < wr.heap.size ∧ W.heap.size ≤ gE ∧ gE ≠ g7 ∧ (Kd.int .i64).R 3 wr W.heap.size oki v (fcAt D.EV a) ∧ wr.cell? ⟨gE, a.toNat, none⟩ = some v ∧ (∀ k, oki k → k ≠ g7 ∧ k ≠ gE) ∧
      Kd.H kRow 29 wr W.heap.size (fun k => k ≠ g7) (.slice (some ⟨gE, 0, none⟩) D.EV.length D.c7) D.EV a oki [v] := by
  obtain ⟨gE, cap, he, hb1, hb2, _⟩ := Kd.S_form h.s (by omega)
  injection he with e1 e2 e3
  have hs := h.s
  rw [e1] at hs
  obtain ⟨oki, c, hcl, hM, hcc, hoki, hH⟩ := Kd.S_lend hs ([] : List Int) a h0 h1
  obtain ⟨v, rfl, hR⟩ := hM
  have hcc0 := hcc 0 v rfl
  have hok : gE ≠ g7 := hs.elim (fun f hf => hf.1 gE rfl)
  refine ⟨gE, oki, v, e1, hb2, hb1, hok, hR, ?_, fun k hk => ⟨(hoki k hk).1, (hoki k hk).2⟩, hH⟩
  rwa [show (kRow).sz = 1 from rfl, Nat.mul_one, Nat.add_zero] at hcc0
theorem St1.put {gE : Nat} {oki : Nat → Prop} {v v1 : Value} {a i : Int} {W2 w1 : World} (h : St1 W wr g7 D) (h0 : 0 ≤ a) (h1 : a < D.EV.length) (hA : D.A7 = some ⟨gE, 0, none⟩) (hlt : gE < wr.heap.size) (hbase : W.heap.size ≤ gE) (hne : gE ≠ g7)
    (hR : (Kd.int .i64).R 3 wr W.heap.size oki v (fcAt D.EV a)) (hoki : ∀ k, oki k → k ≠ g7 ∧ k ≠ gE)
    (hH : Kd.H kRow 29 wr W.heap.size (fun k => k ≠ g7) (.slice (some ⟨gE, 0, none⟩) D.EV.length D.c7) D.EV a oki [v])
    (hb : Below wr.heap.size wr W2) (hR1 : (Kd.int .i64).R 3 w1 W.heap.size (fun k => oki k ∨ (k ≠ g7 ∧ W2.heap.size ≤ k)) v1 (fcAt D.EV a ++ [i])) (hg : W2.grownBy w1 v.ownBlock) :
    St1 W (w1.setCells gE a.toNat [v1]) g7 (D.withEV (D.EV.set a.toNat (fcAt D.EV a ++ [i]))) ∧ (∃ cur : Array Value, w1.heap[gE]? = some (.cells cur 29 (0, 0)) ∧ a.toNat + 1 ≤ cur.size) := by
  have hvo : ∀ k, v.ownBlock = some k → oki k := hR.1
  have hH2 := Kd.H_widen (Kd.H_below hH hb)
  have hH3 := Kd.H_grown hH2 hg (fun k hk => .inl (hvo k hk))
  have hseg := Kd.S_seg0 hH3 h0 h1 (seg := [v1]) (j := 0) (show 0 + 1 ≤ 1 from by decide) (x' := fcAt D.EV a ++ [i]) (Kd.M_row hR1) (fun _ hk => hk)
  rw [show (kRow).sz = 1 from rfl, Nat.mul_one, Nat.add_zero] at hseg
  obtain ⟨hS, hg2⟩ := hseg
  have hz : wr.heap.size ≤ W2.heap.size := hb.size
  have hvne : ∀ k, k = g7 ∨ k = gE → some k ≠ v.ownBlock := fun k hk e => by
    have := hoki k (hvo k e.symm)
    rcases hk with rfl | rfl
    · exact this.1 rfl
    · exact this.2 rfl
  have h7 : w1.heap[g7]? = some D.obj := (hg.block _ (by have := lt_of_block h.at_; omega) (hvne g7 (.inl rfl))).trans ((hb.block _ (lt_of_block h.at_)).trans h.at_)
  have hl : (D.EV.set a.toNat (fcAt D.EV a ++ [i])).length = D.EV.length := by simp
  have hbel : Below W.heap.size W w1 := (below_then h.b h.b.size hb).grown hg (by have := h.b.size; omega) (fun k hk => (Kd.R_base hR) k hk)
  refine ⟨⟨hbel.grown hg2 hbel.size (fun k hk => by cases hk; exact hbase), ?_, h.hi, ?_⟩, ?_⟩
  · rw [withEV_obj _ _ hl]
    exact (hg2.block _ (lt_of_block h7) (fun e => hne (Option.some.inj e).symm)).trans h7
  · show Kd.S kRow 29 _ W.heap.size (fun k => k ≠ g7) (.slice D.A7 (D.EV.set a.toNat (fcAt D.EV a ++ [i])).length D.c7) (D.EV.set a.toNat (fcAt D.EV a ++ [i]))
    rw [hA, hl]
    exact hS
  · have hs := h.s
    rw [hA] at hs
    obtain ⟨inner, ho⟩ := Kd.S_own (Kd.S_below hs hb)
    have hgE1 : w1.heap[gE]? = W2.heap[gE]? := hg.block _ (by omega) (hvne gE (.inr rfl))
    rcases ho.2 with ⟨h3, _⟩ | ⟨g, cap, cur, h3, hg3, hh, r1, r2, r3, r4⟩
    · cases h3
    · injection h3 with h3 _ _
      injection h3 with h3
      injection h3 with h3 _ _
      subst h3
      refine ⟨cur, hgE1.trans hh, ?_⟩
      rw [show (kRow).sz = 1 from rfl] at r3
      omega
end
structure St2 (W wr : World) (g7 : Nat) (D : Fin_) : Prop where
  b : Below W.heap.size W wr
  at_ : wr.heap[g7]? = some D.obj
  hi : W.heap.size ≤ g7
  ev : Kd.R kRow 29 wr W.heap.size (fun _ => True) (.slice D.A7 D.EV.length D.c7) D.EV
  fv : Kd.R k42 42 wr W.heap.size (fun _ => True) (.slice D.A8 D.FV.length D.c8) D.FV
def Fin_.withFV (D : Fin_) (A : Option Addr) (c : Nat) (FV : List S42) : Fin_ := { D with FV := FV, A8 := A, c8 := c }
section
variable {W wr w1 w2 : World} {g7 : Nat} {D : Fin_}
theorem St1.next (h : St1 W wr g7 D) (h8 : D.A8 = none) (hF : D.FV = []) (hc : D.c8 = 0) : St2 W wr g7 D :=
  ⟨h.b, h.at_, h.hi, Kd.R_mono (Kd.S_R h.s) (fun _ _ => trivial), by rw [h8, hF, hc]; exact Kd.R_nil _ _ _ _ _⟩
theorem St2.step (h : St2 W wr g7 D) (hb : Below wr.heap.size wr w1) : St2 W w1 g7 D :=
  ⟨below_then h.b h.b.size hb, (hb.block _ (lt_of_block h.at_)).trans h.at_, h.hi, Kd.R_below h.ev hb, Kd.R_below h.fv hb⟩
theorem St2.put {A : Option Addr} {c n : Nat} {p : S42} (h : St2 W wr g7 D) (hr : Kd.R k42 42 w1 W.heap.size (fun _ => True) (.slice A n c) (D.FV ++ [p])) (hg : wr.grownBy w1 (Value.slice D.A8 D.FV.length D.c8).ownBlock) (hg2 : w1.grownBy w2 (some g7))
    (hat : ∃ cur : Array Value, w2.heap[g7]? = some (.cells cur 79 (0, 0)) ∧ cur.toList = (#[Value.slice D.A0 D.V.length D.c0, .slice D.A1 D.F.length D.c1, .slice D.A2 D.X.length D.c2, .slice D.A3 D.ES.length D.c3, .slice D.A4 D.FN.length D.c4, .slice D.A5 D.RD.length D.c5, .slice D.A6 D.SH.length D.c6, .slice D.A7 D.EV.length D.c7, .slice A n c] : Array Value).toList) :
    St2 W w2 g7 (D.withFV A c (D.FV ++ [p])) := by
  have hn := (Kd.R_reads' hr).1
  subst hn
  have hne : some g7 ≠ (Value.slice D.A8 D.FV.length D.c8).ownBlock := Kd.R_ne h.fv h.at_ (by decide)
  have h1 : w1.heap[g7]? = some D.obj := (hg.block _ (lt_of_block h.at_) hne).trans h.at_
  have hty := Kd.R_typed h.fv
  have hbel : Below W.heap.size W w1 := h.b.grown hg h.b.size (fun k hk => Kd.R_base h.fv k hk)
  obtain ⟨cur, hc1, hc2⟩ := hat
  refine ⟨hbel.grown hg2 hbel.size (fun k hk => by cases hk; exact h.hi), ?_, h.hi, ?_, ?_⟩
  · rw [hc1]
    have : cur = _ := Array.toList_inj.1 hc2
    rw [this]
    rfl
  · exact R_block (Kd.R_over' h.ev hty (by decide) hg) h1 (by decide) hg2
  · exact R_block hr h1 (by decide) hg2
theorem St2.finer {g2 g4 : Nat} {cg tp : Array Value} {w : World} (h : St2 W wr g7 D) (hL : LvR w W g2 g4 cg tp D.A3 D.A4 D.A5 D.A6 D.ES D.FN D.RD D.SH) (hV : Kd.C k42 w D.A0 D.V.length D.V) (h3 : D.ES.length ≤ D.c3) (h4 : D.FN.length ≤ D.c4) (h5 : D.RD.length ≤ D.c5) : FinerR wr g7 D :=
  have hL2 := hL.step h.b
  ⟨h.at_, Kd.C_below hV hL2.b, hL2.es, hL2.fn, hL2.rd, hL2.sh, (Kd.R_reads' h.ev).2.2, (Kd.R_reads' h.fv).2.2, h3, h4, h5⟩
end
structure St3 (W wr : World) (v0 v1 v2 : Value) (vs : List S42) (fs : List (List Int)) (xs : List S53) : Prop where
  b : Below W.heap.size W wr
  at_ : wr.heap[W.heap.size]? = some (.cells #[v0, v1, v2] 26 (0, 0))
  r0 : Kd.R k42 42 wr W.heap.size (fun _ => True) v0 vs
  r1 : Kd.R kRow 29 wr W.heap.size (fun _ => True) v1 fs
  r2 : Kd.R k53 53 wr W.heap.size (fun _ => True) v2 xs
section
variable {W wr w1 w2 : World} {v0 v1 v2 v' : Value} {vs : List S42} {fs : List (List Int)} {xs : List S53}
theorem St3.made (W : World) : St3 W (W.alloc (.cells #[.slice none 0 0, .slice none 0 0, .slice none 0 0] 26)) (.slice none 0 0) (.slice none 0 0) (.slice none 0 0) [] [] [] :=
  ⟨below_alloc (Below.refl _ _) _, heap_alloc_new _ _, Kd.R_nil _ _ _ _ _, Kd.R_nil _ _ _ _ _, Kd.R_nil _ _ _ _ _⟩
theorem St3.step (h : St3 W wr v0 v1 v2 vs fs xs) (hb : Below wr.heap.size wr w1) : St3 W w1 v0 v1 v2 vs fs xs :=
  ⟨below_then h.b h.b.size hb, (hb.block _ (lt_of_block h.at_)).trans h.at_, Kd.R_below h.r0 hb, Kd.R_below h.r1 hb, Kd.R_below h.r2 hb⟩
theorem St3.put0 {vs' : List S42} (h : St3 W wr v0 v1 v2 vs fs xs) (hr : Kd.R k42 42 w1 W.heap.size (fun _ => True) v' vs') (hg : wr.grownBy w1 v0.ownBlock) (hg2 : w1.grownBy w2 (some W.heap.size)) (hat : ∃ cur : Array Value, w2.heap[W.heap.size]? = some (.cells cur 26 (0, 0)) ∧ cur.toList = (#[v', v1, v2] : Array Value).toList) :
    St3 W w2 v' v1 v2 vs' fs xs := by
  have h1 : w1.heap[W.heap.size]? = some (.cells #[v0, v1, v2] 26 (0, 0)) := (hg.block _ (lt_of_block h.at_) (Kd.R_ne h.r0 h.at_ (by decide))).trans h.at_
  have hty := Kd.R_typed h.r0
  have hbel : Below W.heap.size W w1 := h.b.grown hg h.b.size (fun k hk => Kd.R_base h.r0 k hk)
  obtain ⟨cur, hc1, hc2⟩ := hat
  obtain rfl : cur = _ := Array.toList_inj.1 hc2
  exact ⟨hbel.grown hg2 hbel.size (fun k hk => by cases hk; exact Nat.le_refl _), hc1, R_block hr h1 (by decide) hg2, R_block (Kd.R_over' h.r1 hty (by decide) hg) h1 (by decide) hg2, R_block (Kd.R_over' h.r2 hty (by decide) hg) h1 (by decide) hg2⟩
theorem St3.put1 {fs' : List (List Int)} (h : St3 W wr v0 v1 v2 vs fs xs) (hr : Kd.R kRow 29 w1 W.heap.size (fun _ => True) v' fs') (hg : wr.grownBy w1 v1.ownBlock) (hg2 : w1.grownBy w2 (some W.heap.size)) (hat : ∃ cur : Array Value, w2.heap[W.heap.size]? = some (.cells cur 26 (0, 0)) ∧ cur.toList = (#[v0, v', v2] : Array Value).toList) :
    St3 W w2 v0 v' v2 vs fs' xs := by
  have h1 : w1.heap[W.heap.size]? = some (.cells #[v0, v1, v2] 26 (0, 0)) := (hg.block _ (lt_of_block h.at_) (Kd.R_ne h.r1 h.at_ (by decide))).trans h.at_
  have hty := Kd.R_typed h.r1
  have hbel : Below W.heap.size W w1 := h.b.grown hg h.b.size (fun k hk => Kd.R_base h.r1 k hk)
  obtain ⟨cur, hc1, hc2⟩ := hat
  obtain rfl : cur = _ := Array.toList_inj.1 hc2
  exact ⟨hbel.grown hg2 hbel.size (fun k hk => by cases hk; exact Nat.le_refl _), hc1, R_block (Kd.R_over' h.r0 hty (by decide) hg) h1 (by decide) hg2, R_block hr h1 (by decide) hg2, R_block (Kd.R_over' h.r2 hty (by decide) hg) h1 (by decide) hg2⟩
theorem St3.put2 {xs' : List S53} (h : St3 W wr v0 v1 v2 vs fs xs) (hr : Kd.R k53 53 w1 W.heap.size (fun _ => True) v' xs') (hg : wr.grownBy w1 v2.ownBlock) (hg2 : w1.grownBy w2 (some W.heap.size)) (hat : ∃ cur : Array Value, w2.heap[W.heap.size]? = some (.cells cur 26 (0, 0)) ∧ cur.toList = (#[v0, v1, v'] : Array Value).toList) :
    St3 W w2 v0 v1 v' vs fs xs' := by
  have h1 : w1.heap[W.heap.size]? = some (.cells #[v0, v1, v2] 26 (0, 0)) := (hg.block _ (lt_of_block h.at_) (Kd.R_ne h.r2 h.at_ (by decide))).trans h.at_
  have hty := Kd.R_typed h.r2
  have hbel : Below W.heap.size W w1 := h.b.grown hg h.b.size (fun k hk => Kd.R_base h.r2 k hk)
  obtain ⟨cur, hc1, hc2⟩ := hat
  obtain rfl : cur = _ := Array.toList_inj.1 hc2
  exact ⟨hbel.grown hg2 hbel.size (fun k hk => by cases hk; exact Nat.le_refl _), hc1, R_block (Kd.R_over' h.r0 hty (by decide) hg) h1 (by decide) hg2, R_block (Kd.R_over' h.r1 hty (by decide) hg) h1 (by decide) hg2, R_block hr h1 (by decide) hg2⟩
end
end Go.Proofs.Ytnjdjfengoaleaa.MSub
