/- Texts of this claim, merged by a program of this session; what the claim does not use is left out. -/
import Derived.Test.YtnjdjfengoaleaaQj
import Derived.Test.YtnjdjfengoaleaaQl
import Derived.Test.YtnjdjfengoaleaaQm
namespace Go.Proofs.Ytnjdjfengoaleaa.MSub
open Go.RowKit Go.Proofs.YtnjdjfengoaleaaW.PrintWords Go.Proofs.YtnjdjfengoaleaaW.PrintLast Go.Proofs.YtnjdjfengoaleaaW.PrintMore
open Go.Proofs.Ytnjdjfengoaleaa.Relv
set_option linter.unusedVariables false
set_option linter.unusedSimpArgs false
section
variable {n : Int} {F : List (List Int)}
end
end Go.Proofs.Ytnjdjfengoaleaa.MSub
namespace Go.Proofs.Ytnjdjfengoaleaa.MSub
open Go.RowKit Go.Proofs.YtnjdjfengoaleaaW.PrintWords Go.Proofs.YtnjdjfengoaleaaW.PrintLast Go.Proofs.YtnjdjfengoaleaaW.PrintMore
open Go.Proofs.Ytnjdjfengoaleaa.Relv
set_option linter.unusedVariables false
set_option linter.unusedSimpArgs false
def finF (V : List S42) (F : List (List Int)) (X : List S53) (SH : List Int) : Fin_ := finOf V F X (edgesOf (alongF F F.length)) ((List.range V.length).map (fun v : Nat => fanAt F v)) ((List.range V.length).map (fun v : Nat => roundAt F v)) SH
theorem built_of {V : List S42} {F : List (List Int)} {X : List S53} {SH : List Int} (hs : small F = true) (hv : V.length ≤ 1048576) (hsurf : surfOk V.length F = true) (hsh : sharpM (edgesOf (alongF F F.length)) X = some SH) : Built (finF V F X SH) F where
  small := hs
  surf := hsurf
  nV := hv
  es := rfl
  fn := rfl
  sh := ⟨X, hsh⟩
  ev := rfl
  fv := by simp [finF, finOf]
def levelR (V : List S42) (F : List (List Int)) (X : List S53) : Option (List S42 × List (List Int) × List S53 × Int) :=
  if surfOk V.length F = true then (match sharpM (edgesOf (alongF F F.length)) X with
    | some SH => if V.any (fun p => !nearP p) = true then some ([], [], [], 21) else some (levelV (finF V F X SH), levelF (finF V F X SH), levelX (finF V F X SH), 0)
    | none => some ([], [], [], 14)) else some ([], [], [], 14)
theorem level_cases {V : List S42} {F : List (List Int)} {X : List S53} (hs : small F = true) (hv : V.length ≤ 1048576) : sub_Level.f V F X = levelR V F X := by
  unfold levelR
  unfold sub_Level.f topo_Build.f
  rw [hs, decide_eq_true hv]
  simp only [Bool.and_self, if_true, Int.toNat_natCast]
  by_cases h : surfOk V.length F = true
  · simp only [if_pos h, if_true]
    rfl
  · simp only [if_neg h]
    rfl
theorem near_all {V : List S42} (h : ¬ V.any (fun p => !nearP p) = true) : NearAll V := by
  intro p hp
  cases hx : nearP p with
  | true => rfl
  | false => exact absurd (List.any_eq_true.2 ⟨p, hp, by rw [hx]; rfl⟩) h
section
variable {V : List S42} {F : List (List Int)} {X : List S53} {SH : List Int}
end
end Go.Proofs.Ytnjdjfengoaleaa.MSub
namespace Go.Proofs.Ytnjdjfengoaleaa.MSub
open Go.RowKit Go.Proofs.YtnjdjfengoaleaaW.PrintWords Go.Proofs.YtnjdjfengoaleaaW.PrintLast Go.Proofs.YtnjdjfengoaleaaW.PrintMore
open Go.Proofs.Ytnjdjfengoaleaa.Relv
set_option linter.unusedVariables false
set_option linter.unusedSimpArgs false
theorem all2_of_map {α β γ δ : Type} {R : γ → δ → Prop} {f : α → γ} {g : β → δ} : ∀ {l : List α} {m : List β}, All2 R (l.map f) (m.map g) → All2 (fun a b => R (f a) (g b)) l m
  | [], [], _ => trivial
  | _ :: _, _ :: _, h => ⟨h.1, all2_of_map h.2⟩
  | [], _ :: _, h => h.elim
  | _ :: _, [], h => h.elim
section
variable {V V' : List S42} {F : List (List Int)} {X : List S53} {SH : List Int}
theorem fin_len (hl : V'.length = V.length) (y : Int → Int) : levZ (finF V' F X SH) F y = levZ (finF V F X SH) F y := by
  unfold levZ vZ eZ hardNo finF finOf
  simp only [hl]
variable {c : S42 → Int}
theorem levelV_all2 (hc : Part c) (hB : Built (finF V F X SH) F) (hB' : Built (finF V' F X SH) F) (hl : V'.length = V.length) (hn : NearAll V) (hn' : NearAll V') {R : Int → Int → Prop}
    (h : All2 R (levZ (finF V F X SH) F (fun v => c (rd_T42 V v))) (levZ (finF V F X SH) F (fun v => c (rd_T42 V' v)))) : All2 (fun p q => R (c p) (c q)) (levelV (finF V F X SH)) (levelV (finF V' F X SH)) := by
  refine all2_of_map ?_
  rw [levelV_part hc hB hn rfl, levelV_part hc hB' hn' rfl]
  show All2 R (levZ (finF V F X SH) F (fun v => c (rd_T42 V v))) (levZ (finF V' F X SH) F (fun v => c (rd_T42 V' v)))
  rw [fin_len hl]
  exact h
theorem levelV_box (hc : Part c) (hB : Built (finF V F X SH) F) (hn : NearAll V) {lo hi : Int} (h : ∀ v : Int, 0 ≤ v → v < V.length → lo ≤ c (rd_T42 V v) ∧ c (rd_T42 V v) ≤ hi) : ∀ p ∈ levelV (finF V F X SH), lo ≤ c p ∧ c p ≤ hi := by
  have := levelV_all2 hc hB hB rfl hn hn (R := fun p _ => lo ≤ p ∧ p ≤ hi) (levZ_box hB h)
  intro p hp
  obtain ⟨i, hi', rfl⟩ := List.getElem_of_mem hp
  exact this.get i hi' hi'
theorem levelV_len : (levelV (finF V F X SH)).length = V.length + (edgesOf (alongF F F.length)).length + F.length := by
  simp [levelV, finF, finOf]
  omega
end
end Go.Proofs.Ytnjdjfengoaleaa.MSub
namespace Go.Proofs.Ytnjdjfengoaleaa.MSub
open Go.RowKit Go.Proofs.YtnjdjfengoaleaaW.PrintWords Go.Proofs.YtnjdjfengoaleaaW.PrintLast Go.Proofs.YtnjdjfengoaleaaW.PrintMore
open Go.Proofs.Ytnjdjfengoaleaa.Relv
set_option linter.unusedVariables false
set_option linter.unusedSimpArgs false
def sqV : List S42 := [⟨0, 0, 0⟩, ⟨8, 0, 0⟩, ⟨8, 8, 0⟩, ⟨0, 8, 0⟩]
def sqF : List (List Int) := [[0, 1, 2, 3]]
def sqE : List S47 := [⟨0, 1, 0, -1⟩, ⟨0, 3, -1, 0⟩, ⟨1, 2, 0, -1⟩, ⟨2, 3, 0, -1⟩]
theorem sq_edges : edgesOf (alongF sqF sqF.length) = sqE := by
  symm
  refine edges_unique ⟨?_, by decide⟩
  have e : (List.range (alongF sqF sqF.length).length).filterMap (edgeAt (alongF sqF sqF.length)) = [⟨0, 1, 0, -1⟩, ⟨1, 2, 0, -1⟩, ⟨2, 3, 0, -1⟩, ⟨0, 3, -1, 0⟩] := by rfl
  rw [e]
  refine List.Perm.cons _ ?_
  exact (List.perm_append_comm (l₁ := [(⟨0, 3, -1, 0⟩ : S47)]) (l₂ := [⟨1, 2, 0, -1⟩, ⟨2, 3, 0, -1⟩]))
theorem sq_level : ∃ a2, sub_Level.f sqV sqF [] = some ([⟨1, 1, 0⟩, ⟨7, 1, 0⟩, ⟨7, 7, 0⟩, ⟨1, 7, 0⟩, ⟨4, 0, 0⟩, ⟨0, 4, 0⟩, ⟨8, 4, 0⟩, ⟨4, 8, 0⟩, ⟨4, 4, 0⟩], a2, levelX (finF sqV sqF [] [255, 255, 255, 255]), 0) ∧ a2.length = 4 := by
  rw [level_cases (by decide) (by decide)]
  unfold levelR
  rw [if_pos (by decide), sq_edges, show sharpM sqE [] = some [255, 255, 255, 255] from by rfl]
  simp only
  rw [if_neg (by decide)]
  refine ⟨levelF (finF sqV sqF [] [255, 255, 255, 255]), ?_, by rfl⟩
  have e : levelV (finF sqV sqF [] [255, 255, 255, 255]) = [⟨1, 1, 0⟩, ⟨7, 1, 0⟩, ⟨7, 7, 0⟩, ⟨1, 7, 0⟩, ⟨4, 0, 0⟩, ⟨0, 4, 0⟩, ⟨8, 4, 0⟩, ⟨4, 8, 0⟩, ⟨4, 4, 0⟩] := by
    unfold finF
    rw [sq_edges]
    kernel_rfl
  rw [e]
theorem alive_pure : relievolaw09_alive.f = some true := by
  obtain ⟨a2, h, hl⟩ := sq_level
  unfold relievolaw09_alive.f
  have e : sub_Level.f ([(⟨0, 0, 0⟩ : S42), (⟨8, 0, 0⟩ : S42), (⟨8, 8, 0⟩ : S42), (⟨0, 8, 0⟩ : S42)] : List S42) ([([0, 1, 2, 3] : List Int)] : List (List Int)) ([] : List S53) = sub_Level.f sqV sqF [] := rfl
  rw [e, h]
  simp only [Option.bind_some, hl, if_true]
  rfl
theorem weigh_loop (V : List S42) (F : List (List Int)) (X : List S53) (hF : F.length ≤ 300) (hf : ∀ fc ∈ F, fc.length ≤ 140737488355328) (d : Nat) : ∀ (k i : Nat) (n : Int), i ≤ F.length → F.length - i = d → d < k → 0 ≤ n → n ≤ 140737488355328 * 2 →
    ∃ r, relievoref00_WeighCage.l0 k 300 n i V F X = some r ∧ n ≤ r ∧ (r ≤ 300 → ∀ j : Nat, i ≤ j → j < F.length → ((fcAt F j).length : Int) ≤ 300) := by
  induction d with
  | zero =>
    intro k i n hi hd hk h0 h1
    obtain ⟨k, rfl⟩ : ∃ m, k = m + 1 := ⟨k - 1, by omega⟩
    simp only [relievoref00_WeighCage.l0]
    rw [if_neg (by omega)]
    exact ⟨n, rfl, Int.le_refl _, fun _ j hj1 hj2 => by omega⟩
  | succ d ih =>
    intro k i n hi hd hk h0 h1
    obtain ⟨k, rfl⟩ : ∃ m, k = m + 1 := ⟨k - 1, by omega⟩
    simp only [relievoref00_WeighCage.l0]
    rw [if_pos (by omega)]
    by_cases hn : n ≤ 300
    · rw [if_pos hn, if_pos (by omega)]
      have hl : (fcAt F (i : Int)).length ≤ 140737488355328 := by
        have : fcAt F (i : Int) = F[i]'(by omega) := by simp [fcAt, List.getD_eq_getElem?_getD, show i < F.length by omega]
        rw [this]
        exact hf _ (List.getElem_mem _)
      have e1 : wrap64 (n + ((rd_L4 F (i : Int)).length : Int)) = n + (fcAt F (i : Int)).length := by
        show wrap64 (n + ((fcAt F (i : Int)).length : Int)) = _
        unfold wrap64
        omega
      have e2 : wrap64 ((i : Int) + 1) = ((i + 1 : Nat) : Int) := by unfold wrap64; omega
      rw [e1, e2]
      obtain ⟨r, h2, h3, h4⟩ := ih k (i + 1) (n + (fcAt F (i : Int)).length) (by omega) (by omega) (by omega) (by omega) (by omega)
      refine ⟨r, h2, by omega, fun hr j hj1 hj2 => ?_⟩
      rcases Nat.lt_or_ge i j with h | h
      · exact h4 hr j (by omega) hj2
      · obtain rfl : j = i := by omega
        omega
    · rw [if_neg hn]
      exact ⟨n, rfl, Int.le_refl _, fun hr => by omega⟩
theorem great_spec (V : List S42) (F : List (List Int)) (X : List S53) (hf : ∀ fc ∈ F, fc.length ≤ 140737488355328) (hVl : V.length ≤ 140737488355328) (hFl : F.length ≤ 140737488355328) (hXl : X.length ≤ 140737488355328) (k : Nat) (hk : 400 < k) :
    ∃ g, relievolaw09_Great.f k V F X = some g ∧ (g = false → V.length ≤ 60 ∧ F.length ≤ 300 ∧ X.length ≤ 300 ∧ ∀ j : Nat, j < F.length → (fcAt F j).length ≤ 300) := by
  unfold relievolaw09_Great.f
  by_cases h1 : (V.length : Int) > 60
  · rw [if_pos h1]
    exact ⟨true, rfl, fun h => by cases h⟩
  · rw [if_neg h1]
    have hW : ∃ r, relievoref00_WeighCage.f k V F X 300 = some r ∧ (r ≤ 300 → F.length ≤ 300 ∧ X.length ≤ 300 ∧ ∀ j : Nat, j < F.length → (fcAt F j).length ≤ 300) := by
      unfold relievoref00_WeighCage.f
      obtain ⟨k, rfl⟩ : ∃ m, k = m + 1 := ⟨k - 1, by omega⟩
      rw [if_neg (by omega)]
      by_cases h2 : (X.length : Int) > 300
      · rw [if_pos h2]
        simp only [relievoref00_WeighCage.j0]
        exact ⟨_, rfl, fun h => by unfold wrap64 at h; omega⟩
      · rw [if_neg h2]
        simp only [relievoref00_WeighCage.j0]
        by_cases h3 : (F.length : Int) > 300
        · rw [decide_eq_true h3, if_pos rfl]
          exact ⟨_, rfl, fun h => by unfold wrap64 at h; omega⟩
        · rw [decide_eq_false h3, if_neg (by simp)]
          have e1 : wrap64 (wrap64 ((V.length : Int) + X.length) + F.length) = V.length + X.length + F.length := by
            have : wrap64 ((V.length : Int) + X.length) = V.length + X.length := by unfold wrap64; omega
            rw [this]
            unfold wrap64
            omega
          rw [e1]
          obtain ⟨r, h4, h5, h6⟩ := weigh_loop V F X (by omega) hf F.length k 0 (V.length + X.length + F.length) (by omega) (by omega) (by omega) (by omega) (by omega)
          refine ⟨r, h4, fun hr => ⟨by omega, by omega, fun j hj => ?_⟩⟩
          have := h6 hr j (by omega) hj
          omega
    obtain ⟨r, h2, h3⟩ := hW
    rw [h2]
    simp only [Option.bind_some]
    refine ⟨_, rfl, fun h => ?_⟩
    have hr : r ≤ 300 := by
      have := of_decide_eq_false h
      omega
    obtain ⟨a, b, c⟩ := h3 hr
    exact ⟨by omega, a, b, c⟩
theorem small_of {F : List (List Int)} (h1 : F.length ≤ 300) (h2 : ∀ j : Nat, j < F.length → (fcAt F j).length ≤ 300) : small F = true := by
  unfold small
  rw [Bool.and_eq_true, decide_eq_true_iff, List.all_eq_true]
  refine ⟨by omega, fun fc hfc => ?_⟩
  obtain ⟨j, hj, rfl⟩ := List.getElem_of_mem hfc
  have := h2 j hj
  have e : fcAt F (j : Int) = F[j] := by simp [fcAt, List.getD_eq_getElem?_getD, hj]
  rw [e] at this
  simp
  omega
end Go.Proofs.Ytnjdjfengoaleaa.MSub
namespace Go.Proofs.Ytnjdjfengoaleaa.MSub
open Go.RowKit Go.Proofs.YtnjdjfengoaleaaW.PrintWords Go.Proofs.YtnjdjfengoaleaaW.PrintLast Go.Proofs.YtnjdjfengoaleaaW.PrintMore
open Go.Proofs.Ytnjdjfengoaleaa.Relv
set_option linter.unusedVariables false
set_option linter.unusedSimpArgs false
theorem bound_loop (W : List S42) (hW : W.length ≤ 140737488355328) (d : Nat) : ∀ (k i : Nat) (a0 a1 a2 b0 b1 b2 : Int), i ≤ W.length → W.length - i = d → d < k →
    ∃ c0 c1 c2 d0 d1 d2, vec_Bound.l0 k W (W.length : Int) i a0 a1 a2 b0 b1 b2 = some (c0, c1, c2, d0, d1, d2, true) ∧ (c0 ≤ a0 ∧ c1 ≤ a1 ∧ c2 ≤ a2 ∧ b0 ≤ d0 ∧ b1 ≤ d1 ∧ b2 ≤ d2) ∧
      ∀ j : Nat, i ≤ j → j < W.length → c0 ≤ (rd_T42 W j).f0 ∧ c1 ≤ (rd_T42 W j).f1 ∧ c2 ≤ (rd_T42 W j).f2 ∧ (rd_T42 W j).f0 ≤ d0 ∧ (rd_T42 W j).f1 ≤ d1 ∧ (rd_T42 W j).f2 ≤ d2 := by
  induction d with
  | zero =>
    intro k i a0 a1 a2 b0 b1 b2 hi hd hk
    obtain ⟨k, rfl⟩ : ∃ m, k = m + 1 := ⟨k - 1, by omega⟩
    simp only [vec_Bound.l0]
    rw [if_neg (by omega)]
    exact ⟨a0, a1, a2, b0, b1, b2, rfl, by omega, fun j h1 h2 => by omega⟩
  | succ d ih =>
    intro k i a0 a1 a2 b0 b1 b2 hi hd hk
    obtain ⟨k, rfl⟩ : ∃ m, k = m + 1 := ⟨k - 1, by omega⟩
    simp only [vec_Bound.l0]
    rw [if_pos (by omega), if_pos (by omega), if_pos (by omega)]
    unfold vec_Join.f
    simp only [Option.bind_some]
    have e2 : wrap64 ((i : Int) + 1) = ((i + 1 : Nat) : Int) := by unfold wrap64; omega
    rw [e2]
    obtain ⟨p, hp⟩ : ∃ p, rd_T42 W (i : Int) = p := ⟨_, rfl⟩
    rw [hp]
    obtain ⟨c0, c1, c2, d0, d1, d2, h1, h2, h3⟩ := ih k (i + 1) (mn a0 p.f0) (mn a1 p.f1) (mn a2 p.f2) (mx b0 p.f0) (mx b1 p.f1) (mx b2 p.f2) (by omega) (by omega) (by omega)
    have m0 : ∀ a b : Int, mn a b ≤ a ∧ mn a b ≤ b ∧ a ≤ mx a b ∧ b ≤ mx a b := fun a b => by unfold mn mx; omega
    have q0 := m0 a0 p.f0
    have q1 := m0 a1 p.f1
    have q2 := m0 a2 p.f2
    have r0 := m0 b0 p.f0
    have r1 := m0 b1 p.f1
    have r2 := m0 b2 p.f2
    refine ⟨c0, c1, c2, d0, d1, d2, h1, by omega, fun j hj1 hj2 => ?_⟩
    rcases Nat.lt_or_ge i j with h | h
    · exact h3 j (by omega) hj2
    · obtain rfl : j = i := by omega
      rw [hp]
      omega
theorem bound_spec (V : List S42) (hV : V.length ≤ 140737488355328) (hne : V ≠ []) (k : Nat) (hk : V.length < k) :
    ∃ c0 c1 c2 d0 d1 d2, vec_Bound.f k V = some (c0, c1, c2, d0, d1, d2, true) ∧
      ∀ j : Int, 0 ≤ j → j < V.length → c0 ≤ (rd_T42 V j).f0 ∧ c1 ≤ (rd_T42 V j).f1 ∧ c2 ≤ (rd_T42 V j).f2 ∧ (rd_T42 V j).f0 ≤ d0 ∧ (rd_T42 V j).f1 ≤ d1 ∧ (rd_T42 V j).f2 ≤ d2 := by
  cases V with
  | nil => exact absurd rfl hne
  | cons v W =>
    rw [List.length_cons] at hV hk
    unfold vec_Bound.f
    rw [if_neg (by rw [List.length_cons]; omega), if_pos (by rw [List.length_cons]; omega), if_pos (by rw [List.length_cons]; omega)]
    simp only [Option.bind_some, List.drop_succ_cons, List.drop_zero]
    obtain ⟨p, hp⟩ : ∃ p, rd_T42 (v :: W) 0 = p := ⟨_, rfl⟩
    rw [hp]
    obtain ⟨c0, c1, c2, d0, d1, d2, h1, h2, h3⟩ := bound_loop W (by omega) W.length k 0 p.f0 p.f1 p.f2 p.f0 p.f1 p.f2 (by omega) (by omega) (by omega)
    refine ⟨c0, c1, c2, d0, d1, d2, h1, fun j hj0 hj1 => ?_⟩
    rw [List.length_cons] at hj1
    rcases Int.lt_or_le 0 j with h | h
    · have e : rd_T42 (v :: W) j = rd_T42 W ((j.toNat - 1 : Nat) : Int) := by
        unfold rd_T42
        rw [Int.toNat_natCast]
        obtain ⟨m, hm⟩ : ∃ m, j.toNat = m + 1 := ⟨j.toNat - 1, by omega⟩
        rw [hm, Nat.add_sub_cancel]
        rfl
      rw [e]
      exact h3 _ (by omega) (by omega)
    · obtain rfl : j = 0 := by omega
      rw [hp]
      omega
theorem has_true {c0 c1 c2 d0 d1 d2 : Int} {p : S42} (h : (c0 ≤ p.f0 ∧ p.f0 ≤ d0) ∧ (c1 ≤ p.f1 ∧ p.f1 ≤ d1) ∧ (c2 ≤ p.f2 ∧ p.f2 ≤ d2)) : vec_Has.f c0 c1 c2 d0 d1 d2 p.f0 p.f1 p.f2 = some true := by
  unfold vec_Has.f vec_between.f
  rw [if_pos h.1.1, if_pos h.2.1.1, if_pos h.2.2.1, decide_eq_true h.1.2, decide_eq_true h.2.1.2, decide_eq_true h.2.2.2]
  rfl
theorem inside_loop (L : List S42) (F : List (List Int)) (X : List S53) (c0 c1 c2 d0 d1 d2 : Int) (hL : L.length ≤ 140737488355328) (h : ∀ p ∈ L, (c0 ≤ p.f0 ∧ p.f0 ≤ d0) ∧ (c1 ≤ p.f1 ∧ p.f1 ≤ d1) ∧ (c2 ≤ p.f2 ∧ p.f2 ≤ d2)) (d : Nat) : ∀ (k i : Nat), i ≤ L.length → L.length - i = d → d < k →
    relievolaw09_SubInside.l0 k i L F X c0 c1 c2 d0 d1 d2 = some true := by
  induction d with
  | zero =>
    intro k i hi hd hk
    obtain ⟨k, rfl⟩ : ∃ m, k = m + 1 := ⟨k - 1, by omega⟩
    simp only [relievolaw09_SubInside.l0]
    rw [if_neg (by omega)]
  | succ d ih =>
    intro k i hi hd hk
    obtain ⟨k, rfl⟩ : ∃ m, k = m + 1 := ⟨k - 1, by omega⟩
    simp only [relievolaw09_SubInside.l0]
    have hil : i < L.length := by omega
    have e1 : rd_T42 L (i : Int) = L[i] := by simp [rd_T42, List.getD_eq_getElem?_getD, hil]
    have e2 : wrap64 ((i : Int) + 1) = ((i + 1 : Nat) : Int) := by unfold wrap64; omega
    rw [if_pos (by omega), if_pos (by omega), e1, has_true (h _ (List.getElem_mem hil))]
    simp only [Option.bind_some, if_true]
    rw [e2]
    exact ih k (i + 1) (by omega) (by omega) (by omega)
theorem inside_pure (V : List S42) (F : List (List Int)) (X : List S53) (hVl : V.length ≤ 140737488355328) (hFl : F.length ≤ 140737488355328) (hf : ∀ fc ∈ F, fc.length ≤ 140737488355328) (hXl : X.length ≤ 140737488355328) : ∃ k, relievolaw09_SubInside.f k V F X = some true := by
  refine ⟨V.length + F.length + (edgesOf (alongF F F.length)).length + 1000, ?_⟩
  generalize hk : V.length + F.length + (edgesOf (alongF F F.length)).length + 1000 = k
  obtain ⟨g, hg, hgf⟩ := great_spec V F X hf hVl hFl hXl k (by omega)
  unfold relievolaw09_SubInside.f
  rw [alive_pure]
  simp only [Option.bind_some, if_true]
  rw [hg]
  simp only [Option.bind_some]
  cases g with
  | true => rfl
  | false =>
    obtain ⟨h1, h2, h3, h4⟩ := hgf rfl
    have hs := small_of h2 h4
    simp only [Bool.false_eq_true, if_false]
    have hj0 : ∀ (a : List S42) (b : List (List Int)) (c : List S53) (x0 x1 x2 x3 x4 x5 : Int), relievolaw09_SubInside.j0 k true a b c x0 x1 x2 x3 x4 x5 = some true := by
      intro a b c x0 x1 x2 x3 x4 x5
      obtain ⟨k, rfl⟩ : ∃ m, k = m + 1 := ⟨k - 1, by omega⟩
      simp only [relievolaw09_SubInside.j0, if_true]
    have hbd : ∃ c0 c1 c2 d0 d1 d2 ok, vec_Bound.f k V = some (c0, c1, c2, d0, d1, d2, ok) ∧ (ok = true → ∀ j : Int, 0 ≤ j → j < V.length → c0 ≤ (rd_T42 V j).f0 ∧ c1 ≤ (rd_T42 V j).f1 ∧ c2 ≤ (rd_T42 V j).f2 ∧ (rd_T42 V j).f0 ≤ d0 ∧ (rd_T42 V j).f1 ≤ d1 ∧ (rd_T42 V j).f2 ≤ d2) := by
      by_cases hne : V = []
      · subst hne
        exact ⟨0, 0, 0, 0, 0, 0, false, rfl, fun h => by cases h⟩
      · obtain ⟨c0, c1, c2, d0, d1, d2, h, hh⟩ := bound_spec V hVl hne k (by omega)
        exact ⟨c0, c1, c2, d0, d1, d2, true, h, fun _ => hh⟩
    obtain ⟨c0, c1, c2, d0, d1, d2, ok, hb, hbb⟩ := hbd
    rw [hb, level_cases hs (by omega)]
    unfold levelR
    by_cases hsf : surfOk V.length F = true
    · rw [if_pos hsf]
      cases hsh : sharpM (edgesOf (alongF F F.length)) X with
      | none =>
        simp only [Option.bind_some]
        rw [if_neg (by omega)]
        exact hj0 _ _ _ _ _ _ _ _ _
      | some SH =>
        simp only
        by_cases hn : V.any (fun p => !nearP p) = true
        · rw [if_pos hn]
          simp only [Option.bind_some]
          rw [if_neg (by omega)]
          exact hj0 _ _ _ _ _ _ _ _ _
        · rw [if_neg hn]
          simp only [Option.bind_some, if_true]
          cases ok with
          | false => exact hj0 _ _ _ _ _ _ _ _ _
          | true =>
            have hbb := hbb rfl
            have hB := built_of hs (by omega) hsf hsh
            have hall := near_all hn
            have p0 := levelV_box part0 hB hall (lo := c0) (hi := d0) (fun v h0 h1 => by have := hbb v h0 h1; omega)
            have p1 := levelV_box part1 hB hall (lo := c1) (hi := d1) (fun v h0 h1 => by have := hbb v h0 h1; omega)
            have p2 := levelV_box part2 hB hall (lo := c2) (hi := d2) (fun v h0 h1 => by have := hbb v h0 h1; omega)
            have hlv := levelV_len (V := V) (F := F) (X := X) (SH := SH)
            have hel := edges_len hs
            obtain ⟨k', rfl⟩ : ∃ m, k = m + 1 := ⟨k - 1, by omega⟩
            simp only [relievolaw09_SubInside.j0, Bool.not_true, Bool.false_eq_true, if_false]
            exact inside_loop _ _ _ _ _ _ _ _ _ (by omega) (fun p hp => ⟨p0 p hp, p1 p hp, p2 p hp⟩) _ k' 0 (by omega) rfl (by omega)
    · rw [if_neg hsf]
      simp only [Option.bind_some]
      rw [if_neg (by omega)]
      exact hj0 _ _ _ _ _ _ _ _ _
end Go.Proofs.Ytnjdjfengoaleaa.MSub
