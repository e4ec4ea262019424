/- Texts of this claim, merged by a program of this session; what the claim does not use is left out. -/
import Derived.Test.YtnjdjfengoaleaaProg
import Derived.Below
import Derived.Deep.Draws
import Derived.Deep.AppendLies
import Derived.Maps.AppendAt
import Derived.OwnWalk
import Derived.Laws.BytesArg
import Derived.Laws.MakeOwn
import Derived.Laws.OwnMore
import Derived.Deep.OwnRows
import Derived.Tactics
import Derived.Lib.ConvBytes
import Derived.Laws.Slices
import Derived.WalkKit
import Derived.KernelRfl
import Derived.RowKit3
import Derived.Deep.LoopGhost
import Derived.Deep.QuietTactic
import Derived.BigQuiet
import Derived.WideLaws
import Derived.Deep.DeepCutAuto
import Derived.Deep.CutBlock
import Derived.Deep.RegionHeld3
import Derived.Laws.Rows
import Derived.Lib.AppendStr
import Derived.ArgAppend
import Derived.Laws.IdiomCopy
import Derived.OrdersHeld
import Derived.Laws.BitsLemmas
import Derived.RowKit
import Derived.Test.YtnjdjfengoaleaaQa
import Derived.Deep.Slices
import Derived.Deep.Matrix
import Derived.Deep.Fields
import Derived.ChangeSame
import Derived.Lib.SmallJoins
import Derived.SizedLaws
import Derived.ChangeSlices
namespace Go.Proofs.Ytnjdjfengoaleaa.MSub
open Go.RowKit Go.Proofs.YtnjdjfengoaleaaW.PrintWords Go.Proofs.YtnjdjfengoaleaaW.PrintLast Go.Proofs.YtnjdjfengoaleaaW.PrintMore
attribute [local go_sem] max2_int min2_int max_two min_two max_three min_three max_four min_four   -- for this text's walks alone
set_option linter.unusedVariables false
set_option linter.unusedSimpArgs false
def errW : Option Int → Value
  | none => .nilIface
  | some c => .iface 0 (.int .i64 c)
theorem errW_none : errW none = .nilIface := rfl
theorem errW_some (c : Int) : errW (some c) = .iface 0 (.int .i64 c) := rfl
theorem info3 : (Try.prog.info? 3).map (fun i => (i.zero, i.size, i.bytes)) = some (some (.int .i64 0), 1, 8) := by kernel_rfl
theorem info42 : (Try.prog.info? 42).map (fun i => (i.zero, i.size, i.bytes)) = some (some (.agg #[(.int .i64 0), (.int .i64 0), (.int .i64 0)]), 3, 24) := by kernel_rfl
theorem info53 : (Try.prog.info? 53).map (fun i => (i.zero, i.size, i.bytes)) = some (some (.agg #[(.int .i64 0), (.int .i64 0), (.int .i64 0)]), 3, 24) := by kernel_rfl
theorem info115 : (Try.prog.info? 115).map (fun i => (i.zero, i.size, i.bytes)) = some (some (.agg #[(.int .i64 0), (.int .i64 0)]), 2, 16) := by kernel_rfl
structure S42 where
  f0 : Int
  f1 : Int
  f2 : Int
def z42 : S42 := ⟨(0 : Int), (0 : Int), (0 : Int)⟩
def k42 : Kd S42 := Kd.iso (Kd.pair (Kd.int .i64) (Kd.pair (Kd.int .i64) (Kd.int .i64))) (fun x : S42 => (x.f0, x.f1, x.f2))
theorem k42_open {w : World} {x : S42} {cs : List Value} (h : k42.K w x cs) : cs = [.int .i64 x.f0, .int .i64 x.f1, .int .i64 x.f2] := by
  obtain ⟨_, _, rfl, rfl, ⟨_, _, rfl, rfl, rfl⟩⟩ := h
  exact rfl
theorem k42_mk (w : World) (x : S42)  : k42.K w x [.int .i64 x.f0, .int .i64 x.f1, .int .i64 x.f2] := ⟨[.int .i64 x.f0], [.int .i64 x.f1, .int .i64 x.f2], rfl, rfl, ⟨[.int .i64 x.f1], [.int .i64 x.f2], rfl, rfl, rfl⟩⟩
theorem k42_mkM (w : World) (base : Nat) (ok : Nat → Prop) (x : S42)  : k42.M w base ok x [.int .i64 x.f0, .int .i64 x.f1, .int .i64 x.f2] := ⟨[.int .i64 x.f0], [.int .i64 x.f1, .int .i64 x.f2], rfl, rfl, ⟨[.int .i64 x.f1], [.int .i64 x.f2], rfl, rfl, rfl⟩⟩
def rd_T42 (xs : List S42) (i : Int) : S42 := xs.getD i.toNat z42
theorem at_T42 {w : World} {A : Option Addr} {n : Nat} {xs : List S42} (h : Kd.C k42 w A n xs) (i : Int) (h0 : 0 ≤ i) (h1 : i < n) : ∃ ad , A = some ad ∧ w.cell? (ad.add (i.toNat * 3)) = some (.int .i64 (rd_T42 xs i).f0) ∧ w.cell? ⟨(ad.add (i.toNat * 3)).block, (ad.add (i.toNat * 3)).off + 1, none⟩ = some (.int .i64 (rd_T42 xs i).f1) ∧ w.cell? ⟨(ad.add (i.toNat * 3)).block, (ad.add (i.toNat * 3)).off + 2, none⟩ = some (.int .i64 (rd_T42 xs i).f2) := by
  obtain ⟨ad, c, e, _, hK, hc0⟩ := Kd.C_get h z42 i h0 h1
  have hc : ∀ j u, c[j]? = some u → w.cell? (ad.add (i.toNat * 3 + j)) = some u := hc0
  obtain rfl := k42_open hK
  exact ⟨ad, e, hc 0 _ rfl, by rw [← add_field _ _ 1 (by omega)]; exact hc 1 _ rfl, by rw [← add_field _ _ 2 (by omega)]; exact hc 2 _ rfl⟩
structure S115 where
  f0 : Int
  f1 : Int
def z115 : S115 := ⟨(0 : Int), (0 : Int)⟩
def k115 : Kd S115 := Kd.iso (Kd.pair (Kd.int .i64) (Kd.int .i64)) (fun x : S115 => (x.f0, x.f1))
theorem k115_open {w : World} {x : S115} {cs : List Value} (h : k115.K w x cs) : cs = [.int .i64 x.f0, .int .i64 x.f1] := by
  obtain ⟨_, _, rfl, rfl, rfl⟩ := h
  exact rfl
theorem k115_mkM (w : World) (base : Nat) (ok : Nat → Prop) (x : S115)  : k115.M w base ok x [.int .i64 x.f0, .int .i64 x.f1] := ⟨[.int .i64 x.f0], [.int .i64 x.f1], rfl, rfl, rfl⟩
def rd_T115 (xs : List S115) (i : Int) : S115 := xs.getD i.toNat z115
theorem at_T115 {w : World} {A : Option Addr} {n : Nat} {xs : List S115} (h : Kd.C k115 w A n xs) (i : Int) (h0 : 0 ≤ i) (h1 : i < n) : ∃ ad , A = some ad ∧ w.cell? (ad.add (i.toNat * 2)) = some (.int .i64 (rd_T115 xs i).f0) ∧ w.cell? ⟨(ad.add (i.toNat * 2)).block, (ad.add (i.toNat * 2)).off + 1, none⟩ = some (.int .i64 (rd_T115 xs i).f1) := by
  obtain ⟨ad, c, e, _, hK, hc0⟩ := Kd.C_get h z115 i h0 h1
  have hc : ∀ j u, c[j]? = some u → w.cell? (ad.add (i.toNat * 2 + j)) = some u := hc0
  obtain rfl := k115_open hK
  exact ⟨ad, e, hc 0 _ rfl, by rw [← add_field _ _ 1 (by omega)]; exact hc 1 _ rfl⟩
structure S47 where
  f0 : Int
  f1 : Int
  f2 : Int
  f3 : Int
def z47 : S47 := ⟨(0 : Int), (0 : Int), (0 : Int), (0 : Int)⟩
def k47 : Kd S47 := Kd.iso (Kd.pair (Kd.int .i64) (Kd.pair (Kd.int .i64) (Kd.pair (Kd.int .i64) (Kd.int .i64)))) (fun x : S47 => (x.f0, x.f1, x.f2, x.f3))
theorem k47_open {w : World} {x : S47} {cs : List Value} (h : k47.K w x cs) : cs = [.int .i64 x.f0, .int .i64 x.f1, .int .i64 x.f2, .int .i64 x.f3] := by
  obtain ⟨_, _, rfl, rfl, ⟨_, _, rfl, rfl, ⟨_, _, rfl, rfl, rfl⟩⟩⟩ := h
  exact rfl
theorem k47_openM {w : World} {base : Nat} {ok : Nat → Prop} {x : S47} {cs : List Value} (h : k47.M w base ok x cs) : cs = [.int .i64 x.f0, .int .i64 x.f1, .int .i64 x.f2, .int .i64 x.f3] := by
  obtain ⟨_, _, rfl, rfl, ⟨_, _, rfl, rfl, ⟨_, _, rfl, rfl, rfl⟩⟩⟩ := h
  exact rfl
theorem k47_mkM (w : World) (base : Nat) (ok : Nat → Prop) (x : S47)  : k47.M w base ok x [.int .i64 x.f0, .int .i64 x.f1, .int .i64 x.f2, .int .i64 x.f3] := ⟨[.int .i64 x.f0], [.int .i64 x.f1, .int .i64 x.f2, .int .i64 x.f3], rfl, rfl, ⟨[.int .i64 x.f1], [.int .i64 x.f2, .int .i64 x.f3], rfl, rfl, ⟨[.int .i64 x.f2], [.int .i64 x.f3], rfl, rfl, rfl⟩⟩⟩
def rd_T47 (xs : List S47) (i : Int) : S47 := xs.getD i.toNat z47
theorem at_T47 {w : World} {A : Option Addr} {n : Nat} {xs : List S47} (h : Kd.C k47 w A n xs) (i : Int) (h0 : 0 ≤ i) (h1 : i < n) : ∃ ad , A = some ad ∧ w.cell? (ad.add (i.toNat * 4)) = some (.int .i64 (rd_T47 xs i).f0) ∧ w.cell? ⟨(ad.add (i.toNat * 4)).block, (ad.add (i.toNat * 4)).off + 1, none⟩ = some (.int .i64 (rd_T47 xs i).f1) ∧ w.cell? ⟨(ad.add (i.toNat * 4)).block, (ad.add (i.toNat * 4)).off + 2, none⟩ = some (.int .i64 (rd_T47 xs i).f2) ∧ w.cell? ⟨(ad.add (i.toNat * 4)).block, (ad.add (i.toNat * 4)).off + 3, none⟩ = some (.int .i64 (rd_T47 xs i).f3) := by
  obtain ⟨ad, c, e, _, hK, hc0⟩ := Kd.C_get h z47 i h0 h1
  have hc : ∀ j u, c[j]? = some u → w.cell? (ad.add (i.toNat * 4 + j)) = some u := hc0
  obtain rfl := k47_open hK
  exact ⟨ad, e, hc 0 _ rfl, by rw [← add_field _ _ 1 (by omega)]; exact hc 1 _ rfl, by rw [← add_field _ _ 2 (by omega)]; exact hc 2 _ rfl, by rw [← add_field _ _ 3 (by omega)]; exact hc 3 _ rfl⟩
def rd_L4 (xs : List (List Int)) (i : Int) : (List Int) := xs.getD i.toNat ([] : List Int)
theorem at_L4 {w : World} {A : Option Addr} {n : Nat} {xs : List (List Int)} (h : Kd.C (Kd.slice 3 (Kd.int .i64)) w A n xs) (i : Int) (h0 : 0 ≤ i) (h1 : i < n) : ∃ ad A0 c0, A = some ad ∧ w.cell? (ad.add i.toNat) = some (.slice A0 (rd_L4 xs i).length c0) ∧ (rd_L4 xs i).length ≤ c0 ∧ (Kd.int .i64).C w A0 (rd_L4 xs i).length (rd_L4 xs i) := by
  obtain ⟨ad, c, e, _, hK, hc0⟩ := Kd.C_get h ([] : List Int) i h0 h1
  have hc : ∀ j u, c[j]? = some u → w.cell? (ad.add (i.toNat * 1 + j)) = some u := hc0
  obtain ⟨A0, c0, rfl, l0, g0⟩ := hK
  exact ⟨ad, A0, c0, e, by have hq := hc 0 _ rfl; rwa [Nat.mul_one, Nat.add_zero] at hq, l0, g0⟩
structure S53 where
  f0 : Int
  f1 : Int
  f2 : Int
def z53 : S53 := ⟨(0 : Int), (0 : Int), (0 : Int)⟩
def k53 : Kd S53 := Kd.iso (Kd.pair (Kd.int .i64) (Kd.pair (Kd.int .i64) (Kd.int .i64))) (fun x : S53 => (x.f0, x.f1, x.f2))
theorem k53_open {w : World} {x : S53} {cs : List Value} (h : k53.K w x cs) : cs = [.int .i64 x.f0, .int .i64 x.f1, .int .i64 x.f2] := by
  obtain ⟨_, _, rfl, rfl, ⟨_, _, rfl, rfl, rfl⟩⟩ := h
  exact rfl
theorem k53_mk (w : World) (x : S53)  : k53.K w x [.int .i64 x.f0, .int .i64 x.f1, .int .i64 x.f2] := ⟨[.int .i64 x.f0], [.int .i64 x.f1, .int .i64 x.f2], rfl, rfl, ⟨[.int .i64 x.f1], [.int .i64 x.f2], rfl, rfl, rfl⟩⟩
theorem k53_mkM (w : World) (base : Nat) (ok : Nat → Prop) (x : S53)  : k53.M w base ok x [.int .i64 x.f0, .int .i64 x.f1, .int .i64 x.f2] := ⟨[.int .i64 x.f0], [.int .i64 x.f1, .int .i64 x.f2], rfl, rfl, ⟨[.int .i64 x.f1], [.int .i64 x.f2], rfl, rfl, rfl⟩⟩
def rd_T53 (xs : List S53) (i : Int) : S53 := xs.getD i.toNat z53
theorem at_T53 {w : World} {A : Option Addr} {n : Nat} {xs : List S53} (h : Kd.C k53 w A n xs) (i : Int) (h0 : 0 ≤ i) (h1 : i < n) : ∃ ad , A = some ad ∧ w.cell? (ad.add (i.toNat * 3)) = some (.int .i64 (rd_T53 xs i).f0) ∧ w.cell? ⟨(ad.add (i.toNat * 3)).block, (ad.add (i.toNat * 3)).off + 1, none⟩ = some (.int .i64 (rd_T53 xs i).f1) ∧ w.cell? ⟨(ad.add (i.toNat * 3)).block, (ad.add (i.toNat * 3)).off + 2, none⟩ = some (.int .i64 (rd_T53 xs i).f2) := by
  obtain ⟨ad, c, e, _, hK, hc0⟩ := Kd.C_get h z53 i h0 h1
  have hc : ∀ j u, c[j]? = some u → w.cell? (ad.add (i.toNat * 3 + j)) = some u := hc0
  obtain rfl := k53_open hK
  exact ⟨ad, e, hc 0 _ rfl, by rw [← add_field _ _ 1 (by omega)]; exact hc 1 _ rfl, by rw [← add_field _ _ 2 (by omega)]; exact hc 2 _ rfl⟩
end Go.Proofs.Ytnjdjfengoaleaa.MSub
namespace Go.Proofs.Ytnjdjfengoaleaa.MSub
open Go.RowKit Go.Proofs.YtnjdjfengoaleaaW.PrintWords Go.Proofs.YtnjdjfengoaleaaW.PrintLast Go.Proofs.YtnjdjfengoaleaaW.PrintMore
open Go.ChangeShapes Go.WideShapes Go.Deep
set_option linter.unusedVariables false
section
variable {H : Type} {enc : TypeId × Value → H} {P : Program} {w : World} {base : Nat} {spare : Nat → Bool} {held : Bool}
theorem open_fields {t e : TypeId} {fs : Array Field} {fuel : Nat} {cs : List Value} {x : DataW H × List MemPlace} (ht : P.underlying t = some (.slice e)) (he : P.underlying e = some (.struct fs))
    (hone : oneCellFields P fs = true) (hC : P.cellsOf e = fs.size) (h : DataW.trod enc P w base spare held fuel t cs = some x) :
    (cs = [.slice none 0 0] ∧ x = (.nil, [])) ∨
    ∃ (a : Addr) (len cap m : Nat) (D : Nat → DataW H), cs = [.slice (some a) len cap] ∧ len ≤ cap ∧ cap ≤ maxLen ∧ m = (if spare a.block then cap else len) ∧
      x.1 = (.slice ((List.range len).map D) ((List.range (m - len)).map fun j => D (len + j))) ∧
      ∀ i, i < m → ∀ (j : Nat) (f : Field), fs[j]? = some f → ∃ (n : Nat) (v : Value) (y : DataW H × List MemPlace), w.cell? (a.add (i * fs.size + j)) = some v ∧ DataW.trod enc P w base spare held n f.type [v] = some y := by
  rcases open_slice ht h with h0 | ⟨a, len, cap, m, n, D, Pl, hcs, hb, hl, hm, hmm, hx, hi⟩
  · exact .inl h0
  · refine .inr ⟨a, len, cap, m, D, hcs, hl, hm, hmm, by rw [hx], fun i him => ?_⟩
    obtain ⟨cs', hc, ht'⟩ := hi i him
    rw [hC] at hc
    obtain ⟨ys, n', hn', hy, hlen, hyl, hf⟩ := DataW.trod_struct he ht'
    obtain ⟨_, hcl, hat⟩ := World.cells?_some hc
    refine fun j f hj => ?_
    obtain ⟨ho, hk⟩ := hone_of hone j f hj
    have hjl : j < fs.size := (Array.getElem?_eq_some_iff.1 hj).1
    have hcell := hat j hjl
    have hv : cs'[j]? = some (cs'[j]'(by omega)) := List.getElem?_eq_getElem (by omega)
    have h1 := hf j f hj
    rw [ho, hk] at h1
    have hone' : (cs'.drop j).take 1 = [cs'[j]'(by omega)] := by
      rw [List.drop_eq_getElem_cons (by omega)]
      rfl
    rw [hone'] at h1
    have hys : ys[j]? = some (ys[j]'(by omega)) := List.getElem?_eq_getElem (by omega)
    refine ⟨_, _, _, ?_, h1.trans hys⟩
    rw [← Go.Deep.add_add, hcell, hv]
theorem weigh_part {ts : Array Field} {t tj : TypeId} {parts : List (DataW H)} {j : Nat} {d : DataW H} (hs : P.underlying t = some (.struct ts)) (hj : (ts.toList.map (·.type))[j]? = some tj) (hd : parts[j]? = some d) {n : Nat} (hn : n ∈ d.weights P tj) : n ∈ (DataW.agg parts).weights P t := by
  simp only [DataW.weights, hs]
  exact DataW.weights_mem_each hj hd n hn
theorem weigh_all {e : TypeId} : ∀ {ds : List (DataW H)} {d : DataW H} {n : Nat}, d ∈ ds → n ∈ d.weights P e → n ∈ DataW.weightsAll P e ds
  | [], _, _, h, _ => by cases h
  | a :: ds, d, n, h, hn => by
    simp only [DataW.weightsAll, List.mem_append]
    rcases List.mem_cons.1 h with rfl | h
    · exact Or.inl hn
    · exact Or.inr (weigh_all h hn)
theorem weigh_len {t e : TypeId} {elems sp : List (DataW H)} (hu : P.underlying t = some (.slice e)) : (elems.length + sp.length) * P.bytesOf e ∈ (DataW.slice elems sp).weights P t := by
  simp only [DataW.weights, hu]
  exact List.mem_cons_self
theorem weigh_elem {t e : TypeId} {elems sp : List (DataW H)} {d : DataW H} {n : Nat} (hu : P.underlying t = some (.slice e)) (hd : d ∈ elems) (hn : n ∈ d.weights P e) : n ∈ (DataW.slice elems sp).weights P t := by
  simp only [DataW.weights, hu]
  exact List.mem_cons_of_mem _ (List.mem_append_left _ (weigh_all hd hn))
end
section
variable {H : Type} {enc : TypeId × Value → H} {w : World} {base : Nat} {held : Bool}
theorem open_three {t e : TypeId} {f0 f1 f2 : Field} {fuel : Nat} {cs : List Value} {x : DataW H × List MemPlace} (ht : Try.prog.underlying t = some (.slice e)) (he : Try.prog.underlying e = some (.struct #[f0, f1, f2]))
    (hone : oneCellFields Try.prog #[f0, f1, f2] = true) (hC : Try.prog.cellsOf e = 3) (h0 : f0.type = 3) (h1 : f1.type = 3) (h2 : f2.type = 3) (hB : Try.prog.bytesOf e = 24) (h : DataW.trod enc Try.prog w base (fun _ => true) held fuel t cs = some x)
    (hw : ∀ n ∈ x.1.weights Try.prog t, n ≤ 140737488351232) :
    ∃ (A : Option Addr) (n c : Nat) (Z : Nat → Int × Int × Int), cs = [.slice A n c] ∧ n ≤ c ∧ n * 24 ≤ 140737488351232 ∧ (n = 0 ∨ ∃ a, A = some a ∧ ∀ i, i < n → w.cell? (a.add (i * 3)) = some (.int .i64 (Z i).1) ∧ w.cell? (a.add (i * 3 + 1)) = some (.int .i64 (Z i).2.1) ∧ w.cell? (a.add (i * 3 + 2)) = some (.int .i64 (Z i).2.2)) := by
  rcases open_fields ht he hone (by rw [hC]; rfl) h with ⟨hcs, _⟩ | ⟨a, len, cap, m, D, hcs, hl, hm, hmm, hx, hi⟩
  · exact ⟨none, 0, 0, fun _ => (0, 0, 0), hcs, Nat.le_refl _, by omega, Or.inl rfl⟩
  · simp only [if_true] at hmm
    subst hmm
    have each : ∀ i, i < m → ∃ z : Int × Int × Int, w.cell? (a.add (i * 3)) = some (.int .i64 z.1) ∧ w.cell? (a.add (i * 3 + 1)) = some (.int .i64 z.2.1) ∧ w.cell? (a.add (i * 3 + 2)) = some (.int .i64 z.2.2) := by
      intro i him
      obtain ⟨n0, v0, y0, c0, t0⟩ := hi i him 0 f0 rfl
      obtain ⟨n1, v1, y1, c1, t1⟩ := hi i him 1 f1 rfl
      obtain ⟨n2, v2, y2, c2, t2⟩ := hi i him 2 f2 rfl
      rw [h0] at t0
      rw [h1] at t1
      rw [h2] at t2
      obtain ⟨z0, e0, _⟩ := DataW.trod_int (k := .i64) Try.underlying3 t0
      obtain ⟨z1, e1, _⟩ := DataW.trod_int (k := .i64) Try.underlying3 t1
      obtain ⟨z2, e2, _⟩ := DataW.trod_int (k := .i64) Try.underlying3 t2
      simp only [List.cons.injEq, and_true] at e0 e1 e2
      subst e0 e1 e2
      exact ⟨(z0, z1, z2), c0, c1, c2⟩
    obtain ⟨Z, hZ⟩ := choose_lt each
    refine ⟨some a, len, m, Z, hcs, hl, ?_, Or.inr ⟨a, rfl, fun i hi' => hZ i (by omega)⟩⟩
    have := hw _ (by rw [hx]; exact weigh_len ht)
    rw [hB] at this
    simp only [List.length_map, List.length_range] at this
    have h5 := Nat.mul_le_mul_right 24 (show len ≤ len + (m - len) by omega)
    omega
theorem read42 {A : Option Addr} {n : Nat} {Z : Nat → Int × Int × Int} (hn : n * 24 ≤ 140737488351232) (h : n = 0 ∨ ∃ a, A = some a ∧ ∀ i, i < n → w.cell? (a.add (i * 3)) = some (.int .i64 (Z i).1) ∧ w.cell? (a.add (i * 3 + 1)) = some (.int .i64 (Z i).2.1) ∧ w.cell? (a.add (i * 3 + 2)) = some (.int .i64 (Z i).2.2)) :
    ∃ xs : List S42, xs.length = n ∧ Kd.C k42 w A xs.length xs := by
  refine ⟨(List.range n).map (fun i => ⟨(Z i).1, (Z i).2.1, (Z i).2.2⟩), by simp, rfl, by simp; omega, fun h0 => ?_⟩
  rw [List.length_map, List.length_range] at h0
  rcases h with h | ⟨a, rfl, hc⟩
  · omega
  · refine ⟨a, rfl, fun j p hj => ?_⟩
    have hjl : j < n := by
      have := (List.getElem?_eq_some_iff.1 hj).1
      simpa using this
    rw [List.getElem?_map, List.getElem?_range hjl] at hj
    cases hj
    refine ⟨_, rfl, k42_mk w _, fun i u hu => ?_⟩
    obtain ⟨c0, c1, c2⟩ := hc j hjl
    match i, hu with
    | 0, hu => cases hu; exact c0
    | 1, hu => cases hu; exact c1
    | 2, hu => cases hu; exact c2
    | i + 3, hu => simp at hu
theorem read53 {A : Option Addr} {n : Nat} {Z : Nat → Int × Int × Int} (hn : n * 24 ≤ 140737488351232) (h : n = 0 ∨ ∃ a, A = some a ∧ ∀ i, i < n → w.cell? (a.add (i * 3)) = some (.int .i64 (Z i).1) ∧ w.cell? (a.add (i * 3 + 1)) = some (.int .i64 (Z i).2.1) ∧ w.cell? (a.add (i * 3 + 2)) = some (.int .i64 (Z i).2.2)) :
    ∃ xs : List S53, xs.length = n ∧ Kd.C k53 w A xs.length xs := by
  refine ⟨(List.range n).map (fun i => ⟨(Z i).1, (Z i).2.1, (Z i).2.2⟩), by simp, rfl, by simp; omega, fun h0 => ?_⟩
  rw [List.length_map, List.length_range] at h0
  rcases h with h | ⟨a, rfl, hc⟩
  · omega
  · refine ⟨a, rfl, fun j p hj => ?_⟩
    have hjl : j < n := by
      have := (List.getElem?_eq_some_iff.1 hj).1
      simpa using this
    rw [List.getElem?_map, List.getElem?_range hjl] at hj
    cases hj
    refine ⟨_, rfl, k53_mk w _, fun i u hu => ?_⟩
    obtain ⟨c0, c1, c2⟩ := hc j hjl
    match i, hu with
    | 0, hu => cases hu; exact c0
    | 1, hu => cases hu; exact c1
    | 2, hu => cases hu; exact c2
    | i + 3, hu => simp at hu
theorem open_faces {fuel : Nat} {cs : List Value} {x : DataW H × List MemPlace} (h : DataW.trod enc Try.prog w base (fun _ => true) held fuel 23 cs = some x) (hw : ∀ n ∈ x.1.weights Try.prog 23, n ≤ 140737488351232) :
    ∃ (A : Option Addr) (c : Nat) (F : List (List Int)), cs = [.slice A F.length c] ∧ F.length ≤ c ∧ Kd.C (Kd.slice 3 (Kd.int .i64)) w A F.length F ∧ F.length * 24 ≤ 140737488351232 ∧ ∀ fc ∈ F, fc.length * 8 ≤ 140737488351232 := by
  rcases open_int_rows (k := .i64) Try.underlying23 Try.underlying29 Try.underlying3 (by kernel_rfl) (by kernel_rfl) h with ⟨hcs, _⟩ | ⟨a, len, cap, A, L, C, Z, hcs, hb, hl, hm, hx, hr⟩
  · exact ⟨none, 0, [], hcs, Nat.le_refl _, ⟨rfl, by simp, fun h => by simp at h⟩, by simp, fun fc h => by cases h⟩
  · have hb24 : Try.prog.bytesOf 29 = 24 := by kernel_rfl
    have hb8 : Try.prog.bytesOf 3 = 8 := by kernel_rfl
    have hlen : len * 24 ≤ 140737488351232 := by
      have := hw _ (by rw [hx]; exact weigh_len Try.underlying23)
      rw [hb24] at this
      simp only [List.length_map, List.length_range] at this
      have h5 := Nat.mul_le_mul_right 24 (show len ≤ len + (cap - len) by omega)
      omega
    have hin : ∀ r, r < len → L r * 8 ≤ 140737488351232 := by
      intro r hrl
      obtain ⟨_, hLC, _, hZC, _, hAN, _⟩ := hr r (by omega)
      cases hA : A r with
      | none => have := hAN hA; omega
      | some a' =>
        have hwr := hw (((lits (H := H) .i64 ((Z r).take (L r))).length + (lits (H := H) .i64 ((Z r).drop (L r))).length) * Try.prog.bytesOf 3) (by
          rw [hx]
          refine weigh_elem Try.underlying23 (List.mem_map.2 ⟨r, List.mem_range.2 hrl, rfl⟩) ?_
          unfold intRow
          rw [hA]
          exact weigh_len Try.underlying29)
        rw [hb8] at hwr
        simp [lits] at hwr
        omega
    refine ⟨some a, cap, (List.range len).map (fun r => (Z r).take (L r)), by simpa using hcs, by simpa using hl, ⟨rfl, by simp; omega, fun _ => ⟨a, rfl, fun j p hj => ?_⟩⟩, by simpa using hlen, fun fc hfc => ?_⟩
    · have hjl : j < len := by
        have := (List.getElem?_eq_some_iff.1 hj).1
        simpa using this
      rw [List.getElem?_map, List.getElem?_range hjl] at hj
      have hj' : (Z j).take (L j) = p := Option.some.inj hj
      subst hj'
      obtain ⟨hc, hLC, hCm, hZC, _, hAN, hcell⟩ := hr j (by omega)
      have hlt : ((Z j).take (L j)).length = L j := by rw [List.length_take]; omega
      have hin' := hin j hjl
      refine ⟨[.slice (A j) (L j) (C j)], rfl, ⟨A j, C j, by rw [hlt], by omega, rfl, by rw [hlt]; omega, fun h0 => ?_⟩, fun i u hu => ?_⟩
      · cases hA : A j with
        | none => have := hAN hA; omega
        | some a' =>
          refine ⟨a', rfl, fun i p hi => ⟨[.int .i64 p], rfl, rfl, fun q u hu => ?_⟩⟩
          obtain ⟨hil, hip⟩ := List.getElem?_eq_some_iff.1 hi
          have hil' : i < L j := by omega
          have hcc := (hcell a' hA).2 i (by omega)
          have hpe : (Z j).getD i 0 = p := by
            rw [List.getD_eq_getElem?_getD, List.getElem?_eq_getElem (by omega)]
            simpa using hip
          rw [hpe] at hcc
          match q, hu with
          | 0, hu => cases hu; simpa [Kd.int, Kd.scalar] using hcc
          | q + 1, hu => simp at hu
      · match i, hu with
        | 0, hu => cases hu; simpa [Kd.slice] using hc
        | i + 1, hu => simp at hu
    · obtain ⟨r, hr', rfl⟩ := List.mem_map.1 hfc
      have := hin r (List.mem_range.1 hr')
      rw [List.length_take]
      have h5 := Nat.mul_le_mul_right 8 (Nat.min_le_left (L r) (Z r).length)
      omega
set_option maxRecDepth 10000 in
theorem open_cage {v : Value} {d : DataW H} {p : List MemPlace} {r : Reach} {b0 : Nat} (hv : Value.okWide Try.prog w r b0 26 v) (h : DataW.Trod enc Try.prog w base (fun _ => true) held 26 v d p) (hw : ∀ n ∈ d.weights Try.prog 26, n ≤ 140737488351232) :
    ∃ (A0 A1 A2 : Option Addr) (c0 c1 c2 : Nat) (V : List S42) (F : List (List Int)) (X : List S53), v = .agg #[.slice A0 V.length c0, .slice A1 F.length c1, .slice A2 X.length c2] ∧
      Kd.C k42 w A0 V.length V ∧ V.length ≤ c0 ∧ Kd.C (Kd.slice 3 (Kd.int .i64)) w A1 F.length F ∧ F.length ≤ c1 ∧ Kd.C k53 w A2 X.length X ∧ X.length ≤ c2 ∧
      V.length * 24 ≤ 140737488351232 ∧ F.length * 24 ≤ 140737488351232 ∧ (∀ fc ∈ F, fc.length * 8 ≤ 140737488351232) ∧ X.length * 24 ≤ 140737488351232 := by
  obtain ⟨v0, v1, v2, y0, y1, y2, n, rfl, rfl, rfl, h0, h1, h2⟩ := Go.Joins.open_agg3 Try.underlying26 (by kernel_rfl) (by kernel_rfl) hv h
  have hw0 : ∀ n ∈ y0.1.weights Try.prog 22, n ≤ 140737488351232 := fun n hn => hw n (weigh_part (j := 0) Try.underlying26 rfl rfl hn)
  have hw1 : ∀ n ∈ y1.1.weights Try.prog 23, n ≤ 140737488351232 := fun n hn => hw n (weigh_part (j := 1) Try.underlying26 rfl rfl hn)
  have hw2 : ∀ n ∈ y2.1.weights Try.prog 24, n ≤ 140737488351232 := fun n hn => hw n (weigh_part (j := 2) Try.underlying26 rfl rfl hn)
  obtain ⟨A0, n0, c0, Z0, e0, l0, b0', r0⟩ := open_three Try.underlying22 Try.underlying42 (by kernel_rfl) (by kernel_rfl) rfl rfl rfl (by kernel_rfl) h0 hw0
  obtain ⟨A2, n2, c2, Z2, e2, l2, b2', r2⟩ := open_three Try.underlying24 Try.underlying53 (by kernel_rfl) (by kernel_rfl) rfl rfl rfl (by kernel_rfl) h2 hw2
  obtain ⟨A1, c1, F, e1, l1, r1, b1', bf⟩ := open_faces h1 hw1
  obtain ⟨V, hVl, hV⟩ := read42 b0' r0
  obtain ⟨X, hXl, hX⟩ := read53 b2' r2
  simp only [List.cons.injEq, and_true] at e0 e1 e2
  subst e0 e1 e2 hVl hXl
  exact ⟨A0, A1, A2, c0, c1, c2, V, F, X, rfl, hV, l0, r1, l1, hX, l2, b0', b1', bf, b2'⟩
end
end Go.Proofs.Ytnjdjfengoaleaa.MSub
namespace Go.Proofs.Ytnjdjfengoaleaa.MSub
open Go.RowKit Go.Proofs.YtnjdjfengoaleaaW.PrintWords Go.Proofs.YtnjdjfengoaleaaW.PrintLast Go.Proofs.YtnjdjfengoaleaaW.PrintMore
set_option linter.unusedVariables false
set_option linter.unusedSimpArgs false
theorem eqA115 (d : Nat) (w : World) (x0 y0 : Int) (x1 y1 : Int) :
    (Op.equalIn (d + 2) 115 (.agg #[.int .i64 x0, .int .i64 x1]) (.agg #[.int .i64 y0, .int .i64 y1])).run Try.prog w = .ok (x0 == y0 && (x1 == y1)) w := by
  refine eqA_of Try.underlying115 (by kernel_rfl) ?_
  refine eqf_cons (by rfl) (by go_simp; rfl) (by go_simp; rfl) (by go_simp) ?_
  exact eqf_last (by rfl) (by go_simp; rfl) (by go_simp; rfl) (by go_simp)
abbrev WF := S115 × Int
def keyV (k : S115) : Value := .agg #[.int .i64 k.f0, .int .i64 k.f1]
def ent (i : Nat) (p : WF) : MapEntry := { key := keyV p.1, val := .int .i64 p.2, born := i }
def entsFrom (n : Nat) : List WF → List MapEntry
  | [] => []
  | p :: L => ent n p :: entsFrom (n + 1) L
def ents (L : List WF) : Array MapEntry := (entsFrom 0 L).toArray
theorem entsFrom_append : ∀ (L M : List WF) (n : Nat), entsFrom n (L ++ M) = entsFrom n L ++ entsFrom (n + L.length) M
  | [], M, n => by simp [entsFrom]
  | p :: L, M, n => by
    simp only [List.cons_append, entsFrom, entsFrom_append L M, List.length_cons]
    rw [show n + 1 + L.length = n + (L.length + 1) from by omega]
theorem ents_push (L : List WF) (p : WF) : (ents L).push (ent L.length p) = ents (L ++ [p]) := by
  simp [ents, entsFrom_append, entsFrom]
theorem entsFrom_get : ∀ (L : List WF) (n i : Nat) (p : WF), L[i]? = some p → (entsFrom n L)[i]? = some (ent (n + i) p)
  | [], _, _, _, h => by simp at h
  | q :: L, n, 0, p, h => by simp at h; subst h; simp [entsFrom]
  | q :: L, n, i + 1, p, h => by
    have := entsFrom_get L (n + 1) i p (by simpa using h)
    simp only [entsFrom, List.getElem?_cons_succ, this]
    rw [show n + 1 + i = n + (i + 1) from by omega]
def same115 (a b : S115) : Bool := a.f0 == b.f0 && a.f1 == b.f1
theorem same115_iff {a b : S115} : same115 a b = true ↔ a = b := by
  unfold same115
  cases a; cases b
  simp
def look (L : List WF) (k : S115) : Option Int := (L.find? (fun p => same115 k p.1)).map (·.2)
theorem run_findAsking (w : World) (k : S115) : ∀ (L : List WF) (n i : Nat), ∃ r, (Instr.findAsking 115 (keyV k) (entsFrom n L) i).run Try.prog w = .ok r w ∧ r.map (·.2) = (look L k).map (Value.int .i64)
  | [], n, i => ⟨none, by simp [entsFrom, Instr.findAsking], by simp [look]⟩
  | p :: L, n, i => by
    have he : (Op.equal 115 (keyV k) (keyV p.1)).run Try.prog w = .ok (same115 k p.1) w := eqA115 9998 w _ _ _ _
    cases hs : same115 k p.1 with
    | true => exact ⟨some (i, .int .i64 p.2), by simp [entsFrom, Instr.findAsking, ent, he, hs, Result.andThen], by simp [look, hs]⟩
    | false =>
      obtain ⟨r, h1, h2⟩ := run_findAsking w k L (n + 1) (i + 1)
      exact ⟨r, by simp [entsFrom, Instr.findAsking, ent, he, hs, Result.andThen, h1], by rw [h2]; simp [look, hs]⟩
theorem findNow_none (k : S115) : ∀ (L : List WF) (n i : Nat) (fs : Array Field), L ≠ [] → Instr.findNow (.struct fs) (keyV k) (entsFrom n L) i = none
  | [], _, _, _, h => absurd rfl h
  | p :: L, n, i, fs, _ => by simp [entsFrom, Instr.findNow, Instr.sameNow]
theorem run_findKey115 (w : World) (k : S115) (L : List WF) : ∃ r, (Instr.findKey 115 (keyV k) (entsFrom 0 L)).run Try.prog w = .ok r w ∧ r.map (·.2) = (look L k).map (Value.int .i64) := by
  unfold Instr.findKey
  cases L with
  | nil => exact ⟨none, by simp [run_underlying Try.underlying115, entsFrom, Instr.findNow, Result.andThen], by simp [look]⟩
  | cons p L =>
    obtain ⟨r, h1, h2⟩ := run_findAsking w k (p :: L) 0 0
    exact ⟨r, by simp [run_underlying Try.underlying115, findNow_none k (p :: L) 0 0 _ (by simp), Result.andThen, h1], h2⟩
theorem run_checkKey115 (w : World) (em : Bool) (k : S115) : (Instr.checkKey em 10000 115 (keyV k)).run Try.prog w = .ok () w := by
  cases em <;> kernel_rfl
structure IsMap (w : World) (m : Nat) (L : List WF) : Prop where
  at_ : w.heap[m]? = some (.map (ents L) L.length)
theorem IsMap.lt {w : World} {m : Nat} {L : List WF} (h : IsMap w m L) : m < w.heap.size := (Array.getElem?_eq_some_iff.1 h.at_).1
theorem IsMap.of_heap {w w1 : World} {m : Nat} {L : List WF} (h : IsMap w m L) (e : w1.heap[m]? = w.heap[m]?) : IsMap w1 m L := ⟨e.trans h.at_⟩
theorem IsMap.below {w w1 : World} {m : Nat} {L : List WF} (h : IsMap w m L) (hb : Below w.heap.size w w1) : IsMap w1 m L := h.of_heap (hb.block m h.lt)
theorem run_lookup115 {w : World} {m : Nat} {L : List WF} (h : IsMap w m L) (a b : Int) :
    (Instr.lookup 85 (.map (some m)) (.agg #[.int .i64 a, .int .i64 b]) true).run Try.prog w = .ok (.tuple #[.int .i64 ((look L ⟨a, b⟩).getD 0), .bool (look L ⟨a, b⟩).isSome]) w := by
  obtain ⟨r, h1, h2⟩ := run_findKey115 w ⟨a, b⟩ L
  have hk : (.agg #[.int .i64 a, .int .i64 b] : Value) = keyV ⟨a, b⟩ := rfl
  have hz : (zeroValue 3).run Try.prog w = .ok (.int .i64 0) w := by kernel_rfl
  have he : (ents L).toList = entsFrom 0 L := by simp [ents]
  unfold Instr.lookup
  rw [hk]
  cases r with
  | none =>
    have hl : look L ⟨a, b⟩ = none := by
      cases hx : look L ⟨a, b⟩ with
      | none => rfl
      | some x => rw [hx] at h2; cases h2
    simp [run_underlying Try.underlying85, MapKept.run_getObj_map h.at_, run_checkKey115, he, h1, hz, hl, Result.andThen]
  | some q =>
    obtain ⟨x, hx, hv⟩ : ∃ x, look L ⟨a, b⟩ = some x ∧ q.2 = .int .i64 x := by
      cases hx : look L ⟨a, b⟩ with
      | none => rw [hx] at h2; cases h2
      | some x => rw [hx] at h2; exact ⟨x, rfl, by simpa using h2⟩
    obtain ⟨j, v⟩ := q
    simp only at hv
    subst hv
    simp [run_underlying Try.underlying85, MapKept.run_getObj_map h.at_, run_checkKey115, he, h1, hx, Result.andThen]
def putObj (w : World) (m : Nat) (o : Obj) : World := { w with heap := w.heap.setIfInBounds m o }
theorem run_update115 {w : World} {m : Nat} {L : List WF} (h : IsMap w m L) (a b f : Int) (hn : look L ⟨a, b⟩ = none) :
    (Instr.mapUpdate 85 (.map (some m)) (.agg #[.int .i64 a, .int .i64 b]) (.int .i64 f)).run Try.prog w = .ok () (putObj w m (.map (ents (L ++ [(⟨a, b⟩, f)])) (L.length + 1))) := by
  obtain ⟨r, h1, h2⟩ := run_findKey115 w ⟨a, b⟩ L
  have hk : (.agg #[.int .i64 a, .int .i64 b] : Value) = keyV ⟨a, b⟩ := rfl
  have he : (ents L).toList = entsFrom 0 L := by simp [ents]
  have hr : r = none := by
    rw [hn] at h2
    cases r with
    | none => rfl
    | some q => cases h2
  subst hr
  unfold Instr.mapUpdate
  rw [hk]
  have hp : (ents L).push { key := keyV ⟨a, b⟩, val := .int .i64 f, born := L.length } = ents (L ++ [(⟨a, b⟩, f)]) := ents_push L (⟨a, b⟩, f)
  simp [run_underlying Try.underlying85, MapKept.run_getObj_map h.at_, run_checkKey115, he, h1, MapKept.run_setObj_map _ h.at_, Result.andThen, hp, putObj]
theorem putObj_is {w : World} {m : Nat} {L : List WF} (h : IsMap w m L) (p : WF) : IsMap (putObj w m (.map (ents (L ++ [p])) (L.length + 1))) m (L ++ [p]) := ⟨by
  have := h.lt
  simp [putObj, this]⟩
theorem putObj_grown {w : World} {m : Nat} (o : Obj) : w.grownBy (putObj w m o) (some m) := ⟨rfl, rfl, rfl, by simp [putObj], fun k _ hne => by
  have : m ≠ k := fun e => hne (by rw [e])
  simp [putObj, Array.getElem?_setIfInBounds_ne this]⟩
def fcAt (xs : List (List Int)) (i : Int) : List Int := xs.getD i.toNat ([] : List Int)
theorem at_face {w : World} {A : Option Addr} {n : Nat} {xs : List (List Int)} (h : Kd.C (Kd.slice 3 (Kd.int .i64)) w A n xs) (i : Int) (h0 : 0 ≤ i) (h1 : i < n) : ∃ ad A0 c0, A = some ad ∧ w.cell? (ad.add i.toNat) = some (.slice A0 (fcAt xs i).length c0) ∧ (fcAt xs i).length ≤ c0 ∧ (Kd.int .i64).C w A0 (fcAt xs i).length (fcAt xs i) := by
  obtain ⟨ad, c, e, _, hK, hc0⟩ := Kd.C_get h ([] : List Int) i h0 h1
  have hc : ∀ j u, c[j]? = some u → w.cell? (ad.add (i.toNat * 1 + j)) = some u := hc0
  obtain ⟨A0, c0, rfl, l0, g0⟩ := hK
  exact ⟨ad, A0, c0, e, by have hq := hc 0 _ rfl; rwa [Nat.mul_one, Nat.add_zero] at hq, l0, g0⟩
end Go.Proofs.Ytnjdjfengoaleaa.MSub
namespace Go.Proofs.Ytnjdjfengoaleaa.MSub
open Go.RowKit Go.Proofs.YtnjdjfengoaleaaW.PrintWords Go.Proofs.YtnjdjfengoaleaaW.PrintLast Go.Proofs.YtnjdjfengoaleaaW.PrintMore
attribute [local go_sem] max2_int min2_int max_two min_two max_three min_three max_four min_four   -- for this text's walks alone
set_option linter.unusedVariables false
set_option linter.unusedSimpArgs false
theorem eqA42 (d : Nat) (w : World) (x0 y0 : Int) (x1 y1 : Int) (x2 y2 : Int) :
    (Op.equalIn (d + 2) 42 (.agg #[.int .i64 x0, .int .i64 x1, .int .i64 x2]) (.agg #[.int .i64 y0, .int .i64 y1, .int .i64 y2])).run Try.prog w = .ok (x0 == y0 && (x1 == y1 && (x2 == y2))) w := by
  refine eqA_of Try.underlying42 (by kernel_rfl) ?_
  refine eqf_cons (by rfl) (by go_simp; rfl) (by go_simp; rfl) (by go_simp) ?_
  refine eqf_cons (by rfl) (by go_simp; rfl) (by go_simp; rfl) (by go_simp) ?_
  exact eqf_last (by rfl) (by go_simp; rfl) (by go_simp; rfl) (by go_simp)
end Go.Proofs.Ytnjdjfengoaleaa.MSub
