/- Texts of this claim, merged by a program of this session; what the claim does not use is left out. -/
import Derived.Deep.RegionHeld3
import Derived.Test.YtnjdjfengoaleaaQf
import Derived.Test.YtnjdjfengoaleaaQc
namespace Go.Proofs.Ytnjdjfengoaleaa.Relv
def rnd (n d : Int) : Int := (2 * n + d) / (2 * d)
theorem rnd_spec (n d : Int) (hd : 0 < d) : 2 * (d * rnd n d) ≤ 2 * n + d ∧ 2 * n + d < 2 * (d * rnd n d) + 2 * d := by
  have h1 := Int.mul_ediv_add_emod (2 * n + d) (2 * d)
  have h2 := Int.emod_nonneg (2 * n + d) (b := 2 * d) (by omega)
  have h3 := Int.emod_lt_of_pos (2 * n + d) (b := 2 * d) (by omega)
  unfold rnd
  rw [Int.mul_assoc] at h1
  omega
theorem rnd_unique (n d q : Int) (hd : 0 < d) (h1 : 2 * (d * q) ≤ 2 * n + d) (h2 : 2 * n + d < 2 * (d * q) + 2 * d) : rnd n d = q := by
  obtain ⟨h3, h4⟩ := rnd_spec n d hd
  have a : d * (rnd n d) < d * (q + 1) := by rw [Int.mul_add]; omega
  have b : d * q < d * (rnd n d + 1) := by rw [Int.mul_add]; omega
  have a' := Int.lt_of_mul_lt_mul_left a (by omega)
  have b' := Int.lt_of_mul_lt_mul_left b (by omega)
  omega
theorem rnd_add (n d k : Int) (hd : 0 < d) : rnd (n + d * k) d = rnd n d + k := by
  obtain ⟨h3, h4⟩ := rnd_spec n d hd
  refine rnd_unique _ _ _ hd ?_ ?_ <;> (rw [Int.mul_add d]; omega)
theorem rnd_le (n d hi : Int) (hd : 0 < d) (h : n ≤ d * hi) : rnd n d ≤ hi := by
  obtain ⟨h3, h4⟩ := rnd_spec n d hd
  have a : d * (rnd n d) < d * (hi + 1) := by rw [Int.mul_add]; omega
  have := Int.lt_of_mul_lt_mul_left a (by omega)
  omega
theorem le_rnd (n d lo : Int) (hd : 0 < d) (h : d * lo ≤ n) : lo ≤ rnd n d := by
  obtain ⟨h3, h4⟩ := rnd_spec n d hd
  have a : d * lo < d * (rnd n d + 1) := by rw [Int.mul_add]; omega
  have := Int.lt_of_mul_lt_mul_left a (by omega)
  omega
end Go.Proofs.Ytnjdjfengoaleaa.Relv
namespace Go.Proofs.Ytnjdjfengoaleaa.MSub
open Go.RowKit Go.Proofs.YtnjdjfengoaleaaW.PrintWords Go.Proofs.YtnjdjfengoaleaaW.PrintLast Go.Proofs.YtnjdjfengoaleaaW.PrintMore
open Go.Proofs.Ytnjdjfengoaleaa.Relv
set_option linter.unusedVariables false
set_option linter.unusedSimpArgs false
def plus (k : Int) (s p : S42) : S42 := ⟨wrap64 (s.f0 + wrap64 (p.f0 * k)), wrap64 (s.f1 + wrap64 (p.f1 * k)), wrap64 (s.f2 + wrap64 (p.f2 * k))⟩
def sumV (k : Int) (s : S42) (L : List S42) : S42 := L.foldl (plus k) s
def cellsV (s : S42) : Array Value := #[.int .i64 s.f0, .int .i64 s.f1, .int .i64 s.f2]
theorem three_cells {W : World} {g t : Nat} {x0 x1 x2 : Int} (h : W.heap[g]? = some (.cells #[.int .i64 x0, .int .i64 x1, .int .i64 x2] t (0, 0))) : W.cell? ⟨g, 0, none⟩ = some (.int .i64 x0) ∧ W.cell? ⟨g, 1, none⟩ = some (.int .i64 x1) ∧ W.cell? ⟨g, 2, none⟩ = some (.int .i64 x2) :=
  ⟨(blk_cell h 0).trans rfl, (blk_cell h 1).trans rfl, (blk_cell h 2).trans rfl⟩
theorem six_cells {W : World} {g g' t t' : Nat} {x0 x1 x2 y0 y1 y2 : Int} (h : W.heap[g]? = some (.cells #[.int .i64 x0, .int .i64 x1, .int .i64 x2] t (0, 0))) (h' : W.heap[g']? = some (.cells #[.int .i64 y0, .int .i64 y1, .int .i64 y2] t' (0, 0))) :
    W.cell? ⟨g, 0, none⟩ = some (.int .i64 x0) ∧ W.cell? ⟨g, 1, none⟩ = some (.int .i64 x1) ∧ W.cell? ⟨g, 2, none⟩ = some (.int .i64 x2) ∧ W.cell? ⟨g', 0, none⟩ = some (.int .i64 y0) ∧ W.cell? ⟨g', 1, none⟩ = some (.int .i64 y1) ∧ W.cell? ⟨g', 2, none⟩ = some (.int .i64 y2) := by
  obtain ⟨a, b, c⟩ := three_cells h
  exact ⟨a, b, c, three_cells h'⟩
theorem one3 (a b c : Int) : ∀ q ∈ [Value.int .i64 a, Value.int .i64 b, Value.int .i64 c], q.oneCell' = true := by simp [Value.oneCell']
theorem infoS42 : (Try.prog.info? 42).map (·.size) = some 3 := by kernel_rfl
theorem run_store_own {P : Program} {o : Oper} {a : Act} {W : World} {g j : Nat} {e : TypeId} {cur : Array Value} (t : TypeId) (p x : Operand) (ho : o.op = .store t p x)
    (u : Value) (seg : List Value) (haddr : a.eval p = .pointer (some ⟨g, j, none⟩)) (hx : a.eval x = u) (hu : u.cells.toList = seg) (ht : (P.info? t).map (·.size) = some seg.length) (h1 : ∀ q ∈ seg, q.oneCell' = true)
    (hh : W.heap[g]? = some (.cells cur e (0, 0))) (hfit : j + seg.length ≤ cur.size) : (execOp a.eval o).run P W = .ok .skip (W.setCells g j seg) := by
  have hrun := run_store_run (P := P) (w := W) t u seg hh hu ht hfit h1
  unfold execOp
  simp only [ho, haddr, hx, Sem.run_bind, Sem.run_pure, Result.andThen_ok, hrun]
theorem set_own {W : World} {g j : Nat} {e : TypeId} {cur : Array Value} (seg : List Value) (hh : W.heap[g]? = some (.cells cur e (0, 0))) (hfit : j + seg.length ≤ cur.size) :
    W.grownBy (W.setCells g j seg) (some g) ∧ (∃ cur' : Array Value, (W.setCells g j seg).heap[g]? = some (.cells cur' e (0, 0)) ∧ cur'.toList = cur.toList.take j ++ seg ++ cur.toList.drop (j + seg.length)) := by
  obtain ⟨s1, s2, s3, s4⟩ := setCells_same g seg j W
  obtain ⟨cur', h3, _, h5⟩ := setCells_row seg j W cur hh hfit
  exact ⟨⟨s1, s2, s3, by omega, fun k hk hne => setCells_far seg j k (fun e => hne (by rw [e]))⟩, cur', h3, h5⟩
set_option maxHeartbeats 1000000 in
set_option maxRecDepth 100000 in
theorem sum_add_calls (w : World) (g : Nat) (s : S42) (k : Int) (A : Option Addr) (c : Nat) (L : List S42) (hg : w.heap[g]? = some (.cells (cellsV s) 108 (0, 0))) (hL : Kd.C k42 w A L.length L)
    (hLk : ∀ w', w.grownBy w' (some g) → Kd.C k42 w' A L.length L) (hlen : L.length ≤ 4611686018427387904) :
    Calls Try.prog 53 #[.pointer (some ⟨g, 0, none⟩), .int .i64 k, .slice A L.length c] w fun e w' => e = .returned (.tuple #[]) ∧ w'.heap[g]? = some (.cells (cellsV (sumV k s L)) 108 (0, 0)) ∧ w.grownBy w' (some g) := by
  have HLK := Aside0.mk hLk
  clear hLk hL
  go_enter Try.func53, Try.ntmps53
  go_wp2_with fail
  go_loopw [10] (fun v10 wr => ∃ j : Nat, j ≤ L.length ∧ v10 = .int .i64 j ∧ Aside0 (wr.heap[g]? = some (.cells (cellsV (sumV k s (L.take j))) 108 (0, 0))) ∧ Aside0 (w.grownBy wr (some g)))
    (fun v10 _ => L.length - (intOf v10).toNat)
  case atStart => exact ⟨0, Nat.zero_le _, rfl, ⟨hg⟩, ⟨World.grownBy.refl w _⟩⟩
  case round =>
    obtain ⟨j, hj, rfl, HG, HW⟩ := hrel
    by_cases hlt : j < L.length
    · obtain ⟨ad, rfl, hx0, hx1, hx2⟩ := at_T42 (HLK.out _ HW.out) (j : Int) (by omega) (by omega)
      rw [Int.toNat_natCast] at hx0 hx1 hx2
      obtain ⟨p, hp⟩ : ∃ p, rd_T42 L (j : Int) = p := ⟨_, rfl⟩
      rw [hp] at hx0 hx1 hx2
      have HS1 : Aside0 (sumV k s (L.take (j + 1)) = plus k (sumV k s (L.take j)) p) := ⟨by
        unfold sumV
        rw [List.take_succ_eq_append_getElem hlt, List.foldl_append, ← hp]
        simp [rd_T42, List.getD_eq_getElem?_getD, hlt]⟩
      obtain ⟨q, hq⟩ : ∃ q, sumV k s (L.take j) = q := ⟨_, rfl⟩
      rw [hq] at HG HS1
      obtain ⟨q0, q1, q2⟩ := q
      obtain ⟨p0, p1, p2⟩ := p
      have HG' : Aside0 (wr.heap[g]? = some (.cells #[.int .i64 q0, .int .i64 q1, .int .i64 q2] 108 (0, 0))) := HG
      obtain ⟨W, hW⟩ : ∃ W : World, wr.alloc (.cells #[.int .i64 p0, .int .i64 p1, .int .i64 p2] 42) = W := ⟨_, rfl⟩
      have hbW : Below wr.heap.size wr W := by rw [← hW]; exact below_alloc (Below.refl _ _) _
      have hWp : W.heap[wr.heap.size]? = some (.cells #[.int .i64 p0, .int .i64 p1, .int .i64 p2] 42 (0, 0)) := by rw [← hW]; exact heap_alloc_new _ _
      have hWg : W.heap[g]? = some (.cells #[.int .i64 q0, .int .i64 q1, .int .i64 q2] 108 (0, 0)) := (hbW.block _ (lt_of_block HG'.out)).trans HG'.out
      have hWs : W.heap.size = wr.heap.size + 1 := by rw [← hW]; simp
      have hgl := lt_of_block HG'.out
      obtain ⟨gp, hgp⟩ : ∃ gp, wr.heap.size = gp := ⟨_, rfl⟩
      rw [hgp] at hWp hWs hgl
      have HWP := Aside0.mk hWp
      have HWG := Aside0.mk hWg
      have HWS := Aside0.mk hWs
      have HBW := Aside0.mk hbW
      have HGP := Aside0.mk hgp
      have hgp2 : wr.heap.size = gp := hgp
      clear hp hq HG hWp hWg hWs hbW hgp
      go_wp2_with fail
      refine start_ (n := 12) (S := (fun w' => w'.cell? ⟨g, 0, none⟩ = some (.int .i64 q0) ∧ w'.cell? ⟨g, 1, none⟩ = some (.int .i64 q1) ∧ w'.cell? ⟨g, 2, none⟩ = some (.int .i64 q2) ∧ w'.cell? ⟨gp, 0, none⟩ = some (.int .i64 p0) ∧ w'.cell? ⟨gp, 1, none⟩ = some (.int .i64 p1) ∧ w'.cell? ⟨gp, 2, none⟩ = some (.int .i64 p2))) (ds := [11]) #[false, false, false, false, false, false, false, false, false, false, false, false] (by kernel_rfl) rfl rfl (six_cells (blk_drew HWG.out) (blk_drew HWP.out)) (fun hHeld => ?_)
      have HB1 : Aside0 (Below wr.heap.size wr W.drew) := ⟨below_drew HBW.out⟩
      have H1g : Aside0 (W.drew.heap[g]? = _) := ⟨blk_drew HWG.out⟩
      have H1p : Aside0 (W.drew.heap[gp]? = _) := ⟨blk_drew HWP.out⟩
      generalize W.drew = W1 at hHeld HB1 H1g H1p ⊢
      clear HBW HWG HWP HWS hW hgp2
      refine pure_ (i := 0) (N := some 14) (v := ?_) (a' := ?_) #[true, false, false, false, false, false, false, false, false, false, false, false] rfl rfl (by kernel_rfl) (fun _ _ _ h => h) (Or.inl ⟨by rfl, ?_⟩) ?_ ?_
      rotate_left
      · (intro w'; go_simp; with_reducible rfl)
      rotate_left
      · (simp only [Act.put, List.setIfInBounds_toArray, List.set_cons_zero, List.set_cons_succ, i64_w, i32_w]; rfl)
      refine pure_ (i := 1) (N := some 15) (v := ?_) (a' := ?_) #[true, true, false, false, false, false, false, false, false, false, false, false] rfl rfl (by kernel_rfl) (fun _ _ _ h => h) (Or.inl ⟨by rfl, ?_⟩) ?_ ?_
      rotate_left
      · (intro w'; go_simp; with_reducible rfl)
      rotate_left
      · (simp only [Act.put, List.setIfInBounds_toArray, List.set_cons_zero, List.set_cons_succ, i64_w, i32_w]; rfl)
      refine pure_ (i := 2) (N := some 16) (v := ?_) (a' := ?_) #[true, true, true, false, false, false, false, false, false, false, false, false] rfl rfl (by kernel_rfl) (fun _ _ _ h => h) (Or.inl ⟨by rfl, ?_⟩) ?_ ?_
      rotate_left
      · (intro w'; go_simp; with_reducible rfl)
      rotate_left
      · (simp only [Act.put, List.setIfInBounds_toArray, List.set_cons_zero, List.set_cons_succ, i64_w, i32_w]; rfl)
      refine pure_ (i := 3) (N := some 17) (v := ?_) (a' := ?_) #[true, true, true, true, false, false, false, false, false, false, false, false] rfl rfl (by kernel_rfl) (fun _ _ _ h => h) (Or.inl ⟨by rfl, ?_⟩) ?_ ?_
      rotate_left
      · (intro w'; go_simp; with_reducible rfl)
      rotate_left
      · (simp only [Act.put, List.setIfInBounds_toArray, List.set_cons_zero, List.set_cons_succ, i64_w, i32_w]; rfl)
      refine take_ (i := 4) (N := some 18) (v := ?_) (a' := ?_) #[true, true, true, true, true, false, false, false, false, false, false, false] rfl rfl (by kernel_rfl) (fun _ _ _ h => h) (Or.inl ⟨by rfl, ?_⟩) (by assumption) ?_ ?_
      rotate_left
      · (intro w' hSw; (try dsimp only at hSw); go_split_ands; go_simp; with_reducible rfl)
      rotate_left
      · (simp only [Act.put, List.setIfInBounds_toArray, List.set_cons_zero, List.set_cons_succ, i64_w, i32_w]; rfl)
      refine take_ (i := 5) (N := some 19) (v := ?_) (a' := ?_) #[true, true, true, true, true, true, false, false, false, false, false, false] rfl rfl (by kernel_rfl) (fun _ _ _ h => h) (Or.inl ⟨by rfl, ?_⟩) (by assumption) ?_ ?_
      rotate_left
      · (intro w' hSw; (try dsimp only at hSw); go_split_ands; go_simp; with_reducible rfl)
      rotate_left
      · (simp only [Act.put, List.setIfInBounds_toArray, List.set_cons_zero, List.set_cons_succ, i64_w, i32_w]; rfl)
      refine pure_ (i := 6) (N := some 20) (v := ?_) (a' := ?_) #[true, true, true, true, true, true, true, false, false, false, false, false] rfl rfl (by kernel_rfl) (fun _ _ _ h => h) (Or.inl ⟨by rfl, ?_⟩) ?_ ?_
      rotate_left
      · (intro w'; go_simp; with_reducible rfl)
      rotate_left
      · (simp only [Act.put, List.setIfInBounds_toArray, List.set_cons_zero, List.set_cons_succ, i64_w, i32_w]; rfl)
      refine one_ (i := 7) (N := some 21) #[true, true, true, true, true, true, true, true, false, false, false, false] rfl rfl (by kernel_rfl) (by decide) (fun K hK => ?_)
      refine goes_ Try.func73 (by kernel_rfl) rfl #[.agg #[.int .i64 p0, .int .i64 p1, .int .i64 p2], .int .i64 k] (by rfl) rfl rfl (by (try simp only [List.map_toArray, List.map_cons, List.map_nil]); rfl) ?_
      refine (vec_Scale.calls _ _ _ _ _ _ _ _ rfl).mono ?_
      rintro e W2 ⟨rfl, hb2⟩
      refine ⟨_, rfl, ?_⟩
      have HB2 := Aside0.mk (below_then HB1.out HB1.out.size hb2)
      have H2g := Aside0.mk ((hb2.block _ (lt_of_block H1g.out)).trans H1g.out)
      have H2p := Aside0.mk ((hb2.block _ (lt_of_block H1p.out)).trans H1p.out)
      clear hb2 hHeld HB1 H1g H1p
      refine hK.out _ _ (six_cells H2g.out H2p.out) (fun hHeld => ?_)
      clear hK K
      refine norm_ (a' := ?_) ?_ ?_
      rotate_left
      · (simp only [Act.put, List.setIfInBounds_toArray, List.set_cons_zero, List.set_cons_succ, i64_w, i32_w]; rfl)
      refine one_ (i := 8) (N := some 22) #[true, true, true, true, true, true, true, true, true, false, false, false] rfl rfl (by kernel_rfl) (by decide) (fun K hK => ?_)
      refine goes_ Try.func72 (by kernel_rfl) rfl #[.agg #[.int .i64 q0, .int .i64 q1, .int .i64 q2], .agg #[.int .i64 (wrap64 (p0 * k)), .int .i64 (wrap64 (p1 * k)), .int .i64 (wrap64 (p2 * k))]] (by rfl) rfl rfl (by (try simp only [List.map_toArray, List.map_cons, List.map_nil]); rfl) ?_
      refine (vec_Add.calls _ _ _ _ _ _ _ _ _ _ rfl).mono ?_
      rintro e W3 ⟨rfl, hb3⟩
      refine ⟨_, rfl, ?_⟩
      have HB3 := Aside0.mk (below_then HB2.out HB2.out.size hb3)
      have H3g := Aside0.mk ((hb3.block _ (lt_of_block H2g.out)).trans H2g.out)
      have H3p := Aside0.mk ((hb3.block _ (lt_of_block H2p.out)).trans H2p.out)
      clear hb3 hHeld HB2 H2g H2p
      refine hK.out _ _ (six_cells H3g.out H3p.out) (fun hHeld => ?_)
      clear hK K
      refine norm_ (a' := ?_) ?_ ?_
      rotate_left
      · (simp only [Act.put, List.setIfInBounds_toArray, List.set_cons_zero, List.set_cons_succ, i64_w, i32_w]; rfl)
      refine pure_ (i := 9) (N := some 23) (v := ?_) (a' := ?_) #[true, true, true, true, true, true, true, true, true, true, false, false] rfl rfl (by kernel_rfl) (fun _ _ _ h => h) (Or.inl ⟨by rfl, ?_⟩) ?_ ?_
      rotate_left
      · (intro w'; go_simp; with_reducible rfl)
      rotate_left
      · (simp only [Act.put, List.setIfInBounds_toArray, List.set_cons_zero, List.set_cons_succ, i64_w, i32_w]; rfl)
      refine pure_ (i := 10) (N := some 24) (v := ?_) (a' := ?_) #[true, true, true, true, true, true, true, true, true, true, true, false] rfl rfl (by kernel_rfl) (fun _ _ _ h => h) (Or.inl ⟨by rfl, ?_⟩) ?_ ?_
      rotate_left
      · (intro w'; go_simp; with_reducible rfl)
      rotate_left
      · (simp only [Act.put, List.setIfInBounds_toArray, List.set_cons_zero, List.set_cons_succ, i64_w, i32_w]; rfl)
      refine last_ (i := 11) (N := none) #[true, true, true, true, true, true, true, true, true, true, true, true] rfl rfl (by kernel_rfl) (by decide) (fun K hK => ?_)
      refine skip_ (by rfl) rfl (run_store_own (g := g) (j := 0) 42 (.tmp 24) (.tmp 22) rfl _ [.int .i64 (wrap64 (q0 + wrap64 (p0 * k))), .int .i64 (wrap64 (q1 + wrap64 (p1 * k))), .int .i64 (wrap64 (q2 + wrap64 (p2 * k)))] rfl rfl rfl infoS42 (one3 _ _ _) H3g.out (by simp)) ?_
      obtain ⟨hgw, cur, hcur, hcl⟩ := set_own (j := 0) [.int .i64 (wrap64 (q0 + wrap64 (p0 * k))), .int .i64 (wrap64 (q1 + wrap64 (p1 * k))), .int .i64 (wrap64 (q2 + wrap64 (p2 * k)))] H3g.out (by simp)
      obtain rfl : cur = #[.int .i64 (wrap64 (q0 + wrap64 (p0 * k))), .int .i64 (wrap64 (q1 + wrap64 (p1 * k))), .int .i64 (wrap64 (q2 + wrap64 (p2 * k)))] := by
        rw [← Array.toList_inj]
        simpa using hcl
      have HGW := Aside0.mk hgw
      have HCUR := Aside0.mk hcur
      generalize W3.setCells g 0 _ = W4 at HGW HCUR ⊢
      clear hgw hcur hcl
      refine hK.out _ _ ?_
      clear hK K
      refine done_ (by kernel_rfl) ?_
      go_wp2_with fail
      go_roundw
      case rel => exact ⟨j + 1, by omega, by go_num, ⟨by rw [HS1.out]; exact HCUR.out⟩, ⟨World.grownBy.trans HW.out (World.grownBy.trans (grown_of_below HB3.out _) HGW.out)⟩⟩
      case measure => simp [intOf]; omega
    · obtain rfl : j = L.length := by omega
      go_wp2_with fail
      go_end0
      exact ⟨rfl, by have := HG.out; rwa [List.take_length] at this, HW.out⟩
def rndM (n d : Int) : Int := (vec_Round.f 1 n d).getD 0
theorem rndM_some (n d : Int) : vec_Round.f 1 n d = some (rndM n d) := by
  have h : ∃ r, vec_Round.f 1 n d = some r := by
    unfold vec_Round.f vec_Round.j0
    by_cases h1 : d < 1
    · simp [h1]
    · have h2 : d ≠ 0 := by omega
      simp only [h1, if_false, h2]
      split <;> split <;> (try split) <;> (try split) <;> exact ⟨_, rfl⟩
  obtain ⟨r, hr⟩ := h
  unfold rndM
  rw [hr]
  rfl
theorem w64_in (n : Int) (h1 : -4611686018427387904 ≤ n) (h2 : n ≤ 4611686018427387904) : wrap64 n = n := by unfold wrap64; omega
theorem rndM_eq (n d : Int) (hd : 1 ≤ d) (h2 : d ≤ 1152921504606846976) (h3 : -1152921504606846976 ≤ n) (h4 : n ≤ 1152921504606846976) : rndM n d = Relv.rnd n d := by
  have hq : (Int.tdiv n d).natAbs ≤ n.natAbs := by
    rw [Int.natAbs_tdiv]
    exact Nat.div_le_self _ _
  have hmr := Int.mul_tdiv_add_tmod n d
  have hr1 : Int.tmod n d < d := Int.tmod_lt_of_pos n (by omega)
  have hr2 : -d < Int.tmod n d := by
    have := Int.neg_tmod n d
    have h := Int.tmod_lt_of_pos (-n) (show 0 < d by omega)
    omega
  have hmx : ¬ (mx (mx d n) (wrap64 (-n)) > 2305843009213693952) := by rw [w64_in (-n) (by omega) (by omega)]; unfold mx; omega
  have key : rndM n d = (vec_Round.j0 1 n d false).getD 0 := by
    unfold rndM vec_Round.f
    rw [if_neg (by omega), if_neg hmx, decide_eq_false (by omega)]
  rw [key]
  simp only [vec_Round.j0]
  generalize Int.tdiv n d = q at *
  generalize Int.tmod n d = r at *
  have e1 : d * (q + 1) = d * q + d := by rw [Int.mul_add, Int.mul_one]
  have e2 : d * (q - 1) = d * q - d := by rw [Int.mul_sub, Int.mul_one]
  rw [w64_in q (by omega) (by omega), w64_in (r + d) (by omega) (by omega), w64_in (d - r) (by omega) (by omega), w64_in (d - (r + d)) (by omega) (by omega), w64_in (q - 1) (by omega) (by omega), w64_in (q + 1) (by omega) (by omega), w64_in (q - 1 + 1) (by omega) (by omega)]
  rw [if_neg (by simp), if_neg (by omega)]
  symm
  split
  · split
    · simp only [Option.getD_some]
      refine Relv.rnd_unique n d _ (by omega) ?_ ?_
      · rw [show q - 1 + 1 = q by omega]; omega
      · rw [show q - 1 + 1 = q by omega]; omega
    · simp only [Option.getD_some]
      exact Relv.rnd_unique n d _ (by omega) (by omega) (by omega)
  · split
    · simp only [Option.getD_some]
      exact Relv.rnd_unique n d _ (by omega) (by omega) (by omega)
    · simp only [Option.getD_some]
      exact Relv.rnd_unique n d _ (by omega) (by omega) (by omega)
def ofV (s : S42) (d : Int) : S42 := ⟨rndM s.f0 d, rndM s.f1 d, rndM s.f2 d⟩
set_option maxHeartbeats 1000000 in
set_option maxRecDepth 100000 in
theorem sum_of_calls (w : World) (g : Nat) (s : S42) (d : Int) (hg : w.heap[g]? = some (.cells (cellsV s) 108 (0, 0))) :
    Calls Try.prog 54 #[.pointer (some ⟨g, 0, none⟩), .int .i64 d] w fun e w' => e = .returned (.agg (cellsV (ofV s d))) ∧ Below w.heap.size w w' := by
  obtain ⟨q0, q1, q2⟩ := s
  have hg' : w.heap[g]? = some (.cells #[.int .i64 q0, .int .i64 q1, .int .i64 q2] 108 (0, 0)) := hg
  clear hg
  have hbW : Below w.heap.size w (w.alloc (.cells #[.int .i64 0, .int .i64 0, .int .i64 0] 42)) := below_alloc (Below.refl _ _) _
  have HW4 := Aside0.mk (heap_alloc_new w (.cells #[.int .i64 0, .int .i64 0, .int .i64 0] 42))
  have HWG := Aside0.mk ((hbW.block _ (lt_of_block hg')).trans hg')
  have HBW := Aside0.mk hbW
  obtain ⟨g4, hg4⟩ : ∃ g4, w.heap.size = g4 := ⟨_, rfl⟩
  have hlt : g < g4 := by rw [← hg4]; exact lt_of_block hg'
  rw [hg4] at HW4
  have HG4 := Aside0.mk hg4
  clear hg' hbW
  go_enter Try.func54, Try.ntmps54
  go_wp2_with fail
  clear hg4
  refine start_ (n := 23) (S := (fun w' => w'.cell? ⟨g, 0, none⟩ = some (.int .i64 q0) ∧ w'.cell? ⟨g, 1, none⟩ = some (.int .i64 q1) ∧ w'.cell? ⟨g, 2, none⟩ = some (.int .i64 q2))) (ds := [22]) #[false, false, false, false, false, false, false, false, false, false, false, false, false, false, false, false, false, false, false, false, false, false, false] (by kernel_rfl) rfl rfl (three_cells (blk_drew HWG.out)) (fun hHeld => ?_)
  have HB1 := Aside0.mk (below_drew HBW.out)
  have H1g := Aside0.mk (blk_drew HWG.out)
  have H14 := Aside0.mk (blk_drew HW4.out)
  generalize (w.alloc (.cells #[.int .i64 0, .int .i64 0, .int .i64 0] 42)).drew = W1 at hHeld HB1 H1g H14 ⊢
  clear HBW HWG HW4
  refine pure_ (i := 0) (N := some 5) (v := ?_) (a' := ?_) #[true, false, false, false, false, false, false, false, false, false, false, false, false, false, false, false, false, false, false, false, false, false, false] rfl rfl (by kernel_rfl) (fun _ _ _ h => h) (Or.inl ⟨by rfl, ?_⟩) ?_ ?_
  rotate_left
  · (intro w'; go_simp; with_reducible rfl)
  rotate_left
  · (simp only [Act.put, List.setIfInBounds_toArray, List.set_cons_zero, List.set_cons_succ, i64_w, i32_w]; rfl)
  refine pure_ (i := 1) (N := some 6) (v := ?_) (a' := ?_) #[true, true, false, false, false, false, false, false, false, false, false, false, false, false, false, false, false, false, false, false, false, false, false] rfl rfl (by kernel_rfl) (fun _ _ _ h => h) (Or.inl ⟨by rfl, ?_⟩) ?_ ?_
  rotate_left
  · (intro w'; go_simp; with_reducible rfl)
  rotate_left
  · (simp only [Act.put, List.setIfInBounds_toArray, List.set_cons_zero, List.set_cons_succ, i64_w, i32_w]; rfl)
  refine pure_ (i := 2) (N := some 7) (v := ?_) (a' := ?_) #[true, true, true, false, false, false, false, false, false, false, false, false, false, false, false, false, false, false, false, false, false, false, false] rfl rfl (by kernel_rfl) (fun _ _ _ h => h) (Or.inl ⟨by rfl, ?_⟩) ?_ ?_
  rotate_left
  · (intro w'; go_simp; with_reducible rfl)
  rotate_left
  · (simp only [Act.put, List.setIfInBounds_toArray, List.set_cons_zero, List.set_cons_succ, i64_w, i32_w]; rfl)
  refine pure_ (i := 3) (N := some 8) (v := ?_) (a' := ?_) #[true, true, true, true, false, false, false, false, false, false, false, false, false, false, false, false, false, false, false, false, false, false, false] rfl rfl (by kernel_rfl) (fun _ _ _ h => h) (Or.inl ⟨by rfl, ?_⟩) ?_ ?_
  rotate_left
  · (intro w'; go_simp; with_reducible rfl)
  rotate_left
  · (simp only [Act.put, List.setIfInBounds_toArray, List.set_cons_zero, List.set_cons_succ, i64_w, i32_w]; rfl)
  refine take_ (i := 4) (N := some 9) (v := ?_) (a' := ?_) #[true, true, true, true, true, false, false, false, false, false, false, false, false, false, false, false, false, false, false, false, false, false, false] rfl rfl (by kernel_rfl) (fun _ _ _ h => h) (Or.inl ⟨by rfl, ?_⟩) (by assumption) ?_ ?_
  rotate_left
  · (intro w' hSw; (try dsimp only at hSw); go_split_ands; go_simp; with_reducible rfl)
  rotate_left
  · (simp only [Act.put, List.setIfInBounds_toArray, List.set_cons_zero, List.set_cons_succ, i64_w, i32_w]; rfl)
  refine pure_ (i := 5) (N := some 10) (v := ?_) (a' := ?_) #[true, true, true, true, true, true, false, false, false, false, false, false, false, false, false, false, false, false, false, false, false, false, false] rfl rfl (by kernel_rfl) (fun _ _ _ h => h) (Or.inl ⟨by rfl, ?_⟩) ?_ ?_
  rotate_left
  · (intro w'; go_simp; with_reducible rfl)
  rotate_left
  · (simp only [Act.put, List.setIfInBounds_toArray, List.set_cons_zero, List.set_cons_succ, i64_w, i32_w]; rfl)
  refine pure_ (i := 7) (N := some 12) (v := ?_) (a' := ?_) #[true, true, true, true, true, true, false, true, false, false, false, false, false, false, false, false, false, false, false, false, false, false, false] rfl rfl (by kernel_rfl) (fun _ _ _ h => h) (Or.inl ⟨by rfl, ?_⟩) ?_ ?_
  rotate_left
  · (intro w'; go_simp; with_reducible rfl)
  rotate_left
  · (simp only [Act.put, List.setIfInBounds_toArray, List.set_cons_zero, List.set_cons_succ, i64_w, i32_w]; rfl)
  refine pure_ (i := 8) (N := some 13) (v := ?_) (a' := ?_) #[true, true, true, true, true, true, false, true, true, false, false, false, false, false, false, false, false, false, false, false, false, false, false] rfl rfl (by kernel_rfl) (fun _ _ _ h => h) (Or.inl ⟨by rfl, ?_⟩) ?_ ?_
  rotate_left
  · (intro w'; go_simp; with_reducible rfl)
  rotate_left
  · (simp only [Act.put, List.setIfInBounds_toArray, List.set_cons_zero, List.set_cons_succ, i64_w, i32_w]; rfl)
  refine pure_ (i := 9) (N := some 14) (v := ?_) (a' := ?_) #[true, true, true, true, true, true, false, true, true, true, false, false, false, false, false, false, false, false, false, false, false, false, false] rfl rfl (by kernel_rfl) (fun _ _ _ h => h) (Or.inl ⟨by rfl, ?_⟩) ?_ ?_
  rotate_left
  · (intro w'; go_simp; with_reducible rfl)
  rotate_left
  · (simp only [Act.put, List.setIfInBounds_toArray, List.set_cons_zero, List.set_cons_succ, i64_w, i32_w]; rfl)
  refine pure_ (i := 10) (N := some 15) (v := ?_) (a' := ?_) #[true, true, true, true, true, true, false, true, true, true, true, false, false, false, false, false, false, false, false, false, false, false, false] rfl rfl (by kernel_rfl) (fun _ _ _ h => h) (Or.inl ⟨by rfl, ?_⟩) ?_ ?_
  rotate_left
  · (intro w'; go_simp; with_reducible rfl)
  rotate_left
  · (simp only [Act.put, List.setIfInBounds_toArray, List.set_cons_zero, List.set_cons_succ, i64_w, i32_w]; rfl)
  refine take_ (i := 11) (N := some 16) (v := ?_) (a' := ?_) #[true, true, true, true, true, true, false, true, true, true, true, true, false, false, false, false, false, false, false, false, false, false, false] rfl rfl (by kernel_rfl) (fun _ _ _ h => h) (Or.inl ⟨by rfl, ?_⟩) (by assumption) ?_ ?_
  rotate_left
  · (intro w' hSw; (try dsimp only at hSw); go_split_ands; go_simp; with_reducible rfl)
  rotate_left
  · (simp only [Act.put, List.setIfInBounds_toArray, List.set_cons_zero, List.set_cons_succ, i64_w, i32_w]; rfl)
  refine pure_ (i := 12) (N := some 17) (v := ?_) (a' := ?_) #[true, true, true, true, true, true, false, true, true, true, true, true, true, false, false, false, false, false, false, false, false, false, false] rfl rfl (by kernel_rfl) (fun _ _ _ h => h) (Or.inl ⟨by rfl, ?_⟩) ?_ ?_
  rotate_left
  · (intro w'; go_simp; with_reducible rfl)
  rotate_left
  · (simp only [Act.put, List.setIfInBounds_toArray, List.set_cons_zero, List.set_cons_succ, i64_w, i32_w]; rfl)
  refine pure_ (i := 14) (N := some 19) (v := ?_) (a' := ?_) #[true, true, true, true, true, true, false, true, true, true, true, true, true, false, true, false, false, false, false, false, false, false, false] rfl rfl (by kernel_rfl) (fun _ _ _ h => h) (Or.inl ⟨by rfl, ?_⟩) ?_ ?_
  rotate_left
  · (intro w'; go_simp; with_reducible rfl)
  rotate_left
  · (simp only [Act.put, List.setIfInBounds_toArray, List.set_cons_zero, List.set_cons_succ, i64_w, i32_w]; rfl)
  refine pure_ (i := 15) (N := some 20) (v := ?_) (a' := ?_) #[true, true, true, true, true, true, false, true, true, true, true, true, true, false, true, true, false, false, false, false, false, false, false] rfl rfl (by kernel_rfl) (fun _ _ _ h => h) (Or.inl ⟨by rfl, ?_⟩) ?_ ?_
  rotate_left
  · (intro w'; go_simp; with_reducible rfl)
  rotate_left
  · (simp only [Act.put, List.setIfInBounds_toArray, List.set_cons_zero, List.set_cons_succ, i64_w, i32_w]; rfl)
  refine pure_ (i := 16) (N := some 21) (v := ?_) (a' := ?_) #[true, true, true, true, true, true, false, true, true, true, true, true, true, false, true, true, true, false, false, false, false, false, false] rfl rfl (by kernel_rfl) (fun _ _ _ h => h) (Or.inl ⟨by rfl, ?_⟩) ?_ ?_
  rotate_left
  · (intro w'; go_simp; with_reducible rfl)
  rotate_left
  · (simp only [Act.put, List.setIfInBounds_toArray, List.set_cons_zero, List.set_cons_succ, i64_w, i32_w]; rfl)
  refine pure_ (i := 17) (N := some 22) (v := ?_) (a' := ?_) #[true, true, true, true, true, true, false, true, true, true, true, true, true, false, true, true, true, true, false, false, false, false, false] rfl rfl (by kernel_rfl) (fun _ _ _ h => h) (Or.inl ⟨by rfl, ?_⟩) ?_ ?_
  rotate_left
  · (intro w'; go_simp; with_reducible rfl)
  rotate_left
  · (simp only [Act.put, List.setIfInBounds_toArray, List.set_cons_zero, List.set_cons_succ, i64_w, i32_w]; rfl)
  refine take_ (i := 18) (N := some 23) (v := ?_) (a' := ?_) #[true, true, true, true, true, true, false, true, true, true, true, true, true, false, true, true, true, true, true, false, false, false, false] rfl rfl (by kernel_rfl) (fun _ _ _ h => h) (Or.inl ⟨by rfl, ?_⟩) (by assumption) ?_ ?_
  rotate_left
  · (intro w' hSw; (try dsimp only at hSw); go_split_ands; go_simp; with_reducible rfl)
  rotate_left
  · (simp only [Act.put, List.setIfInBounds_toArray, List.set_cons_zero, List.set_cons_succ, i64_w, i32_w]; rfl)
  refine pure_ (i := 19) (N := some 24) (v := ?_) (a' := ?_) #[true, true, true, true, true, true, false, true, true, true, true, true, true, false, true, true, true, true, true, true, false, false, false] rfl rfl (by kernel_rfl) (fun _ _ _ h => h) (Or.inl ⟨by rfl, ?_⟩) ?_ ?_
  rotate_left
  · (intro w'; go_simp; with_reducible rfl)
  rotate_left
  · (simp only [Act.put, List.setIfInBounds_toArray, List.set_cons_zero, List.set_cons_succ, i64_w, i32_w]; rfl)
  refine one_ (i := 6) (N := some 11) #[true, true, true, true, true, true, true, true, true, true, true, true, true, false, true, true, true, true, true, true, false, false, false] rfl rfl (by kernel_rfl) (by decide) (fun K hK => ?_)
  refine goes_ Try.func74 (by kernel_rfl) rfl #[.int .i64 q0, .int .i64 d] (by rfl) rfl rfl (by (try simp only [List.map_toArray, List.map_cons, List.map_nil]); rfl) ?_
  refine (vec_Round.calls 1 _ _ _ _ (rndM_some q0 d)).mono ?_
  rintro e W2 ⟨rfl, hb2⟩
  refine ⟨_, rfl, ?_⟩
  have HB2 := Aside0.mk (below_then HB1.out HB1.out.size hb2)
  have H2g := Aside0.mk ((hb2.block _ (lt_of_block H1g.out)).trans H1g.out)
  have H24 := Aside0.mk ((hb2.block _ (lt_of_block H14.out)).trans H14.out)
  clear hb2 hHeld HB1 H1g H14
  refine hK.out _ _ (three_cells H2g.out) (fun hHeld => ?_)
  clear hK K
  refine norm_ (a' := ?_) ?_ ?_
  rotate_left
  · (simp only [Act.put, List.setIfInBounds_toArray, List.set_cons_zero, List.set_cons_succ, i64_w, i32_w]; rfl)
  refine one_ (i := 13) (N := some 18) #[true, true, true, true, true, true, true, true, true, true, true, true, true, true, true, true, true, true, true, true, false, false, false] rfl rfl (by kernel_rfl) (by decide) (fun K hK => ?_)
  refine goes_ Try.func74 (by kernel_rfl) rfl #[.int .i64 q1, .int .i64 d] (by rfl) rfl rfl (by (try simp only [List.map_toArray, List.map_cons, List.map_nil]); rfl) ?_
  refine (vec_Round.calls 1 _ _ _ _ (rndM_some q1 d)).mono ?_
  rintro e W3 ⟨rfl, hb3⟩
  refine ⟨_, rfl, ?_⟩
  have HB3 := Aside0.mk (below_then HB2.out HB2.out.size hb3)
  have H3g := Aside0.mk ((hb3.block _ (lt_of_block H2g.out)).trans H2g.out)
  have H34 := Aside0.mk ((hb3.block _ (lt_of_block H24.out)).trans H24.out)
  clear hb3 hHeld HB2 H2g H24
  refine hK.out _ _ (three_cells H3g.out) (fun hHeld => ?_)
  clear hK K
  refine norm_ (a' := ?_) ?_ ?_
  rotate_left
  · (simp only [Act.put, List.setIfInBounds_toArray, List.set_cons_zero, List.set_cons_succ, i64_w, i32_w]; rfl)
  refine one_ (i := 20) (N := some 25) #[true, true, true, true, true, true, true, true, true, true, true, true, true, true, true, true, true, true, true, true, true, false, false] rfl rfl (by kernel_rfl) (by decide) (fun K hK => ?_)
  refine goes_ Try.func74 (by kernel_rfl) rfl #[.int .i64 q2, .int .i64 d] (by rfl) rfl rfl (by (try simp only [List.map_toArray, List.map_cons, List.map_nil]); rfl) ?_
  refine (vec_Round.calls 1 _ _ _ _ (rndM_some q2 d)).mono ?_
  rintro e W4 ⟨rfl, hb4⟩
  refine ⟨_, rfl, ?_⟩
  have HB4 := Aside0.mk (below_then HB3.out HB3.out.size hb4)
  have H4g := Aside0.mk ((hb4.block _ (lt_of_block H3g.out)).trans H3g.out)
  have H44 := Aside0.mk ((hb4.block _ (lt_of_block H34.out)).trans H34.out)
  clear hb4 hHeld HB3 H3g H34
  refine hK.out _ _ (three_cells H4g.out) (fun hHeld => ?_)
  clear hK K
  refine norm_ (a' := ?_) ?_ ?_
  rotate_left
  · (simp only [Act.put, List.setIfInBounds_toArray, List.set_cons_zero, List.set_cons_succ, i64_w, i32_w]; rfl)
  refine pure_ (i := 21) (N := some 26) (v := ?_) (a' := ?_) #[true, true, true, true, true, true, true, true, true, true, true, true, true, true, true, true, true, true, true, true, true, true, false] rfl rfl (by kernel_rfl) (fun _ _ _ h => h) (Or.inl ⟨by rfl, ?_⟩) ?_ ?_
  rotate_left
  · (intro w'; go_simp; with_reducible rfl)
  rotate_left
  · (simp only [Act.put, List.setIfInBounds_toArray, List.set_cons_zero, List.set_cons_succ, i64_w, i32_w]; rfl)
  refine last_ (i := 22) (N := none) #[true, true, true, true, true, true, true, true, true, true, true, true, true, true, true, true, true, true, true, true, true, true, true] rfl rfl (by kernel_rfl) (by decide) (fun K hK => ?_)
  refine skip_ (by rfl) rfl (run_store_own (g := g4) (j := 0) 42 (.tmp 4) (.tmp 26) rfl _ [.int .i64 (rndM q0 d), .int .i64 (rndM q1 d), .int .i64 (rndM q2 d)] rfl rfl rfl infoS42 (one3 _ _ _) H44.out (by simp)) ?_
  obtain ⟨hgw, cur, hcur, hcl⟩ := set_own (j := 0) [.int .i64 (rndM q0 d), .int .i64 (rndM q1 d), .int .i64 (rndM q2 d)] H44.out (by simp)
  obtain rfl : cur = #[.int .i64 (rndM q0 d), .int .i64 (rndM q1 d), .int .i64 (rndM q2 d)] := by
    rw [← Array.toList_inj]
    simpa using hcl
  have HGW := Aside0.mk hgw
  have HCUR := Aside0.mk hcur
  generalize W4.setCells g4 0 _ = W5 at HGW HCUR ⊢
  clear hgw hcur hcl
  refine hK.out _ _ ?_
  clear hK K
  refine done_ (by kernel_rfl) ?_
  go_wp2_with fail
  refine bodyPost_ret (results_cell_row rfl _ _ g4 42 #[.int .i64 (rndM q0 d), .int .i64 (rndM q1 d), .int .i64 (rndM q2 d)] (0, 0) _ rfl HCUR.out Try.underlying42 rfl (by kernel_rfl)) rfl ?_
  exact ⟨rfl, HB4.out.grown HGW.out HB4.out.size (fun k hk => by cases hk; have := HG4.out; omega)⟩
end Go.Proofs.Ytnjdjfengoaleaa.MSub
namespace Go.Proofs.Ytnjdjfengoaleaa.MSub
open Go.RowKit Go.Proofs.YtnjdjfengoaleaaW.PrintWords Go.Proofs.YtnjdjfengoaleaaW.PrintLast Go.Proofs.YtnjdjfengoaleaaW.PrintMore
open Go.Proofs.Ytnjdjfengoaleaa.Relv
set_option linter.unusedVariables false
set_option linter.unusedSimpArgs false
structure Fin_ where
  V : List S42
  F : List (List Int)
  X : List S53
  ES : List S47
  FN : List (List Int)
  RD : List Bool
  SH : List Int
  EV : List (List Int)
  FV : List S42
  A0 : Option Addr
  A1 : Option Addr
  A2 : Option Addr
  A3 : Option Addr
  A4 : Option Addr
  A5 : Option Addr
  A6 : Option Addr
  A7 : Option Addr
  A8 : Option Addr
  c0 : Nat
  c1 : Nat
  c2 : Nat
  c3 : Nat
  c4 : Nat
  c5 : Nat
  c6 : Nat
  c7 : Nat
  c8 : Nat
def Fin_.obj (D : Fin_) : Obj := .cells #[.slice D.A0 D.V.length D.c0, .slice D.A1 D.F.length D.c1, .slice D.A2 D.X.length D.c2, .slice D.A3 D.ES.length D.c3, .slice D.A4 D.FN.length D.c4, .slice D.A5 D.RD.length D.c5, .slice D.A6 D.SH.length D.c6, .slice D.A7 D.EV.length D.c7, .slice D.A8 D.FV.length D.c8] 79 (0, 0)
structure FinerR (w : World) (fb : Nat) (D : Fin_) : Prop where
  at_ : w.heap[fb]? = some D.obj
  v : Kd.C k42 w D.A0 D.V.length D.V
  es : Kd.C k47 w D.A3 D.ES.length D.ES
  fn : Kd.C (Kd.slice 3 (Kd.int .i64)) w D.A4 D.FN.length D.FN
  rd : Kd.C Kd.bool w D.A5 D.RD.length D.RD
  sh : Kd.C (Kd.int .i64) w D.A6 D.SH.length D.SH
  ev : Kd.C (Kd.slice 3 (Kd.int .i64)) w D.A7 D.EV.length D.EV
  fv : Kd.C k42 w D.A8 D.FV.length D.FV
  c3 : D.ES.length ≤ D.c3
  c4 : D.FN.length ≤ D.c4
  c5 : D.RD.length ≤ D.c5
theorem FinerR.below {w w1 : World} {fb : Nat} {D : Fin_} (h : FinerR w fb D) (hb : Below w.heap.size w w1) : FinerR w1 fb D :=
  ⟨(hb.block _ (lt_of_block h.at_)).trans h.at_, Kd.C_below h.v hb, Kd.C_below h.es hb, Kd.C_below h.fn hb, Kd.C_below h.rd hb, Kd.C_below h.sh hb, Kd.C_below h.ev hb, Kd.C_below h.fv hb, h.c3, h.c4, h.c5⟩
theorem FinerR.cell {w : World} {fb : Nat} {D : Fin_} (h : FinerR w fb D) (i : Nat) : w.cell? ⟨fb, i, none⟩ = #[Value.slice D.A0 D.V.length D.c0, .slice D.A1 D.F.length D.c1, .slice D.A2 D.X.length D.c2, .slice D.A3 D.ES.length D.c3, .slice D.A4 D.FN.length D.c4, .slice D.A5 D.RD.length D.c5, .slice D.A6 D.SH.length D.c6, .slice D.A7 D.EV.length D.c7, .slice D.A8 D.FV.length D.c8][i]? := blk_cell h.at_ i
theorem row1 {W : World} {b : Nat} {p : S42} (h : W.heap[b]? = some (.cells #[.int .i64 p.f0, .int .i64 p.f1, .int .i64 p.f2] 42 (0, 0))) : Kd.C k42 W (some ⟨b, 0, none⟩) [p].length [p] := by
  refine ⟨rfl, by simp, fun _ => ⟨_, rfl, fun j q hj => ?_⟩⟩
  cases j with
  | zero =>
    cases hj
    refine ⟨_, rfl, k42_mk W p, fun i u hu => ?_⟩
    have e : (⟨b, 0, none⟩ : Addr).add (0 * k42.sz + i) = ⟨b, i, none⟩ := by simp [Addr.add]; intro h; exact h.symm
    rw [e, blk_cell h i]
    simpa using hu
  | succ j => simp at hj
theorem row2 {W : World} {b : Nat} {p q : S42} (h : W.heap[b]? = some (.cells #[.int .i64 p.f0, .int .i64 p.f1, .int .i64 p.f2, .int .i64 q.f0, .int .i64 q.f1, .int .i64 q.f2] 42 (0, 0))) : Kd.C k42 W (some ⟨b, 0, none⟩) [p, q].length [p, q] := by
  refine ⟨rfl, by simp, fun _ => ⟨_, rfl, fun j r hj => ?_⟩⟩
  match j, hj with
  | 0, hj =>
    cases hj
    refine ⟨_, rfl, k42_mk W p, fun i u hu => ?_⟩
    have e : (⟨b, 0, none⟩ : Addr).add (0 * k42.sz + i) = ⟨b, i, none⟩ := by simp [Addr.add]; intro h; exact h.symm
    rw [e, blk_cell h i]
    match i, hu with
    | 0, hu => simpa using hu
    | 1, hu => simpa using hu
    | 2, hu => simpa using hu
    | i + 3, hu => simp at hu
  | 1, hj =>
    cases hj
    refine ⟨_, rfl, k42_mk W q, fun i u hu => ?_⟩
    have e : (⟨b, 0, none⟩ : Addr).add (1 * k42.sz + i) = ⟨b, 3 + i, none⟩ := by simp [Addr.add, show k42.sz = 3 from rfl]
    rw [e, blk_cell h (3 + i)]
    match i, hu with
    | 0, hu => simpa using hu
    | 1, hu => simpa using hu
    | 2, hu => simpa using hu
    | i + 3, hu => simp at hu
  | j + 2, hj => simp at hj
theorem add1_calls (w : World) (g : Nat) (s p : S42) (k : Int) (hg : w.heap[g]? = some (.cells (cellsV s) 108 (0, 0))) :
    Calls Try.prog 53 #[.pointer (some ⟨g, 0, none⟩), .int .i64 k, .slice (some ⟨w.heap.size, 0, none⟩) 1 1] (w.alloc (.cells #[.int .i64 p.f0, .int .i64 p.f1, .int .i64 p.f2] 42)) fun e w' => e = .returned (.tuple #[]) ∧ w'.heap[g]? = some (.cells (cellsV (plus k s p)) 108 (0, 0)) ∧ w.grownBy w' (some g) := by
  have hlt := lt_of_block hg
  have hn := heap_alloc_new w (.cells #[.int .i64 p.f0, .int .i64 p.f1, .int .i64 p.f2] 42)
  have hb : Below w.heap.size w (w.alloc (.cells #[.int .i64 p.f0, .int .i64 p.f1, .int .i64 p.f2] 42)) := below_alloc (Below.refl _ _) _
  refine (sum_add_calls _ g s k (some ⟨w.heap.size, 0, none⟩) 1 [p] ((hb.block _ hlt).trans hg) (row1 hn) (fun w' hg' => row1 ((hg'.block _ (lt_of_block hn) (fun e => by injection e with e; omega)).trans hn)) (by simp)).mono ?_
  rintro e w' ⟨rfl, h1, h2⟩
  exact ⟨rfl, h1, World.grownBy.trans (grown_of_below hb _) h2⟩
theorem add2_calls (w : World) (g : Nat) (s p q : S42) (k : Int) (hg : w.heap[g]? = some (.cells (cellsV s) 108 (0, 0))) :
    Calls Try.prog 53 #[.pointer (some ⟨g, 0, none⟩), .int .i64 k, .slice (some ⟨w.heap.size, 0, none⟩) 2 2] (w.alloc (.cells #[.int .i64 p.f0, .int .i64 p.f1, .int .i64 p.f2, .int .i64 q.f0, .int .i64 q.f1, .int .i64 q.f2] 42)) fun e w' => e = .returned (.tuple #[]) ∧ w'.heap[g]? = some (.cells (cellsV (plus k (plus k s p) q)) 108 (0, 0)) ∧ w.grownBy w' (some g) := by
  have hlt := lt_of_block hg
  have hn := heap_alloc_new w (.cells #[.int .i64 p.f0, .int .i64 p.f1, .int .i64 p.f2, .int .i64 q.f0, .int .i64 q.f1, .int .i64 q.f2] 42)
  have hb : Below w.heap.size w (w.alloc (.cells #[.int .i64 p.f0, .int .i64 p.f1, .int .i64 p.f2, .int .i64 q.f0, .int .i64 q.f1, .int .i64 q.f2] 42)) := below_alloc (Below.refl _ _) _
  refine (sum_add_calls _ g s k (some ⟨w.heap.size, 0, none⟩) 2 [p, q] ((hb.block _ hlt).trans hg) (row2 hn) (fun w' hg' => row2 ((hg'.block _ (lt_of_block hn) (fun e => by injection e with e; omega)).trans hn)) (by simp)).mono ?_
  rintro e w' ⟨rfl, h1, h2⟩
  exact ⟨rfl, h1, World.grownBy.trans (grown_of_below hb _) h2⟩
def ptsOf (V : List S42) (fc : List Int) : List S42 := fc.map (rd_T42 V)
def facePt (V : List S42) (fc : List Int) : S42 := ofV (sumV 1 z42 (ptsOf V fc)) fc.length
theorem sumV_snoc (k : Int) (s p : S42) (L : List S42) : sumV k s (L ++ [p]) = plus k (sumV k s L) p := by simp [sumV]
set_option maxHeartbeats 1000000 in
set_option maxRecDepth 100000 in
theorem face_pt_calls (w : World) (fb : Nat) (D : Fin_) (A : Option Addr) (c : Nat) (fc : List Int) (hD : FinerR w fb D) (hfc : Kd.C (Kd.int .i64) w A fc.length fc) (hin : ∀ v ∈ fc, 0 ≤ v ∧ v < D.V.length) :
    Calls Try.prog 34 #[.pointer (some ⟨fb, 0, none⟩), .slice A fc.length c] w fun e w' => e = .returned (.agg (cellsV (facePt D.V fc))) ∧ Below w.heap.size w w' := by
  have HD := Aside0.mk hD
  have HC := Aside0.mk hfc
  have HIN := Aside0.mk hin
  have hlen := hfc.2.1
  obtain ⟨r, hr⟩ : ∃ r, facePt D.V fc = r := ⟨_, rfl⟩
  rw [hr]
  have HR := Aside0.mk hr
  clear hD hfc hin hr
  obtain ⟨r0, r1, r2⟩ := r
  go_enter Try.func34, Try.ntmps34
  go_wp2_with fail
  have H4 : Aside0 (((w.alloc (.cells #[.int .i64 0, .int .i64 0, .int .i64 0] 42)).alloc (.cells #[.int .i64 0, .int .i64 0, .int .i64 0] 108)).heap[w.heap.size]? = some (.cells #[.int .i64 0, .int .i64 0, .int .i64 0] 42 (0, 0))) := ⟨by
    rw [Below.heap_alloc _ _ _ (by simp)]
    exact heap_alloc_new _ _⟩
  have H5 : Aside0 (((w.alloc (.cells #[.int .i64 0, .int .i64 0, .int .i64 0] 42)).alloc (.cells #[.int .i64 0, .int .i64 0, .int .i64 0] 108)).heap[w.heap.size + 1]? = some (.cells (cellsV (sumV 1 z42 (ptsOf D.V (fc.take 0)))) 108 (0, 0))) := ⟨by
    have := heap_alloc_new (w.alloc (.cells #[.int .i64 0, .int .i64 0, .int .i64 0] 42)) (.cells #[.int .i64 0, .int .i64 0, .int .i64 0] 108)
    simp only [World.size_alloc] at this
    exact this⟩
  have HB := Aside0.mk (below_alloc (below_alloc (Below.refl _ w) (.cells #[.int .i64 0, .int .i64 0, .int .i64 0] 42)) (.cells #[.int .i64 0, .int .i64 0, .int .i64 0] 108))
  obtain ⟨g5, hg5⟩ : ∃ g5, w.heap.size + 1 = g5 := ⟨_, rfl⟩
  rw [hg5] at H5 ⊢
  go_loopw [10] (fun v10 wr => ∃ j : Nat, j ≤ fc.length ∧ v10 = .int .i64 j ∧ Aside0 (wr.heap[w.heap.size]? = some (.cells #[.int .i64 0, .int .i64 0, .int .i64 0] 42 (0, 0))) ∧ Aside0 (wr.heap[g5]? = some (.cells (cellsV (sumV 1 z42 (ptsOf D.V (fc.take j)))) 108 (0, 0))) ∧ Aside0 (Below w.heap.size w wr))
    (fun v10 _ => fc.length - (intOf v10).toNat)
  case atStart => exact ⟨0, Nat.zero_le _, rfl, H4, H5, HB⟩
  case round =>
    obtain ⟨j, hj, rfl, HR4, HR5, HBR⟩ := hrel
    by_cases hlt : j < fc.length
    · have HDR := Aside0.mk (HD.out.below HBR.out)
      obtain ⟨vj, hvj⟩ : ∃ vj, rd fc j = vj := ⟨_, rfl⟩
      have hmem : vj ∈ fc := by rw [← hvj]; exact rd_mem hlt
      obtain ⟨hv0, hv1⟩ := HIN.out vj hmem
      obtain ⟨ad0, e', hcj⟩ := Kd.at_int (Kd.C_below HC.out HBR.out) j (by omega) (by omega)
      cases e'
      rw [hvj, Int.toNat_natCast] at hcj
      obtain ⟨ad, hA, hx0, hx1, hx2⟩ := at_T42 HDR.out.v vj hv0 hv1
      have hf0 := (HDR.out.cell 0).trans (rfl : _ = some (Value.slice D.A0 D.V.length D.c0))
      rw [hA] at hf0
      have HS1 : Aside0 (sumV 1 z42 (ptsOf D.V (fc.take (j + 1))) = plus 1 (sumV 1 z42 (ptsOf D.V (fc.take j))) (rd_T42 D.V vj)) := ⟨by
        have : ptsOf D.V (fc.take (j + 1)) = ptsOf D.V (fc.take j) ++ [rd_T42 D.V vj] := by
          unfold ptsOf
          rw [List.take_succ_eq_append_getElem hlt, List.map_append]
          congr 2
          rw [← hvj]
          simp [rd, List.getD_eq_getElem?_getD, hlt]
        rw [this, sumV_snoc]⟩
      obtain ⟨p, hp⟩ : ∃ p, rd_T42 D.V vj = p := ⟨_, rfl⟩
      rw [hp] at hx0 hx1 hx2 HS1
      obtain ⟨q, hq⟩ : ∃ q, sumV 1 z42 (ptsOf D.V (fc.take j)) = q := ⟨_, rfl⟩
      rw [hq] at HR5 HS1
      have HADD := Aside0.mk (add1_calls wr g5 q p 1 HR5.out)
      have HA := Aside0.mk hA
      clear hp hq hA hvj hmem
      go_wp2_with fail
      refine HADD.out.mono ?_
      rintro e w9 ⟨rfl, h9, hg9⟩
      have H94 := Aside0.mk ((hg9.block _ (lt_of_block HR4.out) (fun e => by injection e with e; omega)).trans HR4.out)
      have HB9 := Aside0.mk (HBR.out.grown hg9 HBR.out.size (fun k hk => by cases hk; omega))
      have H9 := Aside0.mk h9
      clear h9 hg9 hx0 hx1 hx2 hcj hf0
      go_wp2_with fail
      go_roundw
      case rel => exact ⟨j + 1, by omega, by go_num, H94, ⟨by rw [HS1.out]; exact H9.out⟩, HB9⟩
      case measure => simp [intOf]; omega
    · obtain rfl : j = fc.length := by omega
      rw [List.take_length] at HR5
      have HOF := Aside0.mk (sum_of_calls wr g5 _ (fc.length : Int) HR5.out)
      have hz := HBR.out.size
      have hfp : ofV (sumV 1 z42 (ptsOf D.V fc)) (fc.length : Int) = ⟨r0, r1, r2⟩ := HR.out
      rw [hfp] at HOF
      have HOF2 : Aside0 (Calls Try.prog 54 #[.pointer (some ⟨g5, 0, none⟩), .int .i64 fc.length] wr fun e w' => e = .returned (.agg #[.int .i64 r0, .int .i64 r1, .int .i64 r2]) ∧ Below wr.heap.size wr w') := HOF
      clear hfp HOF
      go_wp2_with fail
      refine HOF2.out.mono ?_
      rintro e w9 ⟨rfl, hb9⟩
      have h94 := (hb9.block _ (lt_of_block HR4.out)).trans HR4.out
      have HB9 := Aside0.mk (below_then HBR.out HBR.out.size hb9)
      clear hb9
      go_wp2_with (first | (refine gate_ (.store 42 (.tmp 4) (.tmp 27)) rfl ?_; refine store_own (g := w.heap.size) (j := 0) 42 (.tmp 4) (.tmp 27) rfl rfl rfl (.agg #[.int .i64 r0, .int .i64 r1, .int .i64 r2]) [.int .i64 r0, .int .i64 r1, .int .i64 r2] rfl rfl rfl infoS42 (one3 _ _ _) h94 (by simp) ?_))
      intro w3 hg3 cur3 hb3 hl3 hs3
      obtain rfl : cur3 = #[.int .i64 r0, .int .i64 r1, .int .i64 r2] := by
        rw [← Array.toList_inj]
        simpa using hl3
      have HB3 : Aside0 (Below w.heap.size w w3) := ⟨HB9.out.grown hg3 HB9.out.size (fun k hk => by cases hk; omega)⟩
      clear hg3 hl3 hs3
      go_wp2_with fail
      refine bodyPost_ret (results_cell_row rfl _ _ w.heap.size 42 #[.int .i64 r0, .int .i64 r1, .int .i64 r2] (0, 0) _ rfl hb3 Try.underlying42 rfl (by kernel_rfl)) rfl ?_
      exact ⟨rfl, HB3.out⟩
end Go.Proofs.Ytnjdjfengoaleaa.MSub
namespace Go.Proofs.Ytnjdjfengoaleaa.MSub
open Go.RowKit Go.Proofs.YtnjdjfengoaleaaW.PrintWords Go.Proofs.YtnjdjfengoaleaaW.PrintLast Go.Proofs.YtnjdjfengoaleaaW.PrintMore
open Go.Proofs.Ytnjdjfengoaleaa.Relv
set_option linter.unusedVariables false
set_option linter.unusedSimpArgs false
set_option maxHeartbeats 1000000 in
set_option maxRecDepth 100000 in
theorem other_calls (w : World) (fb : Nat) (D : Fin_) (i v n : Int) (hD : FinerR w fb D) (hi0 : 0 ≤ i) (hi1 : i < D.ES.length) (hn : (rd_T47 D.ES i).f0 + (rd_T47 D.ES i).f1 - v = n) (hn0 : 0 ≤ n) (hn1 : n < D.V.length)
    (hb0 : -4611686018427387904 ≤ (rd_T47 D.ES i).f0 + (rd_T47 D.ES i).f1) (hb1 : (rd_T47 D.ES i).f0 + (rd_T47 D.ES i).f1 ≤ 4611686018427387904) (hb2 : n ≤ 4611686018427387904) :
    Calls Try.prog 55 #[.pointer (some ⟨fb, 0, none⟩), .int .i64 i, .int .i64 v] w fun e w' => e = .returned (.agg (cellsV (rd_T42 D.V n))) ∧ Below w.heap.size w w' := by
  have HD := Aside0.mk hD
  obtain ⟨ade, hA3, hy0, hy1, hy2, hy3⟩ := at_T47 hD.es i hi0 hi1
  obtain ⟨ad, hA0, hx0, hx1, hx2⟩ := at_T42 hD.v n hn0 hn1
  have hf0 := (hD.cell 0).trans (rfl : _ = some (Value.slice D.A0 D.V.length D.c0))
  have hf3 := (hD.cell 3).trans (rfl : _ = some (Value.slice D.A3 D.ES.length D.c3))
  rw [hA0] at hf0
  rw [hA3] at hf3
  obtain ⟨pt, hpt⟩ : ∃ pt, rd_T42 D.V n = pt := ⟨_, rfl⟩
  rw [hpt] at hx0 hx1 hx2 ⊢
  obtain ⟨p0, p1, p2⟩ := pt
  obtain ⟨ed, hed⟩ : ∃ ed, rd_T47 D.ES i = ed := ⟨_, rfl⟩
  rw [hed] at hy0 hy1 hy2 hy3 hn hb0 hb1
  obtain ⟨x0, x1, x2, x3⟩ := ed
  simp only at hn hb0 hb1 hx0 hx1 hx2 hy0 hy1 hy2 hy3
  obtain ⟨s, hs⟩ : ∃ s, x0 + x1 = s := ⟨_, rfl⟩
  have hw1 : IntKind.i64.wrap (x0 + x1) = s := by rw [i64_w, w64_in _ hb0 hb1]; exact hs
  have hw2 : IntKind.i64.wrap (s - v) = n := by rw [i64_w, ← hs, hn, w64_in _ (by omega) hb2]
  clear hpt hed hA0 hA3 hn hs hb0 hb1 hD
  obtain ⟨m, hm⟩ : ∃ m : Nat, (m : Int) = n := ⟨n.toNat, by omega⟩
  subst hm
  rw [Int.toNat_natCast] at hx0 hx1 hx2
  obtain ⟨mi, hmi⟩ : ∃ mi : Nat, (mi : Int) = i := ⟨i.toNat, by omega⟩
  subst hmi
  rw [Int.toNat_natCast] at hy0 hy1 hy2 hy3
  have hb0 : Below w.heap.size w (w.alloc (.cells #[.int .i64 0, .int .i64 0, .int .i64 0] 42)) := below_alloc (Below.refl _ w) _
  have h06 := heap_alloc_new w (.cells #[.int .i64 0, .int .i64 0, .int .i64 0] 42)
  have hs0 : (w.alloc (.cells #[.int .i64 0, .int .i64 0, .int .i64 0] 42)).heap.size = w.heap.size + 1 := by simp
  obtain ⟨W0, hW0⟩ : ∃ W0, w.alloc (.cells #[.int .i64 0, .int .i64 0, .int .i64 0] 42) = W0 := ⟨_, rfl⟩
  rw [hW0] at hb0 h06 hs0
  replace hf0 := pw_cell_below hb0 hf0
  replace hf3 := pw_cell_below hb0 hf3
  replace hx0 := pw_cell_below hb0 hx0
  replace hx1 := pw_cell_below hb0 hx1
  replace hx2 := pw_cell_below hb0 hx2
  replace hy0 := pw_cell_below hb0 hy0
  replace hy1 := pw_cell_below hb0 hy1
  replace hy2 := pw_cell_below hb0 hy2
  replace hy3 := pw_cell_below hb0 hy3
  have hb1 : Below W0.heap.size W0 (W0.alloc (.cells #[.int .i64 x0, .int .i64 x1, .int .i64 x2, .int .i64 x3] 47)) := below_alloc (Below.refl _ W0) _
  have h17 := heap_alloc_new W0 (.cells #[.int .i64 x0, .int .i64 x1, .int .i64 x2, .int .i64 x3] 47)
  have h16 := (hb1.block _ (lt_of_block h06)).trans h06
  obtain ⟨W, hW⟩ : ∃ W, W0.alloc (.cells #[.int .i64 x0, .int .i64 x1, .int .i64 x2, .int .i64 x3] 47) = W := ⟨_, rfl⟩
  rw [hW] at hb1 h17 h16
  obtain ⟨g7, hg7⟩ : ∃ g7, W0.heap.size = g7 := ⟨_, rfl⟩
  rw [hg7] at h17
  have HBW := Aside0.mk (below_then hb0 hb0.size hb1)
  have HB1 := Aside0.mk hb1
  have H6 := Aside0.mk h16
  have H7 := Aside0.mk h17
  clear hb0 h06 hs0 hb1 h17 h16
  go_enter Try.func55, Try.ntmps55
  go_wp2_with fail
  clear hg7
  have HF0 := Aside0.mk hf0
  have HX0 := Aside0.mk hx0
  have HX1 := Aside0.mk hx1
  have HX2 := Aside0.mk hx2
  clear hf0 hf3 hx0 hx1 hx2 hy0 hy1 hy2 hy3 hW0 hW
  refine start_ (n := 15) (S := (fun w' => w'.cell? ⟨fb, 0, none⟩ = some (.slice (some ad) D.V.length D.c0) ∧ w'.cell? ⟨g7, 0, none⟩ = some (.int .i64 x0) ∧ w'.cell? ⟨g7, 1, none⟩ = some (.int .i64 x1) ∧ w'.cell? (ad.add (m * 3)) = some (.int .i64 p0) ∧ w'.cell? ⟨(ad.add (m * 3)).block, (ad.add (m * 3)).off + 1, none⟩ = some (.int .i64 p1) ∧ w'.cell? ⟨(ad.add (m * 3)).block, (ad.add (m * 3)).off + 2, none⟩ = some (.int .i64 p2))) (ds := [14]) #[false, false, false, false, false, false, false, false, false, false, false, false, false, false, false] (by kernel_rfl) rfl rfl ⟨pw_cell_below (below_drew HB1.out) HF0.out, (blk_cell (blk_drew H7.out) 0).trans rfl, (blk_cell (blk_drew H7.out) 1).trans rfl, pw_cell_below (below_drew HB1.out) HX0.out, pw_cell_below (below_drew HB1.out) HX1.out, pw_cell_below (below_drew HB1.out) HX2.out⟩ (fun hHeld => ?_)
  have HB2 := Aside0.mk (below_drew HBW.out)
  have H16 := Aside0.mk (blk_drew H6.out)
  generalize W.drew = W1 at hHeld HB2 H16 ⊢
  clear HBW HB1 H6 H7
  refine pure_ (i := 0) (N := some 16) (v := ?_) (a' := ?_) #[true, false, false, false, false, false, false, false, false, false, false, false, false, false, false] rfl rfl (by kernel_rfl) (fun _ _ _ h => h) (Or.inl ⟨by rfl, ?_⟩) ?_ ?_
  rotate_left
  · (intro w'; go_simp; with_reducible rfl)
  rotate_left
  · (simp only [Act.put, List.setIfInBounds_toArray, List.set_cons_zero, List.set_cons_succ, i64_w, i32_w]; rfl)
  refine pure_ (i := 1) (N := some 17) (v := ?_) (a' := ?_) #[true, true, false, false, false, false, false, false, false, false, false, false, false, false, false] rfl rfl (by kernel_rfl) (fun _ _ _ h => h) (Or.inl ⟨by rfl, ?_⟩) ?_ ?_
  rotate_left
  · (intro w'; go_simp; with_reducible rfl)
  rotate_left
  · (simp only [Act.put, List.setIfInBounds_toArray, List.set_cons_zero, List.set_cons_succ, i64_w, i32_w]; rfl)
  refine pure_ (i := 2) (N := some 18) (v := ?_) (a' := ?_) #[true, true, true, false, false, false, false, false, false, false, false, false, false, false, false] rfl rfl (by kernel_rfl) (fun _ _ _ h => h) (Or.inl ⟨by rfl, ?_⟩) ?_ ?_
  rotate_left
  · (intro w'; go_simp; with_reducible rfl)
  rotate_left
  · (simp only [Act.put, List.setIfInBounds_toArray, List.set_cons_zero, List.set_cons_succ, i64_w, i32_w]; rfl)
  refine pure_ (i := 3) (N := some 19) (v := ?_) (a' := ?_) #[true, true, true, true, false, false, false, false, false, false, false, false, false, false, false] rfl rfl (by kernel_rfl) (fun _ _ _ h => h) (Or.inl ⟨by rfl, ?_⟩) ?_ ?_
  rotate_left
  · (intro w'; go_simp; with_reducible rfl)
  rotate_left
  · (simp only [Act.put, List.setIfInBounds_toArray, List.set_cons_zero, List.set_cons_succ, i64_w, i32_w]; rfl)
  refine take_ (i := 4) (N := some 20) (v := ?_) (a' := ?_) #[true, true, true, true, true, false, false, false, false, false, false, false, false, false, false] rfl rfl (by kernel_rfl) (fun _ _ _ h => h) (Or.inl ⟨by rfl, ?_⟩) (by assumption) ?_ ?_
  rotate_left
  · (intro w' hSw; (try dsimp only at hSw); go_split_ands; go_simp; with_reducible rfl)
  rotate_left
  · (simp only [Act.put, List.setIfInBounds_toArray, List.set_cons_zero, List.set_cons_succ, i64_w, i32_w]; rfl)
  refine pure_ (i := 5) (N := some 21) (v := ?_) (a' := ?_) #[true, true, true, true, true, true, false, false, false, false, false, false, false, false, false] rfl rfl (by kernel_rfl) (fun _ _ _ h => h) (Or.inl ⟨by rfl, ?_⟩) ?_ ?_
  rotate_left
  · (intro w'; go_simp; with_reducible rfl)
  rotate_left
  · (simp only [Act.put, List.setIfInBounds_toArray, List.set_cons_zero, List.set_cons_succ, i64_w, i32_w]; rfl)
  refine take_ (i := 6) (N := some 22) (v := ?_) (a' := ?_) #[true, true, true, true, true, true, true, false, false, false, false, false, false, false, false] rfl rfl (by kernel_rfl) (fun _ _ _ h => h) (Or.inl ⟨by rfl, ?_⟩) (by assumption) ?_ ?_
  rotate_left
  · (intro w' hSw; (try dsimp only at hSw); go_split_ands; go_simp; with_reducible rfl)
  rotate_left
  · (simp only [Act.put, List.setIfInBounds_toArray, List.set_cons_zero, List.set_cons_succ, i64_w, i32_w]; rfl)
  refine pure_ (i := 7) (N := some 23) (v := ?_) (a' := ?_) #[true, true, true, true, true, true, true, true, false, false, false, false, false, false, false] rfl rfl (by kernel_rfl) (fun _ _ _ h => h) (Or.inl ⟨by rfl, ?_⟩) ?_ ?_
  rotate_left
  · (intro w'; go_simp; with_reducible rfl)
  rotate_left
  · (simp only [Act.put, List.setIfInBounds_toArray, List.set_cons_zero, List.set_cons_succ, i64_w, i32_w]; rfl)
  refine take_ (i := 8) (N := some 24) (v := ?_) (a' := ?_) #[true, true, true, true, true, true, true, true, true, false, false, false, false, false, false] rfl rfl (by kernel_rfl) (fun _ _ _ h => h) (Or.inl ⟨by rfl, ?_⟩) (by assumption) ?_ ?_
  rotate_left
  · (intro w' hSw; (try dsimp only at hSw); go_split_ands; go_simp; with_reducible rfl)
  rotate_left
  · (simp only [Act.put, List.setIfInBounds_toArray, List.set_cons_zero, List.set_cons_succ, i64_w, i32_w]; rfl)
  refine pure_ (i := 9) (N := some 25) (v := ?_) (a' := ?_) #[true, true, true, true, true, true, true, true, true, true, false, false, false, false, false] rfl rfl (by kernel_rfl) (fun _ _ _ h => h) (Or.inl ⟨by rfl, ?_⟩) ?_ ?_
  rotate_left
  · (intro w'; go_simp; with_reducible rfl)
  rotate_left
  · (simp only [Act.put, List.setIfInBounds_toArray, List.set_cons_zero, List.set_cons_succ, i64_w, i32_w]; rfl)
  refine pure_ (i := 10) (N := some 26) (v := ?_) (a' := ?_) #[true, true, true, true, true, true, true, true, true, true, true, false, false, false, false] rfl rfl (by kernel_rfl) (fun _ _ _ h => h) (Or.inl ⟨by rfl, ?_⟩) ?_ ?_
  rotate_left
  · (intro w'; go_simp; with_reducible rfl)
  rotate_left
  · (simp only [Act.put, List.setIfInBounds_toArray, List.set_cons_zero, List.set_cons_succ, i64_w, i32_w]; rfl)
  refine pure_ (i := 11) (N := some 27) (v := ?_) (a' := ?_) #[true, true, true, true, true, true, true, true, true, true, true, true, false, false, false] rfl rfl (by kernel_rfl) (fun _ _ _ h => h) (Or.inl ⟨by rfl, ?_⟩) ?_ ?_
  rotate_left
  · (intro w'; go_simp; with_reducible rfl)
  rotate_left
  · (simp only [Act.put, List.setIfInBounds_toArray, List.set_cons_zero, List.set_cons_succ, i64_w, i32_w]; rfl)
  refine pure_ (i := 12) (N := some 28) (v := ?_) (a' := ?_) #[true, true, true, true, true, true, true, true, true, true, true, true, true, false, false] rfl rfl (by kernel_rfl) (fun _ _ _ h => h) (Or.inl ⟨by rfl, ?_⟩) ?_ ?_
  rotate_left
  · (intro w'; go_simp; with_reducible rfl)
  rotate_left
  · (simp only [Act.put, List.setIfInBounds_toArray, List.set_cons_zero, List.set_cons_succ, i64_w, i32_w]; rfl)
  refine take_ (i := 13) (N := some 29) (v := ?_) (a' := ?_) #[true, true, true, true, true, true, true, true, true, true, true, true, true, true, false] rfl rfl (by kernel_rfl) (fun _ _ _ h => h) (Or.inl ⟨by rfl, ?_⟩) (by assumption) ?_ ?_
  rotate_left
  · (intro w' hSw; (try dsimp only at hSw); go_split_ands; go_simp; with_reducible rfl)
  rotate_left
  · (simp only [Act.put, List.setIfInBounds_toArray, List.set_cons_zero, List.set_cons_succ, i64_w, i32_w]; rfl)
  refine last_ (i := 14) (N := none) #[true, true, true, true, true, true, true, true, true, true, true, true, true, true, true] rfl rfl (by kernel_rfl) (by decide) (fun K hK => ?_)
  refine skip_ (by rfl) rfl (run_store_own (g := w.heap.size) (j := 0) 42 (.tmp 6) (.tmp 29) rfl _ [.int .i64 p0, .int .i64 p1, .int .i64 p2] rfl rfl rfl infoS42 (one3 _ _ _) H16.out (by simp)) ?_
  obtain ⟨hgw, cur, hcur, hcl⟩ := set_own (j := 0) [.int .i64 p0, .int .i64 p1, .int .i64 p2] H16.out (by simp)
  obtain rfl : cur = #[.int .i64 p0, .int .i64 p1, .int .i64 p2] := by
    rw [← Array.toList_inj]
    simpa using hcl
  have HGW := Aside0.mk hgw
  have HCUR := Aside0.mk hcur
  generalize W1.setCells w.heap.size 0 _ = W5 at HGW HCUR ⊢
  clear hgw hcur hcl
  refine hK.out _ _ ?_
  clear hK K
  refine done_ (by kernel_rfl) ?_
  go_wp2_with fail
  refine bodyPost_ret (results_cell_row rfl _ _ w.heap.size 42 #[.int .i64 p0, .int .i64 p1, .int .i64 p2] (0, 0) _ rfl HCUR.out Try.underlying42 rfl (by kernel_rfl)) rfl ?_
  exact ⟨rfl, HB2.out.grown HGW.out HB2.out.size (fun k hk => by cases hk; omega)⟩
end Go.Proofs.Ytnjdjfengoaleaa.MSub
namespace Go.Proofs.Ytnjdjfengoaleaa.MSub
open Go.RowKit Go.Proofs.YtnjdjfengoaleaaW.PrintWords Go.Proofs.YtnjdjfengoaleaaW.PrintLast Go.Proofs.YtnjdjfengoaleaaW.PrintMore
open Go.Proofs.Ytnjdjfengoaleaa.Relv
set_option linter.unusedVariables false
set_option linter.unusedSimpArgs false
def otherPt (V : List S42) (ES : List S47) (v i : Int) : S42 := rd_T42 V ((rd_T47 ES i).f0 + (rd_T47 ES i).f1 - v)
def isHard (SH : List Int) (i : Int) : Bool := !(rd SH i == 0)
def allSum (D : Fin_) (v : Int) (l : List Int) : S42 := sumV 1 z42 (l.map (otherPt D.V D.ES v))
def hardSum (D : Fin_) (v : Int) (l : List Int) : S42 := sumV 1 z42 ((l.filter (isHard D.SH)).map (otherPt D.V D.ES v))
def hardNo (D : Fin_) (l : List Int) : Nat := (l.filter (isHard D.SH)).length
def vertexPt (D : Fin_) (v : Int) : S42 :=
  if 2 < hardNo D (fcAt D.EV v) then rd_T42 D.V v
  else if hardNo D (fcAt D.EV v) = 2 then ofV (plus 6 (hardSum D v (fcAt D.EV v)) (rd_T42 D.V v)) 8
  else ofV (sumV 1 (plus (((fcAt D.FN v).length : Int) * ((fcAt D.FN v).length - 2)) (allSum D v (fcAt D.EV v)) (rd_T42 D.V v)) ((fcAt D.FN v).map (rd_T42 D.FV))) (((fcAt D.FN v).length : Int) * (fcAt D.FN v).length)
structure VW (w wr : World) (g5 g6 : Nat) (s h : S42) : Prop where
  e5 : g5 = w.heap.size + 1
  e6 : g6 = w.heap.size + 2
  r4 : wr.heap[w.heap.size]? = some (.cells #[.int .i64 0, .int .i64 0, .int .i64 0] 42 (0, 0))
  r5 : wr.heap[g5]? = some (.cells (cellsV s) 108 (0, 0))
  r6 : wr.heap[g6]? = some (.cells (cellsV h) 108 (0, 0))
  b : Below w.heap.size w wr
section
variable {w wr w1 : World} {g5 g6 : Nat} {s h s' : S42}
theorem VW.step (H : VW w wr g5 g6 s h) (hb : Below wr.heap.size wr w1) : VW w w1 g5 g6 s h :=
  ⟨H.e5, H.e6, (hb.block _ (lt_of_block H.r4)).trans H.r4, (hb.block _ (lt_of_block H.r5)).trans H.r5, (hb.block _ (lt_of_block H.r6)).trans H.r6, below_then H.b H.b.size hb⟩
theorem VW.put5 (H : VW w wr g5 g6 s h) (h5 : w1.heap[g5]? = some (.cells (cellsV s') 108 (0, 0))) (hg : wr.grownBy w1 (some g5)) : VW w w1 g5 g6 s' h :=
  ⟨H.e5, H.e6, (hg.block _ (lt_of_block H.r4) (fun e => by injection e with e; have := H.e5; omega)).trans H.r4, h5, (hg.block _ (lt_of_block H.r6) (fun e => by injection e with e; have := H.e5; have := H.e6; omega)).trans H.r6, H.b.grown hg H.b.size (fun k hk => by cases hk; have := H.e5; omega)⟩
theorem VW.put6 (H : VW w wr g5 g6 s h) (h6 : w1.heap[g6]? = some (.cells (cellsV s') 108 (0, 0))) (hg : wr.grownBy w1 (some g6)) : VW w w1 g5 g6 s s' :=
  ⟨H.e5, H.e6, (hg.block _ (lt_of_block H.r4) (fun e => by injection e with e; have := H.e6; omega)).trans H.r4, (hg.block _ (lt_of_block H.r5) (fun e => by injection e with e; have := H.e5; have := H.e6; omega)).trans H.r5, h6, H.b.grown hg H.b.size (fun k hk => by cases hk; have := H.e6; omega)⟩
theorem VW.made (w : World) : VW w (((w.alloc (.cells #[.int .i64 0, .int .i64 0, .int .i64 0] 42)).alloc (.cells #[.int .i64 0, .int .i64 0, .int .i64 0] 108)).alloc (.cells #[.int .i64 0, .int .i64 0, .int .i64 0] 108)) (w.heap.size + 1) (w.heap.size + 2) z42 z42 := by
  have s1 : (w.alloc (.cells #[.int .i64 0, .int .i64 0, .int .i64 0] 42)).heap.size = w.heap.size + 1 := by simp
  have s2 : ((w.alloc (.cells #[.int .i64 0, .int .i64 0, .int .i64 0] 42)).alloc (.cells #[.int .i64 0, .int .i64 0, .int .i64 0] 108)).heap.size = w.heap.size + 2 := by simp
  refine ⟨rfl, rfl, ?_, ?_, ?_, below_alloc (below_alloc (below_alloc (Below.refl _ _) _) _) _⟩
  · rw [Below.heap_alloc _ _ _ (by rw [s2]; omega), Below.heap_alloc _ _ _ (by rw [s1]; omega)]
    exact heap_alloc_new _ _
  · rw [Below.heap_alloc _ _ _ (by rw [s2]; omega)]
    have := heap_alloc_new (w.alloc (.cells #[.int .i64 0, .int .i64 0, .int .i64 0] 42)) (.cells #[.int .i64 0, .int .i64 0, .int .i64 0] 108)
    rw [s1] at this
    exact this
  · have := heap_alloc_new ((w.alloc (.cells #[.int .i64 0, .int .i64 0, .int .i64 0] 42)).alloc (.cells #[.int .i64 0, .int .i64 0, .int .i64 0] 108)) (.cells #[.int .i64 0, .int .i64 0, .int .i64 0] 108)
    rw [s2] at this
    exact this
end
theorem sum_snoc (D : Fin_) (v : Int) (l : List Int) (i : Int) : allSum D v (l ++ [i]) = plus 1 (allSum D v l) (otherPt D.V D.ES v i) := by simp [allSum, sumV]
theorem hard_snoc (D : Fin_) (v : Int) (l : List Int) (i : Int) : hardSum D v (l ++ [i]) = if isHard D.SH i then plus 1 (hardSum D v l) (otherPt D.V D.ES v i) else hardSum D v l := by
  unfold hardSum
  rw [List.filter_append]
  cases h : isHard D.SH i <;> simp [h, sumV]
theorem no_snoc (D : Fin_) (l : List Int) (i : Int) : hardNo D (l ++ [i]) = if isHard D.SH i then hardNo D l + 1 else hardNo D l := by
  unfold hardNo
  rw [List.filter_append]
  cases h : isHard D.SH i <;> simp [h]
structure VtxOk (D : Fin_) (v : Int) : Prop where
  v0 : 0 ≤ v
  vV : v < D.V.length
  vE : v < D.EV.length
  vF : v < D.FN.length
  small : (fcAt D.FN v).length ≤ 1073741824
  nE : (fcAt D.EV v).length ≤ 4611686018427387904
  nV : (D.V.length : Int) ≤ 1099511627776
  edge : ∀ i ∈ fcAt D.EV v, 0 ≤ i ∧ i < D.ES.length ∧ i < D.SH.length ∧ 0 ≤ (rd_T47 D.ES i).f0 + (rd_T47 D.ES i).f1 - v ∧ (rd_T47 D.ES i).f0 + (rd_T47 D.ES i).f1 - v < D.V.length
  face : ∀ g ∈ fcAt D.FN v, 0 ≤ g ∧ g < D.FV.length
theorem oth_calls (w : World) (fb : Nat) (D : Fin_) (i v : Int) (hD : FinerR w fb D) (hv : VtxOk D v) (hi : i ∈ fcAt D.EV v) :
    Calls Try.prog 55 #[.pointer (some ⟨fb, 0, none⟩), .int .i64 i, .int .i64 v] w fun e w' => e = .returned (.agg #[.int .i64 (otherPt D.V D.ES v i).f0, .int .i64 (otherPt D.V D.ES v i).f1, .int .i64 (otherPt D.V D.ES v i).f2]) ∧ Below w.heap.size w w' := by
  obtain ⟨h0, h1, h2, h3, h4⟩ := hv.edge i hi
  have a := hv.v0
  have b := hv.vV
  have c := hv.nV
  exact other_calls w fb D i v _ hD h0 h1 rfl h3 h4 (by omega) (by omega) (by omega)
set_option maxHeartbeats 2000000 in
set_option maxRecDepth 100000 in
theorem vertex_calls (w : World) (fb : Nat) (D : Fin_) (v : Int) (hD : FinerR w fb D) (hv : VtxOk D v) :
    Calls Try.prog 35 #[.pointer (some ⟨fb, 0, none⟩), .int .i64 v] w fun e w' => e = .returned (.agg (cellsV (vertexPt D v))) ∧ Below w.heap.size w w' := by
  obtain ⟨res, hres⟩ : ∃ res, vertexPt D v = res := ⟨_, rfl⟩
  rw [hres]
  obtain ⟨r0, r1, r2⟩ := res
  have HRES := Aside0.mk hres
  have HD := Aside0.mk hD
  have HV := Aside0.mk hv
  obtain ⟨adE, B, cb, hAE, hrow, hcb, hCB⟩ := at_face hD.ev v hv.v0 hv.vE
  have hf7 := (hD.cell 7).trans (rfl : _ = some (Value.slice D.A7 D.EV.length D.c7))
  rw [hAE] at hf7
  obtain ⟨evr, hevr⟩ : ∃ evr, fcAt D.EV v = evr := ⟨_, rfl⟩
  rw [hevr] at hrow hcb hCB
  have HEV := Aside0.mk hevr
  have HCB := Aside0.mk hCB
  have hvE := hv.vE
  have hv0 := hv.v0
  have hvV := hv.vV
  have hnE := hv.nE
  rw [hevr] at hnE
  clear hres hD hv hAE hevr hCB
  have hbm : Below w.heap.size w (((w.alloc (.cells #[.int .i64 0, .int .i64 0, .int .i64 0] 42)).alloc (.cells #[.int .i64 0, .int .i64 0, .int .i64 0] 108)).alloc (.cells #[.int .i64 0, .int .i64 0, .int .i64 0] 108)) := (VW.made w).b
  replace hf7 := pw_cell_below hbm hf7
  replace hrow := pw_cell_below hbm hrow
  have HVW := Aside0.mk (VW.made w)
  obtain ⟨W0, hW0⟩ : ∃ W0, w.alloc (.cells #[.int .i64 0, .int .i64 0, .int .i64 0] 42) = W0 := ⟨_, rfl⟩
  rw [hW0] at hf7 hrow HVW
  have s0 : W0.heap.size = w.heap.size + 1 := by rw [← hW0]; simp
  obtain ⟨W1, hW1⟩ : ∃ W1, W0.alloc (.cells #[.int .i64 0, .int .i64 0, .int .i64 0] 108) = W1 := ⟨_, rfl⟩
  rw [hW1] at hf7 hrow HVW
  have s1 : W1.heap.size = w.heap.size + 2 := by rw [← hW1]; simp [s0]
  obtain ⟨W2, hW2⟩ : ∃ W2, W1.alloc (.cells #[.int .i64 0, .int .i64 0, .int .i64 0] 108) = W2 := ⟨_, rfl⟩
  rw [hW2] at hf7 hrow HVW
  obtain ⟨g5, hg5⟩ : ∃ g5, w.heap.size + 1 = g5 := ⟨_, rfl⟩
  obtain ⟨g6, hg6⟩ : ∃ g6, w.heap.size + 2 = g6 := ⟨_, rfl⟩
  rw [hg5] at s0 HVW
  rw [hg6] at s1 HVW
  clear hbm hg5 hg6
  go_enter Try.func35, Try.ntmps35
  go_wp2_with fail
  clear s0 s1 hW0 hW1 hW2 hf7 hrow
  go_loopw [7, 21] (fun v7 v21 wr => ∃ j : Nat, j ≤ evr.length ∧ v7 = .int .i64 (hardNo D (evr.take j)) ∧ v21 = .int .i64 j ∧ Aside0 (VW w wr g5 g6 (allSum D v (evr.take j)) (hardSum D v (evr.take j))))
    (fun _ v21 _ => evr.length - (intOf v21).toNat)
  case atStart => exact ⟨0, Nat.zero_le _, rfl, rfl, HVW⟩
  case round =>
    obtain ⟨j, hj, rfl, rfl, HVR⟩ := hrel
    by_cases hlt : j < evr.length
    · have HDR := Aside0.mk (HD.out.below HVR.out.b)
      obtain ⟨ei, hei⟩ : ∃ ei, rd evr j = ei := ⟨_, rfl⟩
      have hmem : ei ∈ fcAt D.EV v := by rw [HEV.out, ← hei]; exact rd_mem hlt
      obtain ⟨ad0, e', hcj⟩ := Kd.at_int (Kd.C_below HCB.out HVR.out.b) j (by omega) (by omega)
      cases e'
      rw [hei, Int.toNat_natCast] at hcj
      obtain ⟨hi0, hi1, hi2, _, _⟩ := HV.out.edge ei hmem
      obtain ⟨ads, hA6, hsh⟩ := Kd.at_int HD.out.sh ei hi0 hi2
      have hf6 := (HD.out.cell 6).trans (rfl : _ = some (Value.slice D.A6 D.SH.length D.c6))
      rw [hA6] at hf6
      have HSH := Aside0.mk hsh
      have HF6 := Aside0.mk hf6
      have HO := Aside0.mk (fun X (hX : FinerR X fb D) => oth_calls X fb D ei v hX HV.out hmem)
      have htk : evr.take (j + 1) = evr.take j ++ [ei] := by
        rw [List.take_succ_eq_append_getElem hlt, ← hei]
        simp [rd, List.getD_eq_getElem?_getD, hlt]
      have HS1 := Aside0.mk (sum_snoc D v (evr.take j) ei)
      have HS2 := Aside0.mk (hard_snoc D v (evr.take j) ei)
      have HS3 := Aside0.mk (no_snoc D (evr.take j) ei)
      rw [← htk] at HS1 HS2 HS3
      have hno : hardNo D (evr.take j) ≤ j := by
        unfold hardNo
        refine Nat.le_trans (List.length_filter_le _ _) ?_
        rw [List.length_take]
        omega
      have hih : isHard D.SH ei = !(rd D.SH ei == 0) := rfl
      generalize allSum D v (evr.take j) = sa at HVR HS1
      generalize hardSum D v (evr.take j) = sb at HVR HS2
      generalize hardNo D (evr.take j) = nb at HS3 hno ⊢
      obtain ⟨pt, hpt⟩ : ∃ pt, otherPt D.V D.ES v ei = pt := ⟨_, rfl⟩
      rw [hpt] at HO HS1 HS2
      obtain ⟨sh, hshe⟩ : ∃ sh, rd D.SH ei = sh := ⟨_, rfl⟩
      rw [hshe] at HSH hih
      have HIH := Aside0.mk hih
      clear hA6 hsh hf6 htk hmem hei hpt hshe hih
      go_wp2_with fail
      refine (HO.out _ HDR.out).mono ?_
      rintro e w1 ⟨rfl, hb1⟩
      have HV1 := Aside0.mk (HVR.out.step hb1)
      clear hb1 hcj
      go_wp2_with fail
      refine (add1_calls w1 g5 sa pt 1 HV1.out.r5).mono ?_
      rintro e w2 ⟨rfl, h5, hg⟩
      have HV2 := Aside0.mk (HV1.out.put5 h5 hg)
      have hf6 := pw_cell_below HV2.out.b HF6.out
      have hsh := pw_cell_below HV2.out.b HSH.out
      have HD2 := Aside0.mk (HD.out.below HV2.out.b)
      clear h5 hg
      by_cases hz : sh = 0
      · have hz1 : (sh != 0) = false := by simp [hz]
        have hz2 : (sh == 0) = true := by simp [hz]
        rw [hz2] at HIH
        have HZ := Aside0.mk hz
        clear hz
        go_wp2_with fail
        go_roundw
        case rel => exact ⟨j + 1, by omega, by rw [HS3.out, HIH.out]; rfl, by go_num, ⟨by rw [HS1.out, HS2.out, HIH.out]; exact HV2.out⟩⟩
        case measure => simp [intOf]; omega
      · have hz1 : (sh != 0) = true := by simp [hz]
        have hz2 : (sh == 0) = false := by simp [hz]
        rw [hz2] at HIH
        have HZ := Aside0.mk hz
        clear hz
        go_wp2_with fail
        refine (HO.out _ HD2.out).mono ?_
        rintro e w3 ⟨rfl, hb3⟩
        have HV3 := Aside0.mk (HV2.out.step hb3)
        clear hb3 hf6 hsh
        go_wp2_with fail
        refine (add1_calls w3 g6 sb pt 1 HV3.out.r6).mono ?_
        rintro e w4 ⟨rfl, h6, hg⟩
        have HV4 := Aside0.mk (HV3.out.put6 h6 hg)
        clear h6 hg
        go_wp2_with fail
        go_roundw
        case rel => exact ⟨j + 1, by omega, by rw [HS3.out, HIH.out]; go_num, by go_num, ⟨by rw [HS1.out, HS2.out, HIH.out]; exact HV4.out⟩⟩
        case measure => simp [intOf]; omega
    · obtain rfl : j = evr.length := by omega
      rw [List.take_length] at HVR ⊢
      have HDR := Aside0.mk (HD.out.below HVR.out.b)
      have hvV := HV.out.vV
      obtain ⟨ad, hA0, hx0, hx1, hx2⟩ := at_T42 HDR.out.v v HV.out.v0 HV.out.vV
      have hf0 := (HDR.out.cell 0).trans (rfl : _ = some (Value.slice D.A0 D.V.length D.c0))
      rw [hA0] at hf0
      obtain ⟨nb, hnb⟩ : ∃ nb, hardNo D evr = nb := ⟨_, rfl⟩
      rw [hnb]
      obtain ⟨pv, hpv⟩ : ∃ pv, rd_T42 D.V v = pv := ⟨_, rfl⟩
      rw [hpv] at hx0 hx1 hx2
      have HNB := Aside0.mk hnb
      have HPV := Aside0.mk hpv
      clear hA0 hnb hpv
      have hno : nb ≤ evr.length := by
        rw [← HNB.out]
        unfold hardNo
        exact List.length_filter_le _ _
      by_cases h2 : 2 < nb
      · have hr : pv = ⟨r0, r1, r2⟩ := by
          rw [← HRES.out]
          unfold vertexPt
          rw [HEV.out, HNB.out, if_pos h2, HPV.out]
        subst hr
        simp only at hx0 hx1 hx2
        have hb1 : decide (2 < nb) = true := decide_eq_true h2
        have hb2 : decide ((2 : Int) < nb) = true := decide_eq_true (by omega)
        clear h2
        go_wp2_with (first | (refine gate_ (.store 42 (.tmp 4) (.tmp 58)) rfl ?_; refine store_own (g := w.heap.size) (j := 0) 42 (.tmp 4) (.tmp 58) rfl rfl rfl (.agg #[.int .i64 r0, .int .i64 r1, .int .i64 r2]) [.int .i64 r0, .int .i64 r1, .int .i64 r2] rfl rfl rfl infoS42 (one3 _ _ _) HVR.out.r4 (by simp) ?_))
        intro w3 hg3 cur3 hb3 hl3 hs3
        obtain rfl : cur3 = #[.int .i64 r0, .int .i64 r1, .int .i64 r2] := by
          rw [← Array.toList_inj]
          simpa using hl3
        have HB3 : Aside0 (Below w.heap.size w w3) := ⟨HVR.out.b.grown hg3 HVR.out.b.size (fun k hk => by cases hk; omega)⟩
        clear hg3 hl3 hs3
        go_wp2_with fail
        refine bodyPost_ret (results_cell_row rfl _ _ w.heap.size 42 #[.int .i64 r0, .int .i64 r1, .int .i64 r2] (0, 0) _ rfl hb3 Try.underlying42 rfl (by kernel_rfl)) rfl ?_
        exact ⟨rfl, HB3.out⟩
      · have hb2 : decide ((2 : Int) < nb) = false := decide_eq_false (by omega)
        by_cases h3 : nb = 2
        · subst h3
          have hr : ofV (plus 6 (hardSum D v evr) pv) 8 = ⟨r0, r1, r2⟩ := by
            rw [← HRES.out]
            unfold vertexPt
            rw [HEV.out, HNB.out, if_neg (by omega), if_pos rfl, HPV.out]
          have HR := Aside0.mk hr
          clear hr h2
          go_wp2_with fail
          refine (add1_calls wr g6 (hardSum D v evr) pv 6 HVR.out.r6).mono ?_
          rintro e w4 ⟨rfl, h6, hg⟩
          have HV4 := Aside0.mk (HVR.out.put6 h6 hg)
          have hO := sum_of_calls w4 g6 _ 8 h6
          rw [HR.out] at hO
          have HO : Aside0 (Calls Try.prog 54 #[.pointer (some ⟨g6, 0, none⟩), .int .i64 8] w4 fun e w' => e = .returned (.agg #[.int .i64 r0, .int .i64 r1, .int .i64 r2]) ∧ Below w4.heap.size w4 w') := ⟨hO⟩
          clear h6 hg hO
          go_wp2_with fail
          refine HO.out.mono ?_
          rintro e w5 ⟨rfl, hb5⟩
          have HV5 := Aside0.mk (HV4.out.step hb5)
          clear hb5
          go_wp2_with (first | (refine gate_ (.store 42 (.tmp 4) (.tmp 72)) rfl ?_; refine store_own (g := w.heap.size) (j := 0) 42 (.tmp 4) (.tmp 72) rfl rfl rfl (.agg #[.int .i64 r0, .int .i64 r1, .int .i64 r2]) [.int .i64 r0, .int .i64 r1, .int .i64 r2] rfl rfl rfl infoS42 (one3 _ _ _) HV5.out.r4 (by simp) ?_))
          intro w3 hg3 cur3 hb3 hl3 hs3
          obtain rfl : cur3 = #[.int .i64 r0, .int .i64 r1, .int .i64 r2] := by
            rw [← Array.toList_inj]
            simpa using hl3
          have HB3 : Aside0 (Below w.heap.size w w3) := ⟨HV5.out.b.grown hg3 HV5.out.b.size (fun k hk => by cases hk; omega)⟩
          clear hg3 hl3 hs3
          go_wp2_with fail
          refine bodyPost_ret (results_cell_row rfl _ _ w.heap.size 42 #[.int .i64 r0, .int .i64 r1, .int .i64 r2] (0, 0) _ rfl hb3 Try.underlying42 rfl (by kernel_rfl)) rfl ?_
          exact ⟨rfl, HB3.out⟩
        · obtain ⟨adF, B2, cb2, hAF, hrow2, hcb2, hCB2⟩ := at_face HD.out.fn v HV.out.v0 HV.out.vF
          have hf4 := (HD.out.cell 4).trans (rfl : _ = some (Value.slice D.A4 D.FN.length D.c4))
          rw [hAF] at hf4
          have hnn := HV.out.small
          have hvF := HV.out.vF
          obtain ⟨fnr, hfnr⟩ : ∃ fnr, fcAt D.FN v = fnr := ⟨_, rfl⟩
          rw [hfnr] at hrow2 hcb2 hCB2 hnn
          have hr : ofV (sumV 1 (plus ((fnr.length : Int) * (fnr.length - 2)) (allSum D v evr) pv) (fnr.map (rd_T42 D.FV))) ((fnr.length : Int) * fnr.length) = ⟨r0, r1, r2⟩ := by
            rw [← HRES.out]
            unfold vertexPt
            rw [HEV.out, HNB.out, if_neg (by omega), if_neg h3, HPV.out, hfnr]
          have HR := Aside0.mk hr
          have HFN := Aside0.mk hfnr
          have HCB2 := Aside0.mk (hCB2)
          have hb3 : ((nb : Int) == 2) = false := by rw [beq_eq_false_iff_ne]; omega
          obtain ⟨nf, hnf⟩ : ∃ nf, fnr.length = nf := ⟨_, rfl⟩
          rw [hnf] at hrow2 hcb2 hnn HR
          obtain ⟨n1, hn1⟩ : ∃ n1 : Int, (nf : Int) * ((nf : Int) - 2) = n1 := ⟨_, rfl⟩
          obtain ⟨n2, hn2⟩ : ∃ n2 : Int, (nf : Int) * (nf : Int) = n2 := ⟨_, rfl⟩
          rw [hn1, hn2] at HR
          have hq : (nf : Int) * (nf : Int) ≤ 1073741824 * 1073741824 := Int.mul_le_mul (by omega) (by omega) (by omega) (by omega)
          have hq0 : 0 ≤ (nf : Int) * (nf : Int) := Int.mul_nonneg (by omega) (by omega)
          have hq1 : (nf : Int) * ((nf : Int) - 2) = (nf : Int) * nf - 2 * nf := by rw [Int.mul_sub, Int.mul_comm (nf : Int) 2]
          have hw0 : wrap64 ((nf : Int) - 2) = (nf : Int) - 2 := w64_in _ (by omega) (by omega)
          have hw1 : wrap64 ((nf : Int) * ((nf : Int) - 2)) = n1 := by rw [← hn1]; exact w64_in _ (by omega) (by omega)
          have hw2 : wrap64 ((nf : Int) * (nf : Int)) = n2 := by rw [← hn2]; exact w64_in _ (by omega) (by omega)
          have HN := Aside0.mk hnf
          have HF4 := Aside0.mk hf4
          have HROW2 := Aside0.mk hrow2
          replace hf4 := pw_cell_below HVR.out.b hf4
          replace hrow2 := pw_cell_below HVR.out.b hrow2
          clear hr h2 h3 hAF hfnr hCB2 hn1 hn2 hq hq0 hq1 hnf
          go_wp2_with fail
          refine (add1_calls wr g5 (allSum D v evr) pv n1 HVR.out.r5).mono ?_
          rintro e w4 ⟨rfl, h5, hg⟩
          have HV4 := Aside0.mk (HVR.out.put5 h5 hg)
          have HD4 := Aside0.mk (HD.out.below HV4.out.b)
          replace hf4 := pw_cell_below HV4.out.b HF4.out
          replace hrow2 := pw_cell_below HV4.out.b HROW2.out
          clear h5 hg hx0 hx1 hx2 hf0 hw0 hw1
          have HW2 := Aside0.mk hw2
          clear hw2
          go_wp2_with fail
          clear hf4 hrow2
          generalize hsa : plus n1 (allSum D v evr) pv = sa at HV4 HR
          have HSA := Aside0.mk hsa
          generalize hsbq : hardSum D v evr = sb at HV4
          clear hsa hsbq
          have hsz : fnr.length = nf := HN.out
          go_loopw [105] (fun v105 wr => ∃ j : Nat, j ≤ nf ∧ v105 = .int .i64 j ∧ Aside0 (VW w wr g5 g6 (sumV 1 sa ((fnr.take j).map (rd_T42 D.FV))) sb))
            (fun v105 _ => nf - (intOf v105).toNat)
          case atStart => exact ⟨0, Nat.zero_le _, rfl, HV4⟩
          case round =>
            obtain ⟨j, hj, rfl, HVq⟩ := hrel
            by_cases hlt : j < nf
            · obtain ⟨gi, hgi⟩ : ∃ gi, rd fnr j = gi := ⟨_, rfl⟩
              have hmem : gi ∈ fcAt D.FN v := by rw [HFN.out, ← hgi]; exact rd_mem (by omega)
              obtain ⟨hg0, hg1⟩ := HV.out.face gi hmem
              obtain ⟨ad0, e', hcj⟩ := Kd.at_int (Kd.C_below HCB2.out HVq.out.b) j (by omega) (by omega)
              cases e'
              rw [hgi, Int.toNat_natCast] at hcj
              have HDq := Aside0.mk (HD.out.below HVq.out.b)
              obtain ⟨ad8, hA8, hu0, hu1, hu2⟩ := at_T42 HDq.out.fv gi hg0 hg1
              have hf8 := (HDq.out.cell 8).trans (rfl : _ = some (Value.slice D.A8 D.FV.length D.c8))
              rw [hA8] at hf8
              have HS1 : Aside0 (sumV 1 sa ((fnr.take (j + 1)).map (rd_T42 D.FV)) = plus 1 (sumV 1 sa ((fnr.take j).map (rd_T42 D.FV))) (rd_T42 D.FV gi)) := ⟨by
                have hlt' : j < fnr.length := by omega
                have : fnr.take (j + 1) = fnr.take j ++ [gi] := by
                  rw [List.take_succ_eq_append_getElem hlt', ← hgi]
                  simp [rd, List.getD_eq_getElem?_getD, hlt']
                rw [this, List.map_append, List.map_cons, List.map_nil, sumV_snoc]⟩
              generalize rd_T42 D.FV gi = uu at hu0 hu1 hu2 HS1
              generalize sumV 1 sa ((fnr.take j).map (rd_T42 D.FV)) = sq at HVq HS1
              clear hgi hmem hA8
              have HSZ := Aside0.mk hsz
              clear hsz
              go_wp2_with fail
              refine (add1_calls wr g5 sq uu 1 HVq.out.r5).mono ?_
              rintro e w5 ⟨rfl, h5, hg⟩
              have HV5 := Aside0.mk (HVq.out.put5 h5 hg)
              clear h5 hg hcj hu0 hu1 hu2 hf8
              go_wp2_with fail
              go_roundw
              case rel => exact ⟨j + 1, by omega, by go_num, ⟨by rw [HS1.out]; exact HV5.out⟩⟩
              case measure => simp [intOf]; omega
            · obtain rfl : j = nf := by omega
              have htk : fnr.take j = fnr := List.take_of_length_le (by omega)
              rw [htk] at HVq
              have hO := sum_of_calls wr g5 _ n2 HVq.out.r5
              rw [HR.out] at hO
              have HO : Aside0 (Calls Try.prog 54 #[.pointer (some ⟨g5, 0, none⟩), .int .i64 n2] wr fun e w' => e = .returned (.agg #[.int .i64 r0, .int .i64 r1, .int .i64 r2]) ∧ Below wr.heap.size wr w') := ⟨hO⟩
              have hw2 := HW2.out
              have HSZ := Aside0.mk hsz
              clear htk hO hsz
              go_wp2_with fail
              refine HO.out.mono ?_
              rintro e w5 ⟨rfl, hb5⟩
              have HV5 := Aside0.mk (HVq.out.step hb5)
              clear hb5
              go_wp2_with (first | (refine gate_ (.store 42 (.tmp 4) (.tmp 122)) rfl ?_; refine store_own (g := w.heap.size) (j := 0) 42 (.tmp 4) (.tmp 122) rfl rfl rfl (.agg #[.int .i64 r0, .int .i64 r1, .int .i64 r2]) [.int .i64 r0, .int .i64 r1, .int .i64 r2] rfl rfl rfl infoS42 (one3 _ _ _) HV5.out.r4 (by simp) ?_))
              intro w3 hg3 cur3 hb3 hl3 hs3
              obtain rfl : cur3 = #[.int .i64 r0, .int .i64 r1, .int .i64 r2] := by
                rw [← Array.toList_inj]
                simpa using hl3
              have HB3 : Aside0 (Below w.heap.size w w3) := ⟨HV5.out.b.grown hg3 HV5.out.b.size (fun k hk => by cases hk; omega)⟩
              clear hg3 hl3 hs3
              go_wp2_with fail
              refine bodyPost_ret (results_cell_row rfl _ _ w.heap.size 42 #[.int .i64 r0, .int .i64 r1, .int .i64 r2] (0, 0) _ rfl hb3 Try.underlying42 rfl (by kernel_rfl)) rfl ?_
              exact ⟨rfl, HB3.out⟩
end Go.Proofs.Ytnjdjfengoaleaa.MSub
