/- append of any slice to any owned one, and where it lies; two slices of one's own, side by side. The reference's new lanes, and crowds of them. The reference's copy of a lane: new registers, new turns. No condition. -/
import Derived.Test.YtajaonejpggcbaaKbd
import Derived.Test.YtajaonejpggcbaaKca
import Derived.Test.YtajaonejpggcbaaKce
import Derived.Test.YtajaonejpggcbaaKcf
import Derived.Test.YtajaonejpggcbaaKci

namespace Go.Proofs.Ytajaonejpggcbaa
open Go.RowKit

section
variable {P : Program} {t e s : Nat} {z : List Value} {bytes : Nat}
theorem wl_appendR (E : ElT P t e s z bytes) {w : World} {ops : Array Oper} {rest : List Oper} {o : Oper} {a : Act} {Q : Exit → Act → World → Prop}
    (hgd : o.guard = none) (sl x : Operand) (ho : o.op = .call { callee := .builtin .append, args := #[sl, x], argTypes := #[t, t] })
    (B : Nat) (v : Value) (n : Nat) (xs : List Value) (hs : a.eval sl = v) (hown : w.ownsRow B e s v n xs) (vx : Value) (hx : a.eval x = vx) (f : Nat → Value) (m : Nat) (hc : Cells w vx m s f) (h1 : ∀ j, j < m * s → (f j).oneCell' = true)
    (hby : bytes ≤ 128) (hn : n + m ≤ 1099511627776) (hB : B ≤ w.heap.size)
    (h : ∀ v' w', w'.ownsRow B e s v' (n + m) (xs ++ (List.range (m * s)).map f) → w.grownBy w' v.ownBlock → Lies w v v' → wpList P ops Q rest (a.put o.dst v') w') : wpList P ops Q (o :: rest) a w := by
  obtain ⟨A, c, rfl, hmc, hcm, hrd⟩ := hc
  have hold := hown
  obtain ⟨hxl, hown⟩ := hown
  obtain ⟨i, zv, h2, h3, h4, h5, h6, h7⟩ := E.parts
  rcases Nat.eq_zero_or_pos m with h0 | h0
  · subst h0
    refine wpList_plain hgd fun K hK' => ?_
    have hrun : (Builtin.append_ #[t, t] o.type #[v, .slice A 0 c]).run P w = .ok v w := by
      rcases hown with ⟨rfl, rfl⟩ | ⟨g0, c0, cur, rfl, hb1, hb2, hb3, hb4, hb5, hb6⟩
      · rcases A with _ | ⟨b, off, sp⟩
        · simp [Builtin.append_, run_underlying E.ht, sizeOf, typeInfo, h2, Builtin.lenOf, Builtin.firstCells]
        · simp [Builtin.append_, run_underlying E.ht, sizeOf, typeInfo, h2, Builtin.lenOf, Builtin.firstCells, loadCells, loadCellsFrom]
      · rcases A with _ | ⟨b, off, sp⟩
        · simp [Builtin.append_, run_underlying E.ht, sizeOf, typeInfo, h2, Builtin.lenOf, Builtin.firstCells, storeCells, hb3]
        · simp [Builtin.append_, run_underlying E.ht, sizeOf, typeInfo, h2, Builtin.lenOf, Builtin.firstCells, storeCells, loadCells, loadCellsFrom, hb3]
    unfold Oper.wp execOp
    simp only [ho, resolve, invoke, builtin, Sem.run_bind, Sem.run_pure, Result.andThen_ok, List.map_toArray, List.map_cons, List.map_nil, hs, hx, hrun]
    exact hK' _ _ (h _ _ (by simpa using hold) ((Pure.refl _).grownBy _) (fun _ hg => .inl hg))
  · obtain ⟨b', o', rfl, hbl, hcc⟩ := hrd h0
    have hmul : (n + m) * bytes ≤ 1099511627776 * 128 := Nat.mul_le_mul hn hby
    have hfj : ∀ j u, ((List.range (m * s)).map f)[j]? = some u → j < m * s ∧ f j = u := fun j u hu => by
      have hj : j < m * s := by
        rcases Nat.lt_or_ge j (m * s) with h | h
        · exact h
        · rw [List.getElem?_eq_none (by simpa using h)] at hu; cases hu
      refine ⟨hj, ?_⟩
      simpa [hj] using hu
    refine wpList_append_own_at w hgd sl x t ho B e i zv s bytes E.ht h2 h3 h4 h5 (by rw [h6]; simpa using h7) E.hs v n xs hs hold ⟨b', o', none⟩ m c ((List.range (m * s)).map f) hx (by simp) (fun j u hu => ?_) (fun u hu => ?_) (by unfold maxLen; omega) (by omega) hB
      (fun v' w' r1 r2 _ r4 => h v' w' r1 r2 fun g hg => ?_)
    · obtain ⟨hj, rfl⟩ := hfj j u hu
      rw [add_mid]; exact hcc j hj
    · obtain ⟨j, hj, rfl⟩ := List.mem_map.1 hu
      exact h1 j (by simpa using hj)
    · rcases r4 with r4 | r4
      · rw [r4] at hg; exact .inl hg
      · rw [r4] at hg; injection hg with hg; right; omega
end
theorem own_empty {w : World} {B e s : Nat} (hB : B ≤ w.heap.size) : (w.alloc (.cells #[] e)).ownsRow B e s (.slice (some ⟨w.heap.size, 0, none⟩) 0 0) 0 [] :=
  ⟨by simp, .inr ⟨w.heap.size, 0, #[], rfl, hB, heap_alloc_new w _, Nat.le_refl _, by unfold maxLen; omega, by simp, by simp⟩⟩
theorem own_chg {S : Nat → Prop} {w w' : World} {B e s n : Nat} {v : Value} {xs : List Value} (h : w.ownsRow B e s v n xs) (hc : Chg S w w') (hS : ∀ g, v.ownBlock = some g → ¬ S g) : w'.ownsRow B e s v n xs := by
  refine ⟨h.1, ?_⟩
  rcases h.2 with q | ⟨g, cap, cur, rfl, q1, q2, q3⟩
  · exact .inl q
  · exact .inr ⟨g, cap, cur, rfl, q1, hc.heap q2 (hS g rfl), q3⟩

/-- Two slices of one's own in different blocks. -/
structure Two (w0 w : World) (B e s : Nat) (v : Value) (n : Nat) (xs : List Value) (v' : Value) (n' : Nat) (xs' : List Value) : Prop where
  pure : Pure w0 w
  l : w.ownsRow B e s v n xs
  r : w.ownsRow B e s v' n' xs'
  ne : ∀ g, v.ownBlock = some g → v'.ownBlock ≠ some g
section
variable {w0 w w' : World} {B e s n n' k : Nat} {v v' u : Value} {xs xs' ys : List Value}
theorem Two.swap (h : Two w0 w B e s v n xs v' n' xs') : Two w0 w B e s v' n' xs' v n xs := ⟨h.pure, h.r, h.l, fun g h1 h2 => h.ne g h2 h1⟩
theorem Two.keep (h : Two w0 w B e s v n xs v' n' xs') (hp : Pure w w') : Two w0 w' B e s v n xs v' n' xs' := ⟨h.pure.trans hp, own_pure h.l hp, own_pure h.r hp, h.ne⟩
theorem Two.first (hp : Pure w0 w) (h : w.ownsRow B e s v n xs) (hB : B ≤ w.heap.size) : Two w0 (w.alloc (.cells #[] e)) B e s v n xs (.slice (some ⟨w.heap.size, 0, none⟩) 0 0) 0 [] :=
  ⟨hp.alloc _, own_pure h ((Pure.refl w).alloc _), own_empty hB, fun g h1 h2 => by simp [Value.ownBlock] at h2; have := (own_lt h g h1).2; omega⟩
theorem Two.left (h : Two w0 w B e s v n xs v' n' xs') (hB : w0.heap.size ≤ B) (h1 : w'.ownsRow B e s u k ys) (h2 : w.grownBy w' v.ownBlock) (h3 : Lies w v u) : Two w0 w' B e s u k ys v' n' xs' :=
  ⟨h.pure.grown h2 (fun k hk => Nat.le_trans hB (own_lt h.l k hk).1), h1, own_chg h.r (Chg.of_grown h2 (fun k hk => hk)) (fun g hg e => h.ne g e hg), fun g hg e => (h3 g hg).elim (fun q => h.ne g q e) (fun q => absurd (own_lt h.r g e).2 (by omega))⟩
theorem Two.right (h : Two w0 w B e s v n xs v' n' xs') (hB : w0.heap.size ≤ B) (h1 : w'.ownsRow B e s u k ys) (h2 : w.grownBy w' v'.ownBlock) (h3 : Lies w v' u) : Two w0 w' B e s v n xs u k ys := (h.swap.left hB h1 h2 h3).swap
end

end Go.Proofs.Ytajaonejpggcbaa

namespace Go.Proofs.Ytajaonejpggcbaa
open Go.RowKit

theorem MemOk.small {mem : List Int} (h : MemOk mem) : 1 ≤ mem.length ∧ mem.length ≤ 32 := h.1
set_option maxHeartbeats 1000000 in
theorem snewlane_any (w : World) : Calls Try.prog 126 #[] w (NewP w) := by
  have hx := heap_alloc_new w (.cells #[.slice none 0 0, .int .i64 0, .slice none 0 0, .bool false] 55)
  have HX := Lib.hid hx
  clear hx
  go_enter Try.func126, Try.ntmps126
  go_wp2_with (at_make; refine wl_make elInt rfl _ _ rfl w.heap.size _ _ _ _ 4 rfl rfl rfl rfl (by decide) (by decide) (by simp) ?_; intro w4 hown4 hp4 hsz4; have HZ4 := Lib.hid (own_zero4 hown4); have HP4 := Lib.hid hp4; have hb4 := (Chg.of_pure (S := fun _ => False) hp4).heap HX.out id; have k0 := cell_of_row _ _ 0 _ _ _ hb4; have k1 := cell_of_row _ _ 1 _ _ _ hb4; have k2 := cell_of_row _ _ 2 _ _ _ hb4; have k3 := cell_of_row _ _ 3 _ _ _ hb4; simp only [List.getElem?_toArray, List.getElem?_cons_zero, List.getElem?_cons_succ] at k0 k1 k2 k3; have kf := fun j => frozen_of_row _ _ j _ _ hb4; have kf0 := kf 0; have kf1 := kf 1; have kf2 := kf 2; have kf3 := kf 3; clear hown4 hp4 hb4 kf)
  refine bodyPost_ret (v := lane0 (w.heap.size + 1)) (by simp [results, Try.results126, lane0, go_sem, k0, k1, k2, k3]) rfl ?_
  have hz : w4.heap[w.heap.size + 1]? = some (.cells zero4 3 (0, 0)) := by have := HZ4.out; simpa [zero4] using this
  refine ⟨w.heap.size + 1, rfl, by omega, ?_, ?_⟩
  · have hc : ∀ (u : World) (j : Nat) (x : Value), Chg (fun b => b = w.heap.size) u (u.setCell ⟨w.heap.size, j, none⟩ x) := fun u j x => Chg.of_set u _ _ _ rfl
    exact (hc _ _ _).heap ((hc _ _ _).heap ((hc _ _ _).heap ((hc _ _ _).heap hz (by omega)) (by omega)) (by omega)) (by omega)
  · have hp : Pure w w4 := ((Pure.refl w).alloc _).trans HP4.out
    exact (by repeat (first | assumption | exact Pure.refl _ | refine Pure.drewN ?_ _ | refine Pure.drew ?_ | refine Pure.alloc ?_ _ | refine Pure.setCell ?_ (by simp <;> omega) _))

set_option maxHeartbeats 4000000 in
set_option maxRecDepth 100000 in
theorem snewcrowd_any (v : Value) (mem : List Int) (n : Nat) (w : World) (h : Ints w v mem) (hmok : MemOk mem) (hn1 : 1 ≤ n) (hn8 : n ≤ 8) : Calls Try.prog 91 #[.int .i64 (n : Nat), v] w (NewC n mem w) := by
  have H := Lib.hid h
  obtain ⟨hm1, hm2⟩ := hmok.small
  have HMK := Lib.hid hmok
  obtain ⟨A, c, rfl⟩ := h.form
  have hx := heap_alloc_new w (.cells #[.slice none 0 0, .slice none 0 0] 33)
  have HX := Lib.hid hx
  clear h hx hmok
  go_enter Try.func91, Try.ntmps91
  go_wp2_with fail
  refine (l1In_any _ _ _ _ true (by simp only [true_iff]; omega)).mono ?_
  rintro e wz ⟨rfl, rfl⟩
  go_wp2_with fail
  refine (smem_any _ mem _ (H.out.keep (by repeat (first | assumption | exact Pure.refl _ | refine Pure.drewN ?_ _ | refine Pure.drew ?_ | refine Pure.alloc ?_ _ | refine Pure.setCell ?_ (by simp <;> omega) _))) (by omega) true (by simp only [true_iff]; exact HMK.out)).mono ?_
  rintro e w1 ⟨rfl, hp1⟩
  have HP1 := Lib.hid hp1
  have HRES1 := Lib.hid ((Chg.of_pure (S := fun _ => False) hp1).heap HX.out id)
  have hsz1 : w.heap.size + 1 ≤ w1.heap.size := by have := hp1.size; simpa using this
  clear hp1
  have hE := own_empty (w := w1) (B := w.heap.size) (e := 3) (s := 1) (by omega)
  have HEM := Lib.hid hE
  have HCM := Lib.hid (show Cells (w1.alloc (.cells #[] 3)) (.slice A mem.length c) mem.length 1 (fun j => .int .i64 (mem.getD j 0)) from (H.out.keep (show Pure w (w.alloc (.cells #[.slice none 0 0, .slice none 0 0] 33)) from (by repeat (first | assumption | exact Pure.refl _ | refine Pure.drewN ?_ _ | refine Pure.drew ?_ | refine Pure.alloc ?_ _ | refine Pure.setCell ?_ (by simp <;> omega) _)))).keep (HP1.out.trans (show Pure w1 (w1.alloc (.cells #[] 3)) from (by repeat (first | assumption | exact Pure.refl _ | refine Pure.drewN ?_ _ | refine Pure.drew ?_ | refine Pure.alloc ?_ _ | refine Pure.setCell ?_ (by simp <;> omega) _)))))
  clear hE
  go_wp2_with (at_builtin; go_must (refine wl_appendR elInt rfl _ _ rfl w.heap.size _ 0 [] rfl HEM.out _ rfl _ mem.length HCM.out (fun j _ => rfl) (by decide) (by omega) (by simp; omega) ?_); intro vm9 wq r1 r2 r3; go_must (obtain ⟨gm, cmm, hvm, hgm1, hgm2, hcm1, hcm2⟩ := own_form r1 (by omega); subst hvm; have HOW := Lib.hid r1; have HPq := Lib.hid (HP1.out.trans ((show Pure w1 (w1.alloc (.cells #[] 3)) from (by repeat (first | assumption | exact Pure.refl _ | refine Pure.drewN ?_ _ | refine Pure.drew ?_ | refine Pure.alloc ?_ _ | refine Pure.setCell ?_ (by simp <;> omega) _))).grown r2 (fun k hk => by have hk2 : some w1.heap.size = some k := hk; injection hk2 with hk2; omega))); clear r1 r2 r3))
  have HRES := Lib.hid ((Chg.of_pure (S := fun _ => False) HPq.out).heap HX.out id)
  have HOWN := Lib.hid (show OwnO wq w.heap.size 3 1 (.slice (some ⟨gm, 0, none⟩) mem.length cmm) mem.length ((List.range mem.length).map fun j => .int .i64 (mem.getD j 0)) by have := OwnO.of_own HOW.out; simpa using this)
  have HP := HPq
  clear HRES1 HEM HCM HOW
  have HPo : Hid ((wq.alloc (.cells #[.slice none 0 0, .slice (some ⟨gm, 0, none⟩) mem.length cmm] 33)).heap[wq.heap.size]? = some (.cells #[.slice none 0 0, .slice (some ⟨gm, 0, none⟩) mem.length cmm] 33 (0, 0))) := Lib.hid (heap_alloc_new wq _)
  have hwq : w.heap.size + 1 ≤ wq.heap.size := by have := HP.out.size; simpa using this
  go_loopg [6] n (fun gk i wr => ∃ (j : Nat) (vL : Value) (rows : Nat → Nat), gk + j = n ∧ i = .int .i64 j ∧ Pure wq wr ∧ CrB wq.heap.size wr vL j rows gm ∧
    wr.heap[wq.heap.size]? = some (.cells #[vL, .slice (some ⟨gm, 0, none⟩) mem.length cmm] 33 (0, 0)) ∧
    OwnO wr w.heap.size 3 1 (.slice (some ⟨gm, 0, none⟩) mem.length cmm) mem.length ((List.range mem.length).map fun j => .int .i64 (mem.getD j 0)))
  case atStart =>
    refine ⟨0, .slice none 0 0, fun _ => 0, rfl, rfl, by exact (by repeat (first | assumption | exact Pure.refl _ | refine Pure.drewN ?_ _ | refine Pure.drew ?_ | refine Pure.alloc ?_ _ | refine Pure.setCell ?_ (by simp <;> omega) _)), ⟨World.ownsRow_nil _ _ _ _, fun i hi => absurd hi (by omega), fun i hi => absurd hi (by omega), fun i k hi => absurd hi (by omega), fun i hi => absurd hi (by omega)⟩, HPo.out, (OwnO.base HOWN.out (by simp)).pure (by exact (by repeat (first | assumption | exact Pure.refl _ | refine Pure.drewN ?_ _ | refine Pure.drew ?_ | refine Pure.alloc ?_ _ | refine Pure.setCell ?_ (by simp <;> omega) _)))⟩
  case round =>
    obtain ⟨j, vL, rows, hgk, rfl, hp, hcr, hobj, hmem⟩ := hrel
    have Hgk := Lib.hid hgk
    have HCr := Lib.hid hcr
    have HO := Lib.hid hobj
    have HMe := Lib.hid hmem
    have HPr := Lib.hid hp
    have hjn : j ≤ n := by omega
    clear hgk hcr hmem HPo
    have p0 := (cell_of_row wr wq.heap.size 0 _ _ _ hobj).trans rfl
    have p1 := (cell_of_row wr wq.heap.size 1 _ _ _ hobj).trans rfl
    have hpfr := frozen_of_row wr wq.heap.size 0 _ _ hobj
    have hplt : wq.heap.size < wr.heap.size := (Array.getElem?_eq_some_iff.1 hobj).1
    clear hobj
    by_cases hlt : j < n
    · have hgmr : gm < wr.heap.size := Nat.lt_of_lt_of_le hgm2 hp.size
      have hwr : w.heap.size ≤ wr.heap.size := Nat.le_trans (by omega) hp.size
      go_wp2
      refine region_way (fun w' => w'.cell? ⟨wq.heap.size, 0, none⟩ = some vL) [0] 6 6 (fun l => l.take 1) (by kernel_rfl) (by kernel_rfl) (by kernel_rfl) (fun c a d v w h => by cases d <;> exact h) (by exact p0) ?_
      simp only [List.take_succ_cons, List.take_zero]
      apply held_of
      · exact rfl
      · intro w' hS
        go_simp
        try exact rfl
      try go_simp
      refine held_nil ?_
      refine anyK_two (i := 1) (j := 2) (by kernel_rfl) rfl rfl ?_ ?_
      · go_wp2
        refine And.intro (by first | exact fun _ => keepPc (show Pure wr wr.drew from (by repeat (first | assumption | exact Pure.refl _ | refine Pure.drewN ?_ _ | refine Pure.drew ?_ | refine Pure.alloc ?_ _ | refine Pure.setCell ?_ (by simp <;> omega) _))) p0 | exact keepPc (show Pure wr wr.drew from (by repeat (first | assumption | exact Pure.refl _ | refine Pure.drewN ?_ _ | refine Pure.drew ?_ | refine Pure.alloc ?_ _ | refine Pure.setCell ?_ (by simp <;> omega) _))) p0) ?_
        refine anyK_one (i := 2) (by kernel_rfl) rfl ?_
        go_wp2_with fail
        refine (snewlane_any _).mono ?_
        rintro e wc ⟨g, rfl, hg, hz, hpc⟩
        have HPc := Lib.hid ((show Pure wr wr.drew from (by repeat (first | assumption | exact Pure.refl _ | refine Pure.drewN ?_ _ | refine Pure.drew ?_ | refine Pure.alloc ?_ _ | refine Pure.setCell ?_ (by simp <;> omega) _))).trans hpc)
        have HZ := Lib.hid hz
        have hgr : wr.heap.size ≤ g := Nat.le_trans (show Pure wr wr.drew from (by repeat (first | assumption | exact Pure.refl _ | refine Pure.drewN ?_ _ | refine Pure.drew ?_ | refine Pure.alloc ?_ _ | refine Pure.setCell ?_ (by simp <;> omega) _))).size hg
        have z0 := (HPc.out.cell _ _ hplt).trans p0
        clear hz hpc
        unfold lane0
        go_wp2
        refine And.intro (by first | exact fun _ => z0 | exact z0) ?_
        refine anyK_one (i := 3) (by kernel_rfl) rfl ?_
        go_wp2
        refine And.intro (by first | exact fun _ => keepPc (show Pure wc _ from (by repeat (first | assumption | exact Pure.refl _ | refine Pure.drewN ?_ _ | refine Pure.drew ?_ | refine Pure.alloc ?_ _ | refine Pure.setCell ?_ (by simp <;> omega) _))) z0 | exact keepPc (show Pure wc _ from (by repeat (first | assumption | exact Pure.refl _ | refine Pure.drewN ?_ _ | refine Pure.drew ?_ | refine Pure.alloc ?_ _ | refine Pure.setCell ?_ (by simp <;> omega) _))) z0) ?_
        refine anyK_one (i := 4) (by kernel_rfl) rfl ?_
        have hgx := heap_alloc_new wc (.cells #[.slice (some ⟨g, 0, none⟩) 4 4, .int .i64 0, .slice none 0 0, .bool false] 55)
        have HPl := Lib.hid (HPc.out.trans (show Pure wc (wc.alloc (.cells #[.slice (some ⟨g, 0, none⟩) 4 4, .int .i64 0, .slice none 0 0, .bool false] 55)) from (by repeat (first | assumption | exact Pure.refl _ | refine Pure.drewN ?_ _ | refine Pure.drew ?_ | refine Pure.alloc ?_ _ | refine Pure.setCell ?_ (by simp <;> omega) _))))
        refine wl_append elLane rfl _ _ rfl wq.heap.size vL j _ rfl (own_pure HCr.out.own HPl.out) wc.heap.size 1 1 (lane0L g) rfl rfl (fun i u hu => ?_) (by intro u hu; simp [lane0L] at hu; rcases hu with rfl | rfl | rfl | rfl <;> rfl) (by omega) (by omega) (Nat.le_trans HPr.out.size HPl.out.size) ?_
        · exact (cell_of_row _ _ i _ _ _ hgx).trans (by rw [List.getElem?_toArray]; exact hu)
        intro v5 w5 hown5 hg5
        obtain ⟨g5, c5, hv5, _, _, _, _⟩ := own_form hown5 (by omega)
        subst hv5
        have hc5 : Chg (fun k => vL.ownBlock = some k) (wc.alloc (.cells #[.slice (some ⟨g, 0, none⟩) 4 4, .int .i64 0, .slice none 0 0, .bool false] 55)) w5 := Chg.of_grown hg5 (fun k hk => hk)
        have hvlp : ∀ k, vL.ownBlock = some k → k ≠ wq.heap.size := own_ne_heap HCr.out.own HO.out (by decide)
        have hO5 : w5.heap[wq.heap.size]? = some (.cells #[vL, .slice (some ⟨gm, 0, none⟩) mem.length cmm] 33 (0, 0)) := hc5.heap ((Chg.of_pure (S := fun _ => False) HPl.out).heap HO.out id) (fun e => hvlp _ e rfl)
        have HO5 := Lib.hid hO5
        have z5 := (cell_of_row w5 wq.heap.size 0 _ _ _ hO5).trans (show _ = some vL from rfl)
        have zf5 := frozen_of_row w5 wq.heap.size 0 _ _ hO5
        have HN5 := Lib.hid (crowd_next HCr.out HPl.out HPr.out hgr hgmr ((Chg.of_pure (S := fun _ => False) (show Pure wc (wc.alloc (.cells #[.slice (some ⟨g, 0, none⟩) 4 4, .int .i64 0, .slice none 0 0, .bool false] 55)) from (by repeat (first | assumption | exact Pure.refl _ | refine Pure.drewN ?_ _ | refine Pure.drew ?_ | refine Pure.alloc ?_ _ | refine Pure.setCell ?_ (by simp <;> omega) _)))).heap HZ.out id) HO.out HMe.out hown5 hg5)
        clear hown5 hg5 hc5 hO5 hgx
        go_wp2
        refine And.intro (by first | exact fun _ => z5 | exact z5) ?_
        refine anyK_one (i := 5) (by kernel_rfl) rfl ?_
        go_wp2
        refine And.intro (by first | exact fun _ => z5 | exact z5) ?_
        refine anyK_one (i := 6) (by kernel_rfl) rfl ?_
        go_wp2
        refine And.intro (by first | exact fun h => absurd rfl h | exact fun h => h.elim | simp) ?_
        refine anyK_end (by kernel_rfl) ?_
        go_wp2
        go_roundg (n - (j + 1))
        case measure => have := Hgk.out; omega
        case rel =>
          exact ⟨j + 1, _, _, by have := Hgk.out; omega, by go_num, HN5.out⟩
      · go_wp2_with fail
        refine (snewlane_any _).mono ?_
        rintro e wc ⟨g, rfl, hg, hz, hpc⟩
        have HPc := Lib.hid ((show Pure wr wr.drew from (by repeat (first | assumption | exact Pure.refl _ | refine Pure.drewN ?_ _ | refine Pure.drew ?_ | refine Pure.alloc ?_ _ | refine Pure.setCell ?_ (by simp <;> omega) _))).trans hpc)
        have HZ := Lib.hid hz
        have hgr : wr.heap.size ≤ g := Nat.le_trans (show Pure wr wr.drew from (by repeat (first | assumption | exact Pure.refl _ | refine Pure.drewN ?_ _ | refine Pure.drew ?_ | refine Pure.alloc ?_ _ | refine Pure.setCell ?_ (by simp <;> omega) _))).size hg
        have z0 := (HPc.out.cell _ _ hplt).trans p0
        clear hz hpc
        unfold lane0
        go_wp2
        refine And.intro (by first | exact fun _ => z0 | exact z0) ?_
        refine anyK_two (i := 1) (j := 3) (by kernel_rfl) rfl rfl ?_ ?_
        · go_wp2
          refine And.intro (by first | exact fun _ => z0 | exact z0) ?_
          refine anyK_one (i := 3) (by kernel_rfl) rfl ?_
          go_wp2
          refine And.intro (by first | exact fun _ => keepPc (show Pure wc _ from (by repeat (first | assumption | exact Pure.refl _ | refine Pure.drewN ?_ _ | refine Pure.drew ?_ | refine Pure.alloc ?_ _ | refine Pure.setCell ?_ (by simp <;> omega) _))) z0 | exact keepPc (show Pure wc _ from (by repeat (first | assumption | exact Pure.refl _ | refine Pure.drewN ?_ _ | refine Pure.drew ?_ | refine Pure.alloc ?_ _ | refine Pure.setCell ?_ (by simp <;> omega) _))) z0) ?_
          refine anyK_one (i := 4) (by kernel_rfl) rfl ?_
          have hgx := heap_alloc_new wc (.cells #[.slice (some ⟨g, 0, none⟩) 4 4, .int .i64 0, .slice none 0 0, .bool false] 55)
          have HPl := Lib.hid (HPc.out.trans (show Pure wc (wc.alloc (.cells #[.slice (some ⟨g, 0, none⟩) 4 4, .int .i64 0, .slice none 0 0, .bool false] 55)) from (by repeat (first | assumption | exact Pure.refl _ | refine Pure.drewN ?_ _ | refine Pure.drew ?_ | refine Pure.alloc ?_ _ | refine Pure.setCell ?_ (by simp <;> omega) _))))
          refine wl_append elLane rfl _ _ rfl wq.heap.size vL j _ rfl (own_pure HCr.out.own HPl.out) wc.heap.size 1 1 (lane0L g) rfl rfl (fun i u hu => ?_) (by intro u hu; simp [lane0L] at hu; rcases hu with rfl | rfl | rfl | rfl <;> rfl) (by omega) (by omega) (Nat.le_trans HPr.out.size HPl.out.size) ?_
          · exact (cell_of_row _ _ i _ _ _ hgx).trans (by rw [List.getElem?_toArray]; exact hu)
          intro v5 w5 hown5 hg5
          obtain ⟨g5, c5, hv5, _, _, _, _⟩ := own_form hown5 (by omega)
          subst hv5
          have hc5 : Chg (fun k => vL.ownBlock = some k) (wc.alloc (.cells #[.slice (some ⟨g, 0, none⟩) 4 4, .int .i64 0, .slice none 0 0, .bool false] 55)) w5 := Chg.of_grown hg5 (fun k hk => hk)
          have hvlp : ∀ k, vL.ownBlock = some k → k ≠ wq.heap.size := own_ne_heap HCr.out.own HO.out (by decide)
          have hO5 : w5.heap[wq.heap.size]? = some (.cells #[vL, .slice (some ⟨gm, 0, none⟩) mem.length cmm] 33 (0, 0)) := hc5.heap ((Chg.of_pure (S := fun _ => False) HPl.out).heap HO.out id) (fun e => hvlp _ e rfl)
          have HO5 := Lib.hid hO5
          have z5 := (cell_of_row w5 wq.heap.size 0 _ _ _ hO5).trans (show _ = some vL from rfl)
          have zf5 := frozen_of_row w5 wq.heap.size 0 _ _ hO5
          have HN5 := Lib.hid (crowd_next HCr.out HPl.out HPr.out hgr hgmr ((Chg.of_pure (S := fun _ => False) (show Pure wc (wc.alloc (.cells #[.slice (some ⟨g, 0, none⟩) 4 4, .int .i64 0, .slice none 0 0, .bool false] 55)) from (by repeat (first | assumption | exact Pure.refl _ | refine Pure.drewN ?_ _ | refine Pure.drew ?_ | refine Pure.alloc ?_ _ | refine Pure.setCell ?_ (by simp <;> omega) _)))).heap HZ.out id) HO.out HMe.out hown5 hg5)
          clear hown5 hg5 hc5 hO5 hgx
          go_wp2
          refine And.intro (by first | exact fun _ => z5 | exact z5) ?_
          refine anyK_one (i := 5) (by kernel_rfl) rfl ?_
          go_wp2
          refine And.intro (by first | exact fun _ => z5 | exact z5) ?_
          refine anyK_one (i := 6) (by kernel_rfl) rfl ?_
          go_wp2
          refine And.intro (by first | exact fun h => absurd rfl h | exact fun h => h.elim | simp) ?_
          refine anyK_end (by kernel_rfl) ?_
          go_wp2
          go_roundg (n - (j + 1))
          case measure => have := Hgk.out; omega
          case rel =>
            exact ⟨j + 1, _, _, by have := Hgk.out; omega, by go_num, HN5.out⟩
        · go_wp2
          refine And.intro (by first | exact fun _ => keepPc (show Pure wc _ from (by repeat (first | assumption | exact Pure.refl _ | refine Pure.drewN ?_ _ | refine Pure.drew ?_ | refine Pure.alloc ?_ _ | refine Pure.setCell ?_ (by simp <;> omega) _))) z0 | exact keepPc (show Pure wc _ from (by repeat (first | assumption | exact Pure.refl _ | refine Pure.drewN ?_ _ | refine Pure.drew ?_ | refine Pure.alloc ?_ _ | refine Pure.setCell ?_ (by simp <;> omega) _))) z0) ?_
          have z0' := keepPc (show Pure wc (wc.alloc (.cells #[.slice (some ⟨g, 0, none⟩) 4 4, .int .i64 0, .slice none 0 0, .bool false] 55)) from (by repeat (first | assumption | exact Pure.refl _ | refine Pure.drewN ?_ _ | refine Pure.drew ?_ | refine Pure.alloc ?_ _ | refine Pure.setCell ?_ (by simp <;> omega) _))) z0
          refine anyK_one (i := 1) (by kernel_rfl) rfl ?_
          go_wp2
          refine And.intro (by first | exact fun _ => z0' | exact z0') ?_
          refine anyK_one (i := 4) (by kernel_rfl) rfl ?_
          have hgx := heap_alloc_new wc (.cells #[.slice (some ⟨g, 0, none⟩) 4 4, .int .i64 0, .slice none 0 0, .bool false] 55)
          have HPl := Lib.hid (HPc.out.trans (show Pure wc (wc.alloc (.cells #[.slice (some ⟨g, 0, none⟩) 4 4, .int .i64 0, .slice none 0 0, .bool false] 55)) from (by repeat (first | assumption | exact Pure.refl _ | refine Pure.drewN ?_ _ | refine Pure.drew ?_ | refine Pure.alloc ?_ _ | refine Pure.setCell ?_ (by simp <;> omega) _))))
          refine wl_append elLane rfl _ _ rfl wq.heap.size vL j _ rfl (own_pure HCr.out.own HPl.out) wc.heap.size 1 1 (lane0L g) rfl rfl (fun i u hu => ?_) (by intro u hu; simp [lane0L] at hu; rcases hu with rfl | rfl | rfl | rfl <;> rfl) (by omega) (by omega) (Nat.le_trans HPr.out.size HPl.out.size) ?_
          · exact (cell_of_row _ _ i _ _ _ hgx).trans (by rw [List.getElem?_toArray]; exact hu)
          intro v5 w5 hown5 hg5
          obtain ⟨g5, c5, hv5, _, _, _, _⟩ := own_form hown5 (by omega)
          subst hv5
          have hc5 : Chg (fun k => vL.ownBlock = some k) (wc.alloc (.cells #[.slice (some ⟨g, 0, none⟩) 4 4, .int .i64 0, .slice none 0 0, .bool false] 55)) w5 := Chg.of_grown hg5 (fun k hk => hk)
          have hvlp : ∀ k, vL.ownBlock = some k → k ≠ wq.heap.size := own_ne_heap HCr.out.own HO.out (by decide)
          have hO5 : w5.heap[wq.heap.size]? = some (.cells #[vL, .slice (some ⟨gm, 0, none⟩) mem.length cmm] 33 (0, 0)) := hc5.heap ((Chg.of_pure (S := fun _ => False) HPl.out).heap HO.out id) (fun e => hvlp _ e rfl)
          have HO5 := Lib.hid hO5
          have z5 := (cell_of_row w5 wq.heap.size 0 _ _ _ hO5).trans (show _ = some vL from rfl)
          have zf5 := frozen_of_row w5 wq.heap.size 0 _ _ hO5
          have HN5 := Lib.hid (crowd_next HCr.out HPl.out HPr.out hgr hgmr ((Chg.of_pure (S := fun _ => False) (show Pure wc (wc.alloc (.cells #[.slice (some ⟨g, 0, none⟩) 4 4, .int .i64 0, .slice none 0 0, .bool false] 55)) from (by repeat (first | assumption | exact Pure.refl _ | refine Pure.drewN ?_ _ | refine Pure.drew ?_ | refine Pure.alloc ?_ _ | refine Pure.setCell ?_ (by simp <;> omega) _)))).heap HZ.out id) HO.out HMe.out hown5 hg5)
          clear hown5 hg5 hc5 hO5 hgx
          go_wp2
          refine And.intro (by first | exact fun _ => z5 | exact z5) ?_
          refine anyK_one (i := 5) (by kernel_rfl) rfl ?_
          go_wp2
          refine And.intro (by first | exact fun _ => z5 | exact z5) ?_
          refine anyK_one (i := 6) (by kernel_rfl) rfl ?_
          go_wp2
          refine And.intro (by first | exact fun h => absurd rfl h | exact fun h => h.elim | simp) ?_
          refine anyK_end (by kernel_rfl) ?_
          go_wp2
          go_roundg (n - (j + 1))
          case measure => have := Hgk.out; omega
          case rel =>
            exact ⟨j + 1, _, _, by have := Hgk.out; omega, by go_num, HN5.out⟩
    · have hjl : j = n := by omega
      subst hjl
      obtain ⟨gl, cl, hvl, hg1, hg2, hg3, hg4⟩ := own_form HCr.out.own (by omega)
      subst hvl
      have hres := (Chg.of_pure (S := fun _ => False) HPr.out).heap HRES.out id
      have k0 := cell_of_row _ _ 0 _ _ _ hres
      have k1 := cell_of_row _ _ 1 _ _ _ hres
      simp only [List.getElem?_toArray, List.getElem?_cons_zero, List.getElem?_cons_succ] at k0 k1
      have kf0 := frozen_of_row _ _ 0 _ _ hres
      have kf1 := frozen_of_row _ _ 1 _ _ hres
      have hwwq : w.heap.size ≠ wq.heap.size := by omega
      have hgmw : gm ≠ w.heap.size := fun e => ne_of_heap (HMe.out.heap rfl).choose_spec hres (by decide) e
      clear hres
      go_wp2
      refine bodyPost_ret (v := .agg #[.slice (some ⟨gl, 0, none⟩) j cl, .slice (some ⟨gm, 0, none⟩) mem.length cmm]) (by simp [results, Try.results91, go_sem, k0, k1]) rfl ?_
      have hcw : ∀ (u : World) (i : Nat) (x : Value), Chg (fun b => b = w.heap.size) u (u.setCell ⟨w.heap.size, i, none⟩ x) := fun u i x => Chg.of_set u _ _ _ rfl
      have hcc := (hcw wr 0 (.slice (some ⟨gl, 0, none⟩) j cl)).trans (hcw (wr.setCell ⟨w.heap.size, 0, none⟩ (.slice (some ⟨gl, 0, none⟩) j cl)) 1 (.slice (some ⟨gm, 0, none⟩) mem.length cmm))
      have hw0 : Pure w wr := ((show Pure w (w.alloc (.cells #[.slice none 0 0, .slice none 0 0] 33)) from (by repeat (first | assumption | exact Pure.refl _ | refine Pure.drewN ?_ _ | refine Pure.drew ?_ | refine Pure.alloc ?_ _ | refine Pure.setCell ?_ (by simp <;> omega) _))).trans HP.out).trans HPr.out
      refine ⟨gl, cl, gm, cmm, rows, rfl, ⟨(HCr.out.base (by omega)).chg hcc (fun g hg e => ?_) (fun i hi e => ?_), HMe.out.chg hcc (fun g hg e => ?_)⟩, hg3, hg4, Chg.pure hw0 hcc (fun k hk => by rw [hk]; exact Nat.le_refl _)⟩
      · have := (own_lt HCr.out.own g hg).1; omega
      · have := HCr.out.lo i hi; omega
      · simp [Value.ownBlock] at hg; omega

end Go.Proofs.Ytajaonejpggcbaa

namespace Go.Proofs.Ytajaonejpggcbaa
open Go.RowKit

/-- A lane as a value: its registers and its turns lie in vr and vt. -/
def lnV (vr vt : Value) (l : Ln) : Value := .agg #[vr, .int .i64 (l.at_ : Nat), vt, .bool l.W]
def regL (l : Ln) : List Value := (row4 l.R).toList
def trnL (l : Ln) : List Value := l.T.map (.int .i64)
/-- A lane in blocks of one's own. -/
abbrev LnO (w0 w : World) (B : Nat) (vr vt : Value) (l : Ln) : Prop := Two w0 w B 3 1 vr 4 (regL l) vt l.T.length (trnL l)
/-- A lane that can be read. -/
def LnR (w : World) (vr vt : Value) (l : Ln) : Prop := Cells w vr 4 1 (fun j => .int .i64 (l.R j)) ∧ Cells w vt l.T.length 1 (fun j => .int .i64 (l.T.getD j 0))
theorem LnR.keep {w w' : World} {vr vt : Value} {l : Ln} (h : LnR w vr vt l) (hp : Pure w w') : LnR w' vr vt l := ⟨h.1.keep hp, h.2.keep hp⟩
theorem LnO.read {w0 w : World} {B : Nat} {vr vt : Value} {l : Ln} (h : LnO w0 w B vr vt l) : LnR w vr vt l :=
  ⟨Cells.of_ownO (OwnO.of_own h.l) (fun j hj => by
      have : j = 0 ∨ j = 1 ∨ j = 2 ∨ j = 3 := by omega
      rcases this with rfl | rfl | rfl | rfl <;> rfl),
   Cells.of_ownO (OwnO.of_own h.r) (fun j hj => by
      have : j < l.T.length := by omega
      simp [trnL, List.getD_eq_getElem?_getD, this])⟩
theorem regL_range (l : Ln) : (List.range (4 * 1)).map (fun j => Value.int .i64 (l.R j)) = regL l := rfl
theorem trnL_range (l : Ln) : (List.range (l.T.length * 1)).map (fun j => Value.int .i64 (l.T.getD j 0)) = trnL l := by
  refine List.ext_getElem (by simp [trnL]) fun j h1 h2 => ?_
  have : j < l.T.length := by simpa using h1
  simp [trnL, List.getD_eq_getElem?_getD, this]
def CopyP (l : Ln) (w : World) (e : Ending) (w' : World) : Prop := ∃ vr vt, e = .returned (lnV vr vt l) ∧ LnO w w' w.heap.size vr vt l

theorem own_base {w : World} {B B' e s n : Nat} {v : Value} {xs : List Value} (h : w.ownsRow B e s v n xs) (hB : B' ≤ B) : w.ownsRow B' e s v n xs := by
  refine ⟨h.1, ?_⟩
  rcases h.2 with q | ⟨g, cap, cur, rfl, q1, q2, q3⟩
  · exact .inl q
  · exact .inr ⟨g, cap, cur, rfl, Nat.le_trans hB q1, q2, q3⟩
theorem copy_end {w wb wf wz : World} {vr vt : Value} {l : Ln} (hp : Pure w wb) (hs : wb.heap.size = w.heap.size + 2) (h : LnO wb wf wb.heap.size vr vt l) (hc : Chg (fun b => b = w.heap.size + 1) wf wz) : LnO w wz w.heap.size vr vt l :=
  ⟨Chg.pure (hp.trans h.pure) hc (fun k hk => by omega), own_base (own_chg h.l hc (fun g hg e => by have := (own_lt h.l g hg).1; omega)) (by omega), own_base (own_chg h.r hc (fun g hg e => by have := (own_lt h.r g hg).1; omega)) (by omega), h.ne⟩

set_option maxHeartbeats 4000000 in
set_option maxRecDepth 100000 in
theorem l6copy_any (vr vt : Value) (l : Ln) (w : World) (h : LnR w vr vt l) (hT : l.T.length ≤ 1048576) : Calls Try.prog 127 #[lnV vr vt l] w (CopyP l w) := by
  obtain ⟨HR0, HT0⟩ := h
  have HR := Lib.hid HR0
  have HT := Lib.hid HT0
  obtain ⟨Ar, cr, rfl, -⟩ := HR0
  obtain ⟨At, ct, rfl, -⟩ := HT0
  obtain ⟨R, at_, T, W⟩ := l
  obtain ⟨wb, hwb⟩ : ∃ wb, wb = (w.alloc (.cells #[.slice Ar 4 cr, .int .i64 (at_ : Nat), .slice At T.length ct, .bool W] 55)).alloc (.cells #[.slice none 0 0, .int .i64 0, .slice none 0 0, .bool false] 55) := ⟨_, rfl⟩
  have hx := heap_alloc_new w (.cells #[.slice Ar 4 cr, .int .i64 (at_ : Nat), .slice At T.length ct, .bool W] 55)
  have hp0 : Pure (w.alloc (.cells #[.slice Ar 4 cr, .int .i64 (at_ : Nat), .slice At T.length ct, .bool W] 55)) wb := by rw [hwb]; exact (by repeat (first | assumption | exact Pure.refl _ | refine Pure.drewN ?_ _ | refine Pure.drew ?_ | refine Pure.alloc ?_ _ | refine Pure.setCell ?_ (by simp <;> omega) _))
  have hbx := (Chg.of_pure (S := fun _ => False) hp0).heap hx id
  have hpb : Pure w wb := by rw [hwb]; exact (by repeat (first | assumption | exact Pure.refl _ | refine Pure.drewN ?_ _ | refine Pure.drew ?_ | refine Pure.alloc ?_ _ | refine Pure.setCell ?_ (by simp <;> omega) _))
  have hsz : wb.heap.size = w.heap.size + 2 := by rw [hwb]; simp
  have hrs : wb.heap[w.heap.size + 1]? = some (.cells #[.slice none 0 0, .int .i64 0, .slice none 0 0, .bool false] 55 (0, 0)) := by
    rw [hwb]
    have := heap_alloc_new (w.alloc (.cells #[.slice Ar 4 cr, .int .i64 (at_ : Nat), .slice At T.length ct, .bool W] 55)) (.cells #[.slice none 0 0, .int .i64 0, .slice none 0 0, .bool false] 55)
    simpa using this
  have HRS := Lib.hid hrs
  have hlt : w.heap.size < wb.heap.size := by omega
  have q0 := (cell_of_row _ _ 0 _ _ _ hbx).trans (show _ = some (Value.slice Ar 4 cr) from rfl)
  have q1 := (cell_of_row _ _ 1 _ _ _ hbx).trans (show _ = some (Value.int .i64 (at_ : Nat)) from rfl)
  have q2 := (cell_of_row _ _ 2 _ _ _ hbx).trans (show _ = some (Value.slice At T.length ct) from rfl)
  have q3 := (cell_of_row _ _ 3 _ _ _ hbx).trans (show _ = some (Value.bool W) from rfl)
  have HS : Hid (∀ u, Pure wb u → u.cell? ⟨w.heap.size, 0, none⟩ = some (.slice Ar 4 cr) ∧ u.cell? ⟨w.heap.size, 1, none⟩ = some (.int .i64 (at_ : Nat)) ∧ u.cell? ⟨w.heap.size, 2, none⟩ = some (.slice At T.length ct) ∧ u.cell? ⟨w.heap.size, 3, none⟩ = some (.bool W)) :=
    Lib.hid fun u hu => ⟨(hu.cell _ _ hlt).trans q0, (hu.cell _ _ hlt).trans q1, (hu.cell _ _ hlt).trans q2, (hu.cell _ _ hlt).trans q3⟩
  have HPB := Lib.hid hpb
  have HRb : ∀ u, Pure wb u → Cells u (.slice Ar 4 cr) 4 1 (fun j => .int .i64 (R j)) := fun u hu => HR.out.keep (HPB.out.trans hu)
  have HTb : ∀ u, Pure wb u → Cells u (.slice At T.length ct) T.length 1 (fun j => .int .i64 (T.getD j 0)) := fun u hu => HT.out.keep (HPB.out.trans hu)
  have HRB := Lib.hid HRb
  have HTB := Lib.hid HTb
  clear hx hp0 hbx hrs q0 q1 q2 q3 HRb HTb hpb
  simp only at hT
  go_enter Try.func127, Try.ntmps127
  unfold lnV
  go_wp2
  try rw [← hwb]
  clear hwb
  refine region_way (fun u => u.cell? ⟨w.heap.size, 0, none⟩ = some (.slice Ar 4 cr) ∧ u.cell? ⟨w.heap.size, 1, none⟩ = some (.int .i64 (at_ : Nat)) ∧ u.cell? ⟨w.heap.size, 2, none⟩ = some (.slice At T.length ct) ∧ u.cell? ⟨w.heap.size, 3, none⟩ = some (.bool W)) [1, 2, 4, 5, 7, 8, 10, 11] 6 13 (fun l => (l.drop 1).take 2 ++ (l.drop 4).take 2 ++ (l.drop 7).take 2 ++ (l.drop 10).take 2) (by kernel_rfl) (by kernel_rfl) (by kernel_rfl) (fun c a d v w h => by cases d <;> exact h) (HS.out _ (show Pure wb wb.drew from (by repeat (first | assumption | exact Pure.refl _ | refine Pure.drewN ?_ _ | refine Pure.drew ?_ | refine Pure.alloc ?_ _ | refine Pure.setCell ?_ (by simp <;> omega) _)))) ?_
  simp only [List.take_succ_cons, List.take_zero, List.drop_succ_cons, List.drop_zero, List.cons_append, List.nil_append]
  iterate 8
    apply held_of
    · exact rfl
    · intro w' hS
      have s0 := hS.1
      have s1 := hS.2.1
      have s2 := hS.2.2.1
      have s3 := hS.2.2.2
      go_simp
      try exact rfl
    try go_simp
  refine held_nil ?_
  obtain ⟨wd, hwd⟩ : ∃ wd, wd = wb.drew := ⟨_, rfl⟩
  have hpd : Pure wb wd := by rw [hwd]; exact (by repeat (first | assumption | exact Pure.refl _ | refine Pure.drewN ?_ _ | refine Pure.drew ?_ | refine Pure.alloc ?_ _ | refine Pure.setCell ?_ (by simp <;> omega) _))
  have HPD := Lib.hid (HPB.out.trans hpd)
  have HSZ : Hid (wd.heap.size = w.heap.size + 2) := Lib.hid (by rw [hwd]; simpa using hsz)
  have HRSD := Lib.hid ((Chg.of_pure (S := fun _ => False) hpd).heap HRS.out id)
  have HSD := Lib.hid (fun u (hu : Pure wd u) => HS.out u (hpd.trans hu))
  have HRD := Lib.hid (fun u (hu : Pure wd u) => HRB.out u (hpd.trans hu))
  have HTD := Lib.hid (fun u (hu : Pure wd u) => HTB.out u (hpd.trans hu))
  rw [← hwd]
  clear hwd hpd HS HRB HTB HRS HPB hsz hlt wb
  refine anyK_two (i := 0) (j := 6) (by kernel_rfl) rfl rfl ?_ ?_
  · skip
    go_wp2
    have HO := Lib.hid (own_empty (w := wd) (B := wd.heap.size) (e := 3) (s := 1) (Nat.le_refl _))
    have HP := Lib.hid (show Pure wd (wd.alloc (.cells #[] 3)) from (by repeat (first | assumption | exact Pure.refl _ | refine Pure.drewN ?_ _ | refine Pure.drew ?_ | refine Pure.alloc ?_ _ | refine Pure.setCell ?_ (by simp <;> omega) _)))
    refine And.intro (fun _ => HSD.out _ HP.out) ?_
    refine anyK_two (i := 3) (j := 6) (by kernel_rfl) rfl rfl ?_ ?_
    · skip
      refine wl_appendR elInt rfl _ _ rfl wd.heap.size _ 0 [] rfl HO.out _ rfl (fun j => .int .i64 (R j)) 4 (HRD.out _ HP.out) (fun j _ => rfl) (by decide) (by omega) HP.out.size ?_
      intro va w1 r1 r2 r3
      have HP := Lib.hid (HP.out.grown r2 (fun k hk => (own_lt HO.out k hk).1))
      rw [regL_range ⟨R, at_, T, W⟩, Nat.zero_add, List.nil_append] at r1; obtain ⟨ga, ca, rfl, -⟩ := own_form r1 (by omega)
      have HO : Hid (w1.ownsRow wd.heap.size 3 1 (.slice (some ⟨ga, 0, none⟩) 4 ca) 4 (regL ⟨R, at_, T, W⟩)) := Lib.hid (r1)
      clear r1 r2 r3
      go_wp2
      refine And.intro (fun _ => HSD.out _ HP.out) ?_
      refine anyK_one (i := 6) (by kernel_rfl) rfl ?_
      go_wp2
      have HX := Lib.hid (Two.first HP.out HO.out HP.out.size)
      refine And.intro (fun _ => HSD.out _ HX.out.pure) ?_
      refine anyK_one (i := 9) (by kernel_rfl) rfl ?_
      refine wl_appendR elInt rfl _ _ rfl wd.heap.size _ 0 [] rfl HX.out.r _ rfl (fun j => .int .i64 (T.getD j 0)) T.length (HTD.out _ HX.out.pure) (fun j _ => rfl) (by decide) (by omega) HX.out.pure.size ?_
      intro vt w3 r1 r2 r3
      rw [trnL_range ⟨R, at_, T, W⟩, Nat.zero_add, List.nil_append] at r1; obtain ⟨Ta, cta, rfl⟩ := (OwnO.of_own (show _ from r1)).form
      have HX := Lib.hid (HX.out.right (Nat.le_refl _) (show w3.ownsRow wd.heap.size 3 1 (.slice Ta T.length cta) T.length (trnL ⟨R, at_, T, W⟩) from r1) r2 r3)
      clear r1 r2 r3
      go_wp2
      refine And.intro (fun _ => HSD.out _ HX.out.pure) ?_
      refine anyK_one (i := 12) (by kernel_rfl) rfl ?_
      go_wp2
      refine And.intro (fun _ => HSD.out _ HX.out.pure) ?_
      refine anyK_one (i := 13) (by kernel_rfl) rfl ?_
      have hres := (Chg.of_pure (S := fun _ => False) HX.out.pure).heap HRSD.out id
      have k0 := cell_of_row _ _ 0 _ _ _ hres
      have k1 := cell_of_row _ _ 1 _ _ _ hres
      have k2 := cell_of_row _ _ 2 _ _ _ hres
      have k3 := cell_of_row _ _ 3 _ _ _ hres
      simp only [List.getElem?_toArray, List.getElem?_cons_zero, List.getElem?_cons_succ] at k0 k1 k2 k3
      have kf := fun j => frozen_of_row _ _ j _ _ hres
      have kf0 := kf 0
      have kf1 := kf 1
      have kf2 := kf 2
      have kf3 := kf 3
      clear hres kf
      go_wp2
      refine And.intro (by first | exact fun h => absurd rfl h | exact fun h => h.elim | simp) ?_
      refine anyK_end (by kernel_rfl) ?_
      go_wp2
      refine bodyPost_ret (v := lnV (.slice (some ⟨ga, 0, none⟩) 4 ca) (.slice Ta T.length cta) ⟨R, at_, T, W⟩) (by simp [results, Try.results127, lnV, go_sem, k0, k1, k2, k3]) rfl ?_
      have hcw : ∀ (u : World) (i : Nat) (x : Value), Chg (fun b => b = w.heap.size + 1) u (u.setCell ⟨w.heap.size + 1, i, none⟩ x) := fun u i x => Chg.of_set u _ _ _ rfl
      exact ⟨_, _, rfl, copy_end HPD.out HSZ.out HX.out ((((hcw _ _ _).trans (hcw _ _ _)).trans (hcw _ _ _)).trans (hcw _ _ _))⟩
    · skip
      go_wp2
      have HX := Lib.hid (Two.first HP.out HO.out HP.out.size)
      have h := HX.out
      rw [show (wd.alloc (.cells #[] 3)).heap.size = wd.heap.size + 1 from by simp] at h
      have HX := Lib.hid h
      clear h
      refine And.intro (fun _ => HSD.out _ HX.out.pure) ?_
      refine anyK_one (i := 3) (by kernel_rfl) rfl ?_
      refine wl_appendR elInt rfl _ _ rfl wd.heap.size _ 0 [] rfl HX.out.l _ rfl (fun j => .int .i64 (R j)) 4 (HRD.out _ HX.out.pure) (fun j _ => rfl) (by decide) (by omega) HX.out.pure.size ?_
      intro va w2 r1 r2 r3
      rw [regL_range ⟨R, at_, T, W⟩, Nat.zero_add, List.nil_append] at r1; obtain ⟨ga, ca, rfl, -⟩ := own_form r1 (by omega)
      have HX := Lib.hid (HX.out.left (Nat.le_refl _) (show w2.ownsRow wd.heap.size 3 1 (.slice (some ⟨ga, 0, none⟩) 4 ca) 4 (regL ⟨R, at_, T, W⟩) from r1) r2 r3)
      clear r1 r2 r3
      go_wp2
      refine And.intro (fun _ => HSD.out _ HX.out.pure) ?_
      refine anyK_one (i := 9) (by kernel_rfl) rfl ?_
      refine wl_appendR elInt rfl _ _ rfl wd.heap.size _ 0 [] rfl HX.out.r _ rfl (fun j => .int .i64 (T.getD j 0)) T.length (HTD.out _ HX.out.pure) (fun j _ => rfl) (by decide) (by omega) HX.out.pure.size ?_
      intro vt w3 r1 r2 r3
      rw [trnL_range ⟨R, at_, T, W⟩, Nat.zero_add, List.nil_append] at r1; obtain ⟨Ta, cta, rfl⟩ := (OwnO.of_own (show _ from r1)).form
      have HX := Lib.hid (HX.out.right (Nat.le_refl _) (show w3.ownsRow wd.heap.size 3 1 (.slice Ta T.length cta) T.length (trnL ⟨R, at_, T, W⟩) from r1) r2 r3)
      clear r1 r2 r3
      go_wp2
      refine And.intro (fun _ => HSD.out _ HX.out.pure) ?_
      refine anyK_one (i := 12) (by kernel_rfl) rfl ?_
      go_wp2
      refine And.intro (fun _ => HSD.out _ HX.out.pure) ?_
      refine anyK_one (i := 13) (by kernel_rfl) rfl ?_
      have hres := (Chg.of_pure (S := fun _ => False) HX.out.pure).heap HRSD.out id
      have k0 := cell_of_row _ _ 0 _ _ _ hres
      have k1 := cell_of_row _ _ 1 _ _ _ hres
      have k2 := cell_of_row _ _ 2 _ _ _ hres
      have k3 := cell_of_row _ _ 3 _ _ _ hres
      simp only [List.getElem?_toArray, List.getElem?_cons_zero, List.getElem?_cons_succ] at k0 k1 k2 k3
      have kf := fun j => frozen_of_row _ _ j _ _ hres
      have kf0 := kf 0
      have kf1 := kf 1
      have kf2 := kf 2
      have kf3 := kf 3
      clear hres kf
      go_wp2
      refine And.intro (by first | exact fun h => absurd rfl h | exact fun h => h.elim | simp) ?_
      refine anyK_end (by kernel_rfl) ?_
      go_wp2
      refine bodyPost_ret (v := lnV (.slice (some ⟨ga, 0, none⟩) 4 ca) (.slice Ta T.length cta) ⟨R, at_, T, W⟩) (by simp [results, Try.results127, lnV, go_sem, k0, k1, k2, k3]) rfl ?_
      have hcw : ∀ (u : World) (i : Nat) (x : Value), Chg (fun b => b = w.heap.size + 1) u (u.setCell ⟨w.heap.size + 1, i, none⟩ x) := fun u i x => Chg.of_set u _ _ _ rfl
      exact ⟨_, _, rfl, copy_end HPD.out HSZ.out HX.out ((((hcw _ _ _).trans (hcw _ _ _)).trans (hcw _ _ _)).trans (hcw _ _ _))⟩
  · skip
    go_wp2
    have HO := Lib.hid (own_empty (w := wd) (B := wd.heap.size) (e := 3) (s := 1) (Nat.le_refl _))
    have HP := Lib.hid (show Pure wd (wd.alloc (.cells #[] 3)) from (by repeat (first | assumption | exact Pure.refl _ | refine Pure.drewN ?_ _ | refine Pure.drew ?_ | refine Pure.alloc ?_ _ | refine Pure.setCell ?_ (by simp <;> omega) _)))
    refine And.intro (fun _ => HSD.out _ HP.out) ?_
    refine anyK_one (i := 0) (by kernel_rfl) rfl ?_
    go_wp2
    have HX := Lib.hid (Two.first HP.out HO.out HP.out.size)
    have h := HX.out
    rw [show (wd.alloc (.cells #[] 3)).heap.size = wd.heap.size + 1 from by simp] at h
    have HX := Lib.hid h
    clear h
    have HX := Lib.hid HX.out.swap
    refine And.intro (fun _ => HSD.out _ HX.out.pure) ?_
    refine anyK_one (i := 3) (by kernel_rfl) rfl ?_
    refine wl_appendR elInt rfl _ _ rfl wd.heap.size _ 0 [] rfl HX.out.l _ rfl (fun j => .int .i64 (R j)) 4 (HRD.out _ HX.out.pure) (fun j _ => rfl) (by decide) (by omega) HX.out.pure.size ?_
    intro va w2 r1 r2 r3
    rw [regL_range ⟨R, at_, T, W⟩, Nat.zero_add, List.nil_append] at r1; obtain ⟨ga, ca, rfl, -⟩ := own_form r1 (by omega)
    have HX := Lib.hid (HX.out.left (Nat.le_refl _) (show w2.ownsRow wd.heap.size 3 1 (.slice (some ⟨ga, 0, none⟩) 4 ca) 4 (regL ⟨R, at_, T, W⟩) from r1) r2 r3)
    clear r1 r2 r3
    go_wp2
    refine And.intro (fun _ => HSD.out _ HX.out.pure) ?_
    refine anyK_one (i := 9) (by kernel_rfl) rfl ?_
    refine wl_appendR elInt rfl _ _ rfl wd.heap.size _ 0 [] rfl HX.out.r _ rfl (fun j => .int .i64 (T.getD j 0)) T.length (HTD.out _ HX.out.pure) (fun j _ => rfl) (by decide) (by omega) HX.out.pure.size ?_
    intro vt w3 r1 r2 r3
    rw [trnL_range ⟨R, at_, T, W⟩, Nat.zero_add, List.nil_append] at r1; obtain ⟨Ta, cta, rfl⟩ := (OwnO.of_own (show _ from r1)).form
    have HX := Lib.hid (HX.out.right (Nat.le_refl _) (show w3.ownsRow wd.heap.size 3 1 (.slice Ta T.length cta) T.length (trnL ⟨R, at_, T, W⟩) from r1) r2 r3)
    clear r1 r2 r3
    go_wp2
    refine And.intro (fun _ => HSD.out _ HX.out.pure) ?_
    refine anyK_one (i := 12) (by kernel_rfl) rfl ?_
    go_wp2
    refine And.intro (fun _ => HSD.out _ HX.out.pure) ?_
    refine anyK_one (i := 13) (by kernel_rfl) rfl ?_
    have hres := (Chg.of_pure (S := fun _ => False) HX.out.pure).heap HRSD.out id
    have k0 := cell_of_row _ _ 0 _ _ _ hres
    have k1 := cell_of_row _ _ 1 _ _ _ hres
    have k2 := cell_of_row _ _ 2 _ _ _ hres
    have k3 := cell_of_row _ _ 3 _ _ _ hres
    simp only [List.getElem?_toArray, List.getElem?_cons_zero, List.getElem?_cons_succ] at k0 k1 k2 k3
    have kf := fun j => frozen_of_row _ _ j _ _ hres
    have kf0 := kf 0
    have kf1 := kf 1
    have kf2 := kf 2
    have kf3 := kf 3
    clear hres kf
    go_wp2
    refine And.intro (by first | exact fun h => absurd rfl h | exact fun h => h.elim | simp) ?_
    refine anyK_end (by kernel_rfl) ?_
    go_wp2
    refine bodyPost_ret (v := lnV (.slice (some ⟨ga, 0, none⟩) 4 ca) (.slice Ta T.length cta) ⟨R, at_, T, W⟩) (by simp [results, Try.results127, lnV, go_sem, k0, k1, k2, k3]) rfl ?_
    have hcw : ∀ (u : World) (i : Nat) (x : Value), Chg (fun b => b = w.heap.size + 1) u (u.setCell ⟨w.heap.size + 1, i, none⟩ x) := fun u i x => Chg.of_set u _ _ _ rfl
    exact ⟨_, _, rfl, copy_end HPD.out HSZ.out HX.out ((((hcw _ _ _).trans (hcw _ _ _)).trans (hcw _ _ _)).trans (hcw _ _ _))⟩

end Go.Proofs.Ytajaonejpggcbaa
